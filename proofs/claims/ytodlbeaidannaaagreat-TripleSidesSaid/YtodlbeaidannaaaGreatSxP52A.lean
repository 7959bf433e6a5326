/-
Chapter 52, plain: numbers, bytes, names of tokens.
-/
import Derived.Test.YtodlbeaidannaaaGreatSxKit
import Derived.Test.YtodlbeaidannaaaGreatSxPrim52
set_option linter.unusedVariables false
set_option linter.unusedSimpArgs false
set_option linter.unusedSectionVars false
namespace Go.SX.T52
open Go.SX

/-! ### Bytes -/
def letterB (c : Int) : Bool := (leI 97 c && leI c 122) || (leI 65 c && leI c 90)
def digitB (c : Int) : Bool := leI 48 c && leI c 57
def partB (c : Int) : Bool := letterB c || (digitB c || eqI c 95)
def quotB (c : Int) : Bool := leI 32 c && (leI c 126 && !eqI c 34)
theorem some_bool {a b : Bool} (h : a = b) : some [D.bool a] = some [D.bool b] := by rw [h]
theorem some_int {a b : Int} (h : a = b) : some [D.int a] = some [D.int b] := by rw [h]
theorem e1200 (c : Int) : ev 1200 [.int c] = some [.bool (letterB c)] := by
  refine ev_by u1200 ?_
  simp only [t1200, go_sem, letterB]
  repeat' (refine cond_split (fun h => ?_) (fun h => ?_) <;> (try simp only [leI_iff, ltI_iff, eqI_iff, eqS_iff, leI_false, ltI_false, eqI_false, eqS_false] at h))
  all_goals (first | rfl | (refine some_bool ?_; rw [Bool.eq_iff_iff]; simp [leI_iff, ltI_iff, eqI_iff, eqS_iff, leI_false, ltI_false, eqI_false, eqS_false] <;> omega))
theorem e1500 (c : Int) : ev 1500 [.int c] = some [.bool (digitB c)] := by
  refine ev_by u1500 ?_
  simp only [t1500, go_sem, digitB]
  repeat' (refine cond_split (fun h => ?_) (fun h => ?_) <;> (try simp only [leI_iff, ltI_iff, eqI_iff, eqS_iff, leI_false, ltI_false, eqI_false, eqS_false] at h))
  all_goals (first | rfl | (refine some_bool ?_; rw [Bool.eq_iff_iff]; simp [leI_iff, ltI_iff, eqI_iff, eqS_iff, leI_false, ltI_false, eqI_false, eqS_false] <;> omega))
theorem e1400 (c : Int) : ev 1400 [.int c] = some [.bool (partB c)] := by
  refine ev_by u1400 ?_
  simp only [t1400, go_sem, e1200, e1500, partB]
  cases letterB c <;> cases digitB c <;> rfl
theorem e1900 (c : Int) : ev 1900 [.int c] = some [.bool (quotB c)] := by
  refine ev_by u1900 ?_
  simp only [t1900, go_sem, quotB]
  repeat' (refine cond_split (fun h => ?_) (fun h => ?_) <;> (try simp only [leI_iff, ltI_iff, eqI_iff, eqS_iff, leI_false, ltI_false, eqI_false, eqS_false] at h))
  all_goals (first | rfl | (refine some_bool ?_; rw [Bool.eq_iff_iff]; simp [leI_iff, ltI_iff, eqI_iff, eqS_iff, leI_false, ltI_false, eqI_false, eqS_false] <;> omega))
theorem e8500 (c : Int) : ev 8500 [.int c] = some [.bool (letterB c)] := by
  refine ev_by u8500 ?_
  simp only [t8500, go_sem, letterB]
  repeat' (refine cond_split (fun h => ?_) (fun h => ?_) <;> (try simp only [leI_iff, ltI_iff, eqI_iff, eqS_iff, leI_false, ltI_false, eqI_false, eqS_false] at h))
  all_goals (first | rfl | (refine some_bool ?_; rw [Bool.eq_iff_iff]; simp [leI_iff, ltI_iff, eqI_iff, eqS_iff, leI_false, ltI_false, eqI_false, eqS_false] <;> omega))
theorem e8600 (c : Int) : ev 8600 [.int c] = some [.bool (digitB c)] := by
  refine ev_by u8600 ?_
  simp only [t8600, go_sem, digitB]
  repeat' (refine cond_split (fun h => ?_) (fun h => ?_) <;> (try simp only [leI_iff, ltI_iff, eqI_iff, eqS_iff, leI_false, ltI_false, eqI_false, eqS_false] at h))
  all_goals (first | rfl | (refine some_bool ?_; rw [Bool.eq_iff_iff]; simp [leI_iff, ltI_iff, eqI_iff, eqS_iff, leI_false, ltI_false, eqI_false, eqS_false] <;> omega))

/-! ### Runs -/
/-- Short enough to count without a wrap. -/
abbrev Short (s : ByteArray) : Prop := s.size ≤ 1048576
theorem e1301 (s : ByteArray) (hs : Short s) : ∀ i, i ≤ s.size → ev 1301 [.str s, .int i] = some [.int (runK (fun j => partB (byteAt s j)) (s.size - i) i)] := by
  refine down ?_ fun i hi ih => ?_
  · refine ev_by u1301 ?_
    simp only [t1301, go_sem, runK_end, ltI_irr]
  · refine ev_by u1301 ?_
    simp only [t1301, go_sem, e1400]
    rw [runK_step _ hi, nowrap (by omega) (by omega), cond_lt (by omega), cond_in (by omega) (by omega)]
    cases partB (byteAt s i)
    · rfl
    · exact ih
theorem e1601 (s : ByteArray) (hs : Short s) : ∀ i, i ≤ s.size → ev 1601 [.str s, .int i] = some [.int (runK (fun j => digitB (byteAt s j)) (s.size - i) i)] := by
  refine down ?_ fun i hi ih => ?_
  · refine ev_by u1601 ?_
    simp only [t1601, go_sem, runK_end, ltI_irr]
  · refine ev_by u1601 ?_
    simp only [t1601, go_sem, e1500]
    rw [runK_step _ hi, nowrap (by omega) (by omega), cond_lt (by omega), cond_in (by omega) (by omega)]
    cases digitB (byteAt s i)
    · rfl
    · exact ih
theorem e1801 (s : ByteArray) (hs : Short s) : ∀ i, i ≤ s.size → ev 1801 [.str s, .int i] = some [.int (runK (fun j => quotB (byteAt s j)) (s.size - i) i)] := by
  refine down ?_ fun i hi ih => ?_
  · refine ev_by u1801 ?_
    simp only [t1801, go_sem, runK_end, ltI_irr]
  · refine ev_by u1801 ?_
    simp only [t1801, go_sem, e1900]
    rw [runK_step _ hi, nowrap (by omega) (by omega), cond_lt (by omega), cond_in (by omega) (by omega)]
    cases quotB (byteAt s i)
    · rfl
    · exact ih
def runOf (p : Int → Bool) (s : ByteArray) : Nat := runK (fun j => p (byteAt s j)) s.size 0
theorem runOf_le (p : Int → Bool) (s : ByteArray) : runOf p s ≤ s.size := by
  have := (runK_le (fun j => p (byteAt s j)) s.size 0).2
  unfold runOf
  omega
theorem e1300 (s : ByteArray) (hs : Short s) : ev 1300 [.str s] = some [.int (runOf partB s)] := by
  refine ev_by u1300 ?_
  simp only [t1300, go_sem]
  exact e1301 s hs 0 (by omega)
theorem e1600 (s : ByteArray) (hs : Short s) : ev 1600 [.str s] = some [.int (runOf digitB s)] := by
  refine ev_by u1600 ?_
  simp only [t1600, go_sem]
  exact e1601 s hs 0 (by omega)
theorem e1800 (s : ByteArray) (hs : Short s) : ev 1800 [.str s] = some [.int (runOf quotB s)] := by
  refine ev_by u1800 ?_
  simp only [t1800, go_sem]
  exact e1801 s hs 0 (by omega)
/-- A string token's length: some answer. -/
theorem e1700 (s : ByteArray) (hs : Short s) (h0 : 1 ≤ s.size) : ∃ a b : Int, ev 1700 [.str s] = some [.int a, .int b] := by
  have hx : (s.extract 1 s.size).size = s.size - 1 := by simp
  have hs' : Short (s.extract 1 s.size) := by unfold Short; omega
  have hr := runOf_le quotB (s.extract 1 s.size)
  have e := e1800 _ hs'
  generalize runOf quotB (s.extract 1 s.size) = r at *
  have key : ∃ a b : Int, t1700.go ev [.str s] = some [.int a, .int b] := by
    simp only [t1700, go_sem, e]
    rw [nowrap (n := 1 + (r : Int)) (by omega) (by omega), nowrap (n := (r : Int) + 2) (by omega) (by omega), cond_le (by omega)]
    refine cond_ex (p := fun o => ∃ a b : Int, o = some [D.int a, D.int b]) (fun h => ⟨_, _, rfl⟩) fun h => ?_
    rw [eqI_false] at h
    rw [cond_in (by omega) (by omega)]
    refine cond_ex (p := fun o => ∃ a b : Int, o = some [D.int a, D.int b]) (fun h => ?_) fun h => ⟨_, _, rfl⟩
    exact cond_ex (p := fun o => ∃ a b : Int, o = some [D.int a, D.int b]) (fun h => ⟨_, _, rfl⟩) fun h => ⟨_, _, rfl⟩
  obtain ⟨a, b, h⟩ := key
  exact ⟨a, b, ev_by u1700 h⟩
/-- A list of strings. -/
abbrev strsD (l : List ByteArray) : D := .list (l.map D.str)
theorem e2201 (l : List ByteArray) (s : ByteArray) (hl : l.length ≤ 1048576) (x : D) : ∀ i, i ≤ l.length → ev 2201 [strsD l, .str s, x, .int l.length, .int i] = some [.int (findK (fun j => eqS s (l.getD j default)) (l.length - i) i)] := by
  refine down ?_ fun i hi ih => ?_
  · refine ev_by u2201 ?_
    simp only [t2201, go_sem, findK_end, ltI_irr]
  · refine ev_by u2201 ?_
    simp only [t2201, go_sem, List.length_map, idx_map _ _ _ hi]
    rw [findK_step _ hi, nowrap (by omega) (by omega), cond_lt (by omega), cond_in (by omega) (by omega)]
    cases eqS s (l.getD i default)
    · exact ih
    · rfl
def hasS (l : List ByteArray) (s : ByteArray) : Bool := anyK (fun j => eqS s (l.getD j default)) l.length 0
theorem e2200 (l : List ByteArray) (s : ByteArray) (hl : l.length ≤ 1048576) : ev 2200 [strsD l, .str s] = some [.int (findK (fun j => eqS s (l.getD j default)) l.length 0)] := by
  refine ev_by u2200 ?_
  simp only [t2200, go_sem, List.length_map]
  exact e2201 l s hl _ 0 (by omega)
theorem leI_find (p : Nat → Bool) (k i : Nat) : leI 0 (findK p k i) = anyK p k i := by
  rw [← findK_any]; rfl
theorem e2100 (l : List ByteArray) (s : ByteArray) (hl : l.length ≤ 1048576) : ev 2100 [strsD l, .str s] = some [.bool (hasS l s)] := by
  refine ev_by u2100 ?_
  simp only [t2100, go_sem, e2200 l s hl, leI_find]
  rfl
theorem e2000 (s : ByteArray) : ∃ b : Bool, ev 2000 [.str s] = some [.bool b] := by
  have key : ∃ b : Bool, t2000.go ev [.str s] = some [.bool b] := by
    simp only [t2000, go_sem]
    refine cond_ex (p := fun o => ∃ b : Bool, o = some [D.bool b]) (fun h => ?_) fun h => ⟨_, rfl⟩
    · have := e2100 [⟨#[45, 62]⟩, ⟨#[60, 61]⟩, ⟨#[62, 61]⟩, ⟨#[61, 61]⟩, ⟨#[33, 61]⟩] (s.extract 0 2) (by simp)
      simp only [strsD, go_sem] at this
      simp only [this, go_sem]
      exact ⟨_, rfl⟩
  obtain ⟨b, h⟩ := key
  exact ⟨b, ev_by u2000 h⟩
theorem e2500 (s : ByteArray) (c : Int) : ev 2500 [.str s, .int c] = some [.int (Lib.indexByte s.data.toList c.toNat.toUInt8)] :=
  (evr_iff primDet).2 (ev_prim (by kernel_rfl) ⟨rfl, s, c, rfl, rfl⟩)
theorem e2400 (s : ByteArray) (c : Int) : ev 2400 [.str s, .int c] = some [.int (Lib.indexByte s.data.toList c.toNat.toUInt8)] := by
  refine ev_by u2400 ?_
  simp only [t2400, go_sem, e2500]
theorem e2300 (s : ByteArray) (c : Int) : ev 2300 [.str s, .int c] = some [.int (Lib.indexByte s.data.toList c.toNat.toUInt8)] := by
  refine ev_by u2300 ?_
  simp only [t2300, go_sem, e2400]
end Go.SX.T52
