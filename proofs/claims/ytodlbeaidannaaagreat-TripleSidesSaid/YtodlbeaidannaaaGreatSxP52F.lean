/-
Chapter 52, plain: sorts exchanged; arguments as they come.
-/
import Derived.Test.YtodlbeaidannaaaGreatSxP52E
import Derived.Test.YtodlbeaidannaaaGreatSxOpen
import Derived.Test.YtodlbeaidannaaaGreatSxT52
set_option linter.unusedVariables false
set_option linter.unusedSimpArgs false
set_option linter.unusedSectionVars false
namespace Go.SX.T52
open Go.SX

/-! ### 1 and 3 exchanged -/
def turn (l : List Int) : List Int := l.map (4 - ·)
theorem e11100 {l : List Int} (hl : l.length ≤ 1000000) : ev 11100 [intsD l] = some [intsD l] := by
  refine ev_by u11100 ?_
  unfold t11100
  have h1 : (T.ck (.o2 .le (.o1 .len (.v 0)) (.i 1073741824)) (.ret [.v 0])).go ev [intsD l] = some [intsD l] := by
    simp only [go_sem, List.length_map]
    rw [cond_le (by omega)]
  rw [go_am_eq]
  · exact h1
  · intro h0
    have h0' : l.map D.int = [] := h0
    rw [h1]
    show some [D.list []] = some [D.list (l.map D.int)]
    rw [h0']
theorem e11001 (x : D) : ∀ n : Nat, n ≤ 1000000 → ∀ i, i ≤ n → ∀ l : List Int, l.length = n → (∀ y, y ∈ l → 0 ≤ y ∧ y ≤ 4) → ev 11001 [x, .int n, .int i, intsD l] = some [intsD (l.take i ++ turn (l.drop i))] := by
  intro n hn
  refine down ?_ fun i hi ih => ?_
  · intro l hl hb
    refine ev_by u11001 ?_
    simp only [t11001, go_sem, ltI_irr]
    rw [← hl, List.drop_length, List.take_length]
    simp [turn]
  · intro l hl hb
    have hin : (leI 0 i && ltI i l.length) = true := by rw [and_iff, leI_iff, ltI_iff]; omega
    have hi' : i < l.length := by omega
    obtain ⟨b1, b2⟩ := hb _ (getD_mem hi')
    have h2 := ih (l.set i (4 - l.getD i default)) (by simp [hl]) (fun y hy => by
      rcases List.mem_or_eq_of_mem_set hy with h | h
      · exact hb y h
      · rw [h]; omega)
    refine ev_by u11001 ?_
    simp only [t11001, go_sem, List.length_map, idx_map _ _ _ hi', hin, nowrap (n := 4 - l.getD i default) (by omega) (by omega), wrapS i (by omega)]
    rw [cond_lt (by omega)]
    have e1 : (l.map D.int).set i (.int (4 - l.getD i default)) = (l.set i (4 - l.getD i default)).map D.int := by rw [List.map_set]
    rw [e1]
    refine h2.trans ?_
    congr 3
    have e2 : l.drop i = l.getD i default :: l.drop (i + 1) := by
      rw [List.drop_eq_getElem_cons hi', List.getD_eq_getElem?_getD, List.getElem?_eq_getElem hi']
      rfl
    have e3 : (l.set i (4 - l.getD i default)).take (i + 1) = l.take i ++ [4 - l.getD i default] := by
      rw [List.take_add_one, List.take_set_of_le (Nat.le_refl i), List.getElem?_set_self hi']
      rfl
    have e4 : (l.set i (4 - l.getD i default)).drop (i + 1) = l.drop (i + 1) := List.drop_set_of_lt (by omega)
    rw [e3, e4, e2]
    simp [turn]
theorem e11000 {l : List Int} (hl : l.length ≤ 1000000) (hb : ∀ y, y ∈ l → 0 ≤ y ∧ y ≤ 4) : ev 11000 [intsD l] = some [intsD (turn l)] := by
  refine ev_by u11000 ?_
  simp only [t11000, go_sem, e11100 hl, List.length_map]
  have := e11001 (intsD l) l.length hl 0 (by omega) l rfl hb
  simpa using this
theorem e11301 (l : List Int) (hl : l.length ≤ 1000000) (hb : ∀ y, y ∈ l → 0 ≤ y ∧ y ≤ 4) : ∀ i, i ≤ l.length → ∀ o : List Int, o.length = i → ev 11301 [intsD l, .int i, intsD o] = some [intsD (o ++ turn (l.drop i))] := by
  refine down ?_ fun i hi ih => ?_
  · intro o ho
    refine ev_by u11301 ?_
    simp only [t11301, go_sem, List.length_map, ltI_irr]
    simp [turn]
  · intro o ho
    have hin : (leI 0 i && ltI i l.length) = true := by rw [and_iff, leI_iff, ltI_iff]; omega
    obtain ⟨b1, b2⟩ := hb _ (getD_mem hi)
    have h2 := ih (o ++ [4 - l.getD i default]) (by simp [ho])
    refine ev_by u11301 ?_
    simp only [t11301, go_sem, List.length_map, idx_map _ _ _ hi, hin, nowrap (n := 4 - l.getD i default) (by omega) (by omega), wrapS i (by omega)]
    rw [cond_lt (by omega), cond_le (by omega)]
    have e1 : o.map D.int ++ [.int (4 - l.getD i default)] = (o ++ [4 - l.getD i default]).map D.int := by simp
    rw [e1]
    refine h2.trans ?_
    have e2 : l.drop i = l.getD i default :: l.drop (i + 1) := by
      rw [List.drop_eq_getElem_cons hi, List.getD_eq_getElem?_getD, List.getElem?_eq_getElem hi]
      rfl
    rw [e2]
    simp [turn]
theorem e11300 {l : List Int} (hl : l.length ≤ 1000000) (hb : ∀ y, y ∈ l → 0 ≤ y ∧ y ≤ 4) : ev 11300 [intsD l] = some [intsD (turn l)] := by
  refine ev_by u11300 ?_
  simp only [t11300, go_sem]
  exact e11301 l hl hb 0 (by omega) [] rfl
theorem turn_turn (l : List Int) : turn (turn l) = l := by
  unfold turn
  rw [List.map_map]
  conv => rhs; rw [← List.map_id l]
  apply List.map_congr_left
  intro x _
  show 4 - (4 - x) = id x
  simp
  omega
theorem turn_get {l : List Int} {i : Nat} (h : i < l.length) : (turn l).getD i default = 4 - l.getD i default := by
  simp [turn, List.getD_eq_getElem?_getD, h]
theorem sortB_turn (s : Int) : sortB (4 - s) = sortB s := by
  unfold sortB
  rw [Bool.eq_iff_iff]
  simp only [and_iff, leI_iff]
  omega
theorem eqI_turn (a b : Int) : eqI (4 - a) (4 - b) = eqI a b := by
  rw [Bool.eq_iff_iff, eqI_iff, eqI_iff]
  omega
theorem eqI_turn2 (a : Int) : eqI (4 - a) 2 = eqI a 2 := by
  rw [Bool.eq_iff_iff, eqI_iff, eqI_iff]
  omega
theorem sortsErr_ok {ns : List Nd} {es : List Ed} {sn se : List Int} (h : sortsErr ns es sn se = 0) : typesErr ns es = 0 ∧ sn.length = ns.length ∧ se.length = es.length ∧ (∀ j, j < ns.length → nodeSort ns sn j = 0) ∧ ∀ j, j < es.length → edgeSort es sn se j = 0 := by
  unfold sortsErr thenE at h
  split at h
  · rename_i h0
    split at h
    · rename_i h1
      split at h
      · rename_i h2
        split at h
        · rename_i h3
          exact ⟨h0, h1, h2, fun j hj => scan_zero _ _ h3 j (by omega) (by omega), fun j hj => scan_zero _ _ h j (by omega) (by omega)⟩
        · rename_i h3; exact absurd h h3
      · cases h
    · cases h
  · rename_i h0; exact absurd h h0
theorem nodeSort_in {ns : List Nd} {sn : List Int} {i : Nat} (h : nodeSort ns sn i = 0) : 1 ≤ sn.getD i default ∧ sn.getD i default ≤ 3 := by
  unfold nodeSort at h
  revert h
  cases hs : sortB (sn.getD i default)
  · intro h; cases h
  · intro _
    simp only [sortB, and_iff, leI_iff] at hs
    exact hs
theorem edgeSort_in {es : List Ed} {sn se : List Int} {i : Nat} (h : edgeSort es sn se i = 0) : 1 ≤ se.getD i default ∧ se.getD i default ≤ 3 := by
  unfold edgeSort at h
  revert h
  cases hs : sortB (se.getD i default)
  · intro h; cases h
  · intro _
    simp only [sortB, and_iff, leI_iff] at hs
    exact hs
theorem sorts_small {ns : List Nd} {es : List Ed} {sn se : List Int} (h : sortsErr ns es sn se = 0) : (∀ y, y ∈ sn → 1 ≤ y ∧ y ≤ 3) ∧ ∀ y, y ∈ se → 1 ≤ y ∧ y ≤ 3 := by
  obtain ⟨_, h1, h2, h3, h4⟩ := sortsErr_ok h
  constructor
  · intro y hy
    obtain ⟨i, hi, rfl⟩ := mem_getD hy
    exact nodeSort_in (h3 i (by omega))
  · intro y hy
    obtain ⟨i, hi, rfl⟩ := mem_getD hy
    exact edgeSort_in (h4 i (by omega))
theorem sortsErr_turn {ns : List Nd} {es : List Ed} {sn se : List Int} (h : sortsErr ns es sn se = 0) : sortsErr ns es (turn sn) (turn se) = 0 := by
  obtain ⟨h0, h1, h2, h3, h4⟩ := sortsErr_ok h
  obtain ⟨_, _, _, hn, he⟩ := typesErr_ok h0
  unfold sortsErr thenE
  have l1 : (turn sn).length = ns.length := by simp [turn, h1]
  have l2 : (turn se).length = es.length := by simp [turn, h2]
  have e1 : scan (nodeSort ns (turn sn)) ns.length 0 = scan (nodeSort ns sn) ns.length 0 := by
    refine scan_congr _ _ fun j _ hj _ => ?_
    have hj' : j < sn.length := by omega
    obtain ⟨p1, p2⟩ := nodeErr_parent (hn j (by omega))
    unfold nodeSort
    rw [turn_get hj', sortB_turn]
    cases hp : leI 0 (ns.getD j default).parent
    · rfl
    · rw [leI_iff] at hp
      rw [turn_get (by omega), eqI_turn]
  have e2 : scan (edgeSort es (turn sn) (turn se)) es.length 0 = scan (edgeSort es sn se) es.length 0 := by
    refine scan_congr _ _ fun j _ hj _ => ?_
    have hj' : j < se.length := by omega
    obtain ⟨r1, r2, r3, r4⟩ := edgeErr_in (he j (by omega))
    unfold edgeSort
    rw [turn_get hj', turn_get (by omega), turn_get (by omega), sortB_turn, eqI_turn, eqI_turn, eqI_turn2]
  rw [if_pos h0, if_pos l1, if_pos l2, e1, e2]
  unfold sortsErr thenE at h
  rw [if_pos h0, if_pos h1, if_pos h2] at h
  exact h

/-! ### Sorts are equal to themselves -/
theorem e11501 (l : List Int) (hl : Len l.length) (x : D) : ∀ i, i ≤ l.length → ev 11501 [intsD l, intsD l, x, .int i] = some [.bool true] := by
  refine down ?_ fun i hi ih => ?_
  · refine ev_by u11501 ?_
    simp only [t11501, go_sem, List.length_map, ltI_irr]
  · have hin : (leI 0 i && ltI i l.length) = true := by rw [and_iff, leI_iff, ltI_iff]; omega
    refine ev_by u11501 ?_
    simp only [t11501, go_sem, List.length_map, idx_map _ _ _ hi, hin, wrapS i (by omega), ih]
    rw [cond_lt (by omega), cond_eq rfl]
theorem e11500 (l : List Int) (hl : Len l.length) : ev 11500 [intsD l, intsD l] = some [.bool true] := by
  refine ev_by u11500 ?_
  simp only [t11500, go_sem, List.length_map]
  rw [cond_eq rfl]
  exact e11501 l hl _ 0 (by omega)
theorem e11400 (a b : List Int) (ha : Len a.length) (hb : Len b.length) : ev 11400 [intsD a, intsD b, intsD a, intsD b] = some [.bool true] := by
  refine ev_by u11400 ?_
  simp only [t11400, go_sem, e11500 a ha, e11500 b hb]

/-! ### Swap -/
def swapRes (ns : List Nd) (es : List Ed) (sn se : List Int) : List D := if sortsErr ns es sn se = 0 then [intsD (turn sn), intsD (turn se), .int 0] else [intsD [], intsD [], .int (sortsErr ns es sn se)]
theorem e10900 {ns : List Nd} {es : List Ed} {sn se : List Int} (ht : OkT ns es) : ev 10900 [ndsD ns, edsD es, intsD sn, intsD se] = some (swapRes ns es sn se) := by
  unfold swapRes
  by_cases h : sortsErr ns es sn se = 0
  · obtain ⟨b1, b2⟩ := sorts_small h
    obtain ⟨_, l1, l2, _, _⟩ := sortsErr_ok h
    have hl := ht.1
    have hl2 := ht.2.1
    refine ev_by u10900 ?_
    simp only [t10900, go_sem, e600 ht, e11000 (l := sn) (by omega) (fun y hy => by have := b1 y hy; omega), e11000 (l := se) (by omega) (fun y hy => by have := b2 y hy; omega)]
    rw [cond_eq h, if_pos h]
  · refine ev_by u10900 ?_
    simp only [t10900, go_sem, e600 ht]
    rw [cond_ne h, if_neg h]
    rfl
theorem e11200 {ns : List Nd} {es : List Ed} {sn se : List Int} (ht : OkT ns es) : ev 11200 [ndsD ns, edsD es, intsD sn, intsD se] = some (swapRes ns es sn se) := by
  unfold swapRes
  by_cases h : sortsErr ns es sn se = 0
  · obtain ⟨b1, b2⟩ := sorts_small h
    obtain ⟨_, l1, l2, _, _⟩ := sortsErr_ok h
    have hl := ht.1
    have hl2 := ht.2.1
    refine ev_by u11200 ?_
    simp only [t11200, go_sem, e7800 ht, e11300 (l := sn) (by omega) (fun y hy => by have := b1 y hy; omega), e11300 (l := se) (by omega) (fun y hy => by have := b2 y hy; omega)]
    rw [cond_eq h, if_pos h]
  · refine ev_by u11200 ?_
    simp only [t11200, go_sem, e7800 ht]
    rw [cond_ne h, if_neg h]
    rfl
theorem e10800 {ns : List Nd} {es : List Ed} {sn se : List Int} (hl : LenT ns es) (h1 : Len sn.length) (h2 : Len se.length) : ev 10800 [ndsD ns, edsD es, intsD sn, intsD se] = some [.bool true] := by
  obtain ⟨b, hb, hp⟩ := e7100 hl h1 h2 (gn := []) (ge := []) (vs := []) (by simp [Len])
  have hb' : ev 7100 [ndsD ns, edsD es, intsD sn, intsD se, .list [], .list [], .list []] = some [.bool b] := hb
  cases b
  · refine ev_by u10800 ?_
    simp only [t10800, go_sem, awake_ok, hb']
  · obtain ⟨_, _, ht, hsz, _⟩ := hp rfl
    have s1 := e10900 (sn := sn) (se := se) ht
    have s2 := e11200 (sn := sn) (se := se) ht
    by_cases h : sortsErr ns es sn se = 0
    · have e : swapRes ns es sn se = [intsD (turn sn), intsD (turn se), .int 0] := if_pos h
      have e' : swapRes ns es (turn sn) (turn se) = [intsD (turn (turn sn)), intsD (turn (turn se)), .int 0] := if_pos (sortsErr_turn h)
      have s3 := e10900 (sn := turn sn) (se := turn se) ht
      rw [e', turn_turn, turn_turn] at s3
      rw [e] at s1 s2
      have hz : eqI 0 0 = true := by decide
      refine ev_by u10800 ?_
      simp only [t10800, go_sem, awake_ok, hb', s1, s2, hz, s3, e11400 (turn sn) (turn se) (by simp [turn, Len]; omega) (by simp [turn, Len]; omega), e11400 sn se h1 h2]
    · have e : swapRes ns es sn se = [intsD [], intsD [], .int (sortsErr ns es sn se)] := if_neg h
      rw [e] at s1 s2
      have hz : eqI (sortsErr ns es sn se) (sortsErr ns es sn se) = true := by rw [eqI_iff]
      have hz' : eqI (sortsErr ns es sn se) 0 = false := by rw [eqI_false]; exact h
      refine ev_by u10800 ?_
      simp only [t10800, go_sem, awake_ok, hb', s1, s2, hz, hz', e11400 [] [] (by simp [Len]) (by simp [Len])]

/-! ### Arguments -/
theorem dec_int {ti : TypeId → TI} {k : IntKind} {d : D} (h : WK ti (.int k) d) : ∃ n, d = .int n ∧ (Lit.int k n).wf = true := by
  cases h with
  | int hw => exact ⟨_, rfl, hw⟩
theorem dec_bool {ti : TypeId → TI} {d : D} (h : WK ti .bool d) : ∃ b, d = .bool b := by
  cases h with
  | bool b => exact ⟨_, rfl⟩
theorem dec_str {ti : TypeId → TI} {d : D} (h : WK ti .str d) : ∃ s, d = .str s ∧ Len s.size := by
  cases h with
  | str s hs => exact ⟨_, rfl, Nat.le_trans hs (by decide)⟩
theorem list_of {α : Type} {f : α → D} {p : α → Prop} : ∀ {xs : List D}, (∀ x, x ∈ xs → ∃ a, x = f a ∧ p a) → ∃ l : List α, xs = l.map f ∧ ∀ a, a ∈ l → p a
  | [], _ => ⟨[], rfl, fun a h => by cases h⟩
  | x :: xs, h => by
    obtain ⟨l, h1, h2⟩ := list_of (xs := xs) fun y hy => h y (by simp [hy])
    obtain ⟨a, h3, h4⟩ := h x (by simp)
    refine ⟨a :: l, by rw [h3, h1]; rfl, fun b hb => ?_⟩
    rcases List.mem_cons.1 hb with rfl | hb
    · exact h4
    · exact h2 b hb
theorem dec_list {ti : TypeId → TI} {t e : TypeId} {agg : Bool} {lv : List K} (ht : ti t = .sl e agg lv) {d : D} (h : WK ti (.sl t) d) {α : Type} {f : α → D} {p : α → Prop}
    (hx : ∀ x, (agg = true → ∃ l, x = .agg l ∧ l.length = lv.length) → (∀ (c : Nat) k, lv[c]? = some k → WK ti k (cellD agg c x)) → ∃ a, x = f a ∧ p a) : ∃ l : List α, d = .list (l.map f) ∧ Len l.length ∧ ∀ a, a ∈ l → p a := by
  cases h with
  | sl ht' hl h1 h2 =>
    rw [ht] at ht'
    cases ht'
    obtain ⟨l, e1, e2⟩ := list_of fun x hm => hx x (h1 x hm) (h2 x hm)
    refine ⟨l, by rw [e1], ?_, e2⟩
    rw [e1, List.length_map] at hl
    exact Nat.le_trans hl (by decide)
theorem ti105 : env.ti 105 = .sl 9 false [.str] := by kernel_rfl
theorem ti95 : env.ti 95 = .sl 107 true [.str, .int .i64, .int .i64, .sl 105] := by kernel_rfl
theorem ti22 : env.ti 22 = .sl 97 true [.str, .int .i64, .bool, .sl 95] := by kernel_rfl
theorem ti23 : env.ti 23 = .sl 99 true [.str, .int .i64, .int .i64, .int .i64, .int .i64, .int .i64, .int .i64] := by kernel_rfl
theorem ti26 : env.ti 26 = .sl 3 false [.int .i64] := by kernel_rfl
theorem ti31 : env.ti 31 = .sl 73 true [.int .i64, .int .i64, .int .i64] := by kernel_rfl
theorem ti34 : env.ti 34 = .sl 26 false [.sl 26] := by kernel_rfl
abbrev In64 (n : Int) : Prop := -9223372036854775808 ≤ n ∧ n ≤ 9223372036854775807
theorem wf_in64 {n : Int} (h : (Lit.int .i64 n).wf = true) : In64 n := by
  simp [Lit.wf, IntKind.min, IntKind.max, IntKind.signed, IntKind.bits] at h
  exact h
theorem dec_ints {d : D} (h : WK env.ti (.sl 26) d) : ∃ l : List Int, d = intsD l ∧ Len l.length ∧ ∀ n, n ∈ l → In64 n :=
  dec_list ti26 h (f := D.int) (p := In64) fun x _ hc => by
    obtain ⟨n, h1, h2⟩ := dec_int (hc 0 _ rfl)
    exact ⟨n, h1, wf_in64 h2⟩
theorem dec_strs {d : D} (h : WK env.ti (.sl 105) d) : ∃ l : List ByteArray, d = strsD l ∧ Len l.length ∧ ∀ s, s ∈ l → Len s.size :=
  dec_list ti105 h (f := D.str) (p := fun s => Len s.size) fun x _ hc => dec_str (hc 0 _ rfl)
theorem dec_ats {d : D} (h : WK env.ti (.sl 95) d) : ∃ l : List At, d = atsD l ∧ Len l.length ∧ ∀ a, a ∈ l → LenA a :=
  dec_list ti95 h (f := At.d) (p := LenA) fun x hs hc => by
    obtain ⟨l, rfl, hl⟩ := hs rfl
    match l, hl with
    | [a, b, c, d], _ =>
      obtain ⟨s, rfl, h1⟩ := dec_str (hc 0 _ rfl)
      obtain ⟨m, e2, _⟩ := dec_int (hc 1 _ rfl)
      obtain ⟨n, e3, _⟩ := dec_int (hc 2 _ rfl)
      obtain ⟨u, e4, h4, h5⟩ := dec_strs (hc 3 _ rfl)
      have e2' : b = .int m := e2
      have e3' : c = .int n := e3
      have e4' : d = strsD u := e4
      exact ⟨⟨s, m, n, u⟩, by rw [e2', e3', e4'], h1, h4, h5⟩
theorem dec_nds {d : D} (h : WK env.ti (.sl 22) d) : ∃ l : List Nd, d = ndsD l ∧ Len l.length ∧ ∀ a, a ∈ l → LenN a :=
  dec_list ti22 h (f := Nd.d) (p := LenN) fun x hs hc => by
    obtain ⟨l, rfl, hl⟩ := hs rfl
    match l, hl with
    | [a, b, c, d], _ =>
      obtain ⟨s, e1, h1⟩ := dec_str (hc 0 _ rfl)
      obtain ⟨m, e2, _⟩ := dec_int (hc 1 _ rfl)
      obtain ⟨n, e3⟩ := dec_bool (hc 2 _ rfl)
      obtain ⟨u, e4, h4, h5⟩ := dec_ats (hc 3 _ rfl)
      have e1' : a = .str s := e1
      have e2' : b = .int m := e2
      have e3' : c = .bool n := e3
      have e4' : d = atsD u := e4
      exact ⟨⟨s, m, n, u⟩, by rw [e1', e2', e3', e4'], h1, h4, h5⟩
theorem dec_eds {d : D} (h : WK env.ti (.sl 23) d) : ∃ l : List Ed, d = edsD l ∧ Len l.length ∧ ∀ a, a ∈ l → Len a.name.size :=
  dec_list ti23 h (f := Ed.d) (p := fun a => Len a.name.size) fun x hs hc => by
    obtain ⟨l, rfl, hl⟩ := hs rfl
    match l, hl with
    | [a, b, c, d, e, f, g], _ =>
      obtain ⟨s, e1, h1⟩ := dec_str (hc 0 _ rfl)
      obtain ⟨n1, e2, _⟩ := dec_int (hc 1 _ rfl)
      obtain ⟨n2, e3, _⟩ := dec_int (hc 2 _ rfl)
      obtain ⟨n3, e4, _⟩ := dec_int (hc 3 _ rfl)
      obtain ⟨n4, e5, _⟩ := dec_int (hc 4 _ rfl)
      obtain ⟨n5, e6, _⟩ := dec_int (hc 5 _ rfl)
      obtain ⟨n6, e7, _⟩ := dec_int (hc 6 _ rfl)
      have e1' : a = .str s := e1
      have e2' : b = .int n1 := e2
      have e3' : c = .int n2 := e3
      have e4' : d = .int n3 := e4
      have e5' : e = .int n4 := e5
      have e6' : f = .int n5 := e6
      have e7' : g = .int n6 := e7
      exact ⟨⟨s, n1, n2, n3, n4, n5, n6⟩, by rw [e1', e2', e3', e4', e5', e6', e7'], h1⟩
theorem kinds30 : [30].flatMap (kindsOf env.ti) = [.sl 22, .sl 23, .sl 26, .sl 26] := by kernel_rfl
theorem all2_4 {R : K → D → Prop} {a b c d : K} {ν : List D} (h : All2 R [a, b, c, d] ν) : ∃ w x y z, ν = [w, x, y, z] ∧ R a w ∧ R b x ∧ R c y ∧ R d z := by
  cases h with
  | cons h1 h => cases h with
    | cons h2 h => cases h with
      | cons h3 h => cases h with
        | cons h4 h => cases h with
          | nil => exact ⟨_, _, _, _, rfl, h1, h2, h3, h4⟩
theorem tripleSwap_pure (ν : List D) (h : All2 (WK env.ti) ([30].flatMap (kindsOf env.ti)) ν) : Ev tree prim (108 * 100) ν [.bool true] := by
  rw [kinds30] at h
  obtain ⟨w, x, y, z, rfl, h1, h2, h3, h4⟩ := all2_4 h
  obtain ⟨ns, rfl, a1, a2⟩ := dec_nds h1
  obtain ⟨es, rfl, b1, b2⟩ := dec_eds h2
  obtain ⟨sn, rfl, c1, _⟩ := dec_ints h3
  obtain ⟨se, rfl, d1, _⟩ := dec_ints h4
  exact (evr_iff primDet).1 (e10800 ⟨a1, b1, a2, b2⟩ c1 d1)
end Go.SX.T52
