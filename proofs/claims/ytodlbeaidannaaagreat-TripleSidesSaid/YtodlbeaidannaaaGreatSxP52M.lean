/-
Chapter 52, plain: the sides of a pair.
-/
import Derived.Test.YtodlbeaidannaaaGreatSxP52L
set_option linter.unusedVariables false
set_option linter.unusedSimpArgs false
set_option linter.unusedSectionVars false
namespace Go.SX.T52
open Go.SX

/-! ### Numbers in a row -/
def from' (i n : Nat) : List Int := idxK (fun _ => true) n i
theorem idxK_app (p : Nat → Bool) : ∀ (a b i : Nat), idxK p (a + b) i = idxK p a i ++ idxK p b (i + a)
  | 0, b, i => by rw [Nat.zero_add]; rfl
  | a + 1, b, i => by
    rw [show a + 1 + b = (a + b) + 1 by omega]
    show (bif p i then [(i : Int)] else []) ++ idxK p (a + b) (i + 1) = ((bif p i then [(i : Int)] else []) ++ idxK p a (i + 1)) ++ idxK p b (i + (a + 1))
    rw [idxK_app p a b (i + 1), List.append_assoc, show i + 1 + a = i + (a + 1) by omega]
theorem idxK_all {p : Nat → Bool} : ∀ (n i : Nat), (∀ j, i ≤ j → j < i + n → p j = true) → idxK p n i = from' i n
  | 0, i, _ => rfl
  | n + 1, i, h => by
    unfold from' idxK
    rw [h i (Nat.le_refl _) (by omega), idxK_all n (i + 1) fun j h1 h2 => h j (by omega) (by omega)]
    rfl
theorem idxK_no {p : Nat → Bool} : ∀ (n i : Nat), (∀ j, i ≤ j → j < i + n → p j = false) → idxK p n i = []
  | 0, i, _ => rfl
  | n + 1, i, h => by
    unfold idxK
    rw [h i (Nat.le_refl _) (by omega), idxK_no n (i + 1) fun j h1 h2 => h j (by omega) (by omega)]
    rfl
theorem from_len : ∀ n i, (from' i n).length = n
  | 0, i => rfl
  | n + 1, i => by
    have : from' i (n + 1) = (i : Int) :: from' (i + 1) n := rfl
    rw [this, List.length_cons, from_len n (i + 1)]
theorem from_get : ∀ n i q, q < n → (from' i n).getD q default = ((i + q : Nat) : Int)
  | 0, i, q, h => by omega
  | n + 1, i, q, h => by
    have : from' i (n + 1) = (i : Int) :: from' (i + 1) n := rfl
    rw [this]
    cases q with
    | zero => rfl
    | succ q =>
      show (from' (i + 1) n).getD q default = _
      rw [from_get n (i + 1) q (by omega)]
      congr 1
      omega
theorem from_pos {i n q : Nat} (h : q < n) : posI (from' i n) ((i + q : Nat) : Int) = q := by
  have h1 : q < (from' i n).length := by rw [from_len]; exact h
  have := posI_at (l := from' i n) (fun a b hab hb => by
    rw [from_len] at hb
    rw [from_get n i a (by omega), from_get n i b hb]
    omega) h1
  rw [from_get n i q h] at this
  exact this
theorem from_map {α : Type} [Inhabited α] (f : Int → α) : ∀ (l : List α) (i : Nat), (∀ q, q < l.length → f ((i + q : Nat) : Int) = l.getD q default) → (from' i l.length).map f = l
  | [], i, _ => rfl
  | a :: l, i, h => by
    have hf : from' i (a :: l).length = (i : Int) :: from' (i + 1) l.length := rfl
    rw [hf, List.map_cons]
    have h0 := h 0 (by simp)
    have hr := from_map f l (i + 1) fun q hq => by
      have := h (q + 1) (by simp only [List.length_cons]; omega)
      rw [show i + 1 + q = i + (q + 1) by omega]
      exact this
    rw [hr]
    congr 1
theorem getD_left {α : Type} [Inhabited α] {l m : List α} {j : Nat} (h : j < l.length) : (l ++ m).getD j default = l.getD j default := by
  simp only [List.getD_eq_getElem?_getD, List.getElem?_append_left h]
theorem getD_right {α : Type} [Inhabited α] {l m : List α} {j : Nat} (h : l.length ≤ j) : (l ++ m).getD j default = m.getD (j - l.length) default := by
  simp only [List.getD_eq_getElem?_getD, List.getElem?_append_right h]

/-! ### One side by itself -/
structure SideH (s : Int) (gn : List Int) (ge : List Ge) (vs : List (List Int)) : Prop where
  H : ExH gn ge vs
  so : ∀ j, j < gn.length → exSn.getD (gn.getD j default).toNat default = s
  eo : ∀ j, j < ge.length → exSe.getD (ge.getD j default).ty.toNat default = s
  l1 : gn.length ≤ 8
  l2 : ge.length ≤ 10
theorem getD_map' {α β : Type} [Inhabited α] [Inhabited β] (f : α → β) (l : List α) {i : Nat} (h : i < l.length) : (l.map f).getD i default = f (l.getD i default) := by
  simp [List.getD_eq_getElem?_getD, h]
theorem side_of {gn : List Int} {ge : List Ge} {vs : List (List Int)} (H : ExH gn ge vs) (h8 : gn.length ≤ 8) (h10 : ge.length ≤ 10) {s : Int} (hs : s = 1 ∨ s = 3) :
    SideH s (takeV (partV exSn gn s) gn) (takeE (partV exSn gn s) (partE exSe ge s) ge) (takeL (partV exSn gn s) vs) := by
  have P := part_ok H.valid hs
  have hl1 : (partV exSn gn s).length ≤ gn.length := idxK_len _ _ _
  have hl2 : (partE exSe ge s).length ≤ ge.length := idxK_len _ _ _
  have tv : ∀ j, j < (partV exSn gn s).length → (takeV (partV exSn gn s) gn).getD j default = gn.getD ((partV exSn gn s).getD j default).toNat default := fun j hj => getD_map' _ _ hj
  have te : ∀ j, j < (partE exSe ge s).length → (takeE (partV exSn gn s) (partE exSe ge s) ge).getD j default = takeE1 (partV exSn gn s) ge ((partE exSe ge s).getD j default) := fun j hj => getD_map' _ _ hj
  have tlen : (takeV (partV exSn gn s) gn).length = (partV exSn gn s).length := by simp [takeV]
  have telen : (takeE (partV exSn gn s) (partE exSe ge s) ge).length = (partE exSe ge s).length := by simp [takeE]
  have pos : ∀ b, b ∈ partV exSn gn s → 0 ≤ posI (partV exSn gn s) b ∧ posI (partV exSn gn s) b < (partV exSn gn s).length ∧ (takeV (partV exSn gn s) gn).getD (posI (partV exSn gn s) b).toNat default = gn.getD b.toNat default := by
    intro b hb
    obtain ⟨q, hq, rfl⟩ := mem_getD hb
    rw [posI_at P.an hq]
    refine ⟨by omega, by omega, ?_⟩
    rw [Int.toNat_natCast, tv q hq]
  refine ⟨⟨fun j hj => ?_, by simp [takeV, takeL], fun j hj => ?_, fun j hj => ?_, by omega, by omega⟩, fun j hj => ?_, fun j hj => ?_, by omega, by omega⟩
  · rw [tlen] at hj
    rw [tv j hj]
    obtain ⟨r1, r2⟩ := P.rn _ (getD_mem hj)
    exact H.nk _ (by omega)
  · have hj' : j < (partV exSn gn s).length := by simpa [takeL] using hj
    have : (takeL (partV exSn gn s) vs).getD j default = vs.getD ((partV exSn gn s).getD j default).toNat default := getD_map' _ _ hj'
    rw [this]
    obtain ⟨r1, r2⟩ := P.rn _ (getD_mem hj')
    exact H.ev _ (by have := H.lv; omega)
  · rw [telen] at hj
    rw [te j hj]
    obtain ⟨r1, r2⟩ := P.re _ (getD_mem hj)
    obtain ⟨i1, i2⟩ := P.inn _ (getD_mem hj)
    obtain ⟨k1, k2, k3, k4, k5, k6, k7⟩ := H.ek ((partE exSe ge s).getD j default).toNat (by omega)
    obtain ⟨a1, a2, a3⟩ := pos _ i1
    obtain ⟨b1, b2, b3⟩ := pos _ i2
    rw [tlen]
    refine ⟨k1, k2, a1, a2, b1, b2, ?_⟩
    show fitsB exNs exEs (ge.getD ((partE exSe ge s).getD j default).toNat default).ty ((takeV (partV exSn gn s) gn).getD (posI (partV exSn gn s) (ge.getD ((partE exSe ge s).getD j default).toNat default).src).toNat default) ((takeV (partV exSn gn s) gn).getD (posI (partV exSn gn s) (ge.getD ((partE exSe ge s).getD j default).toNat default).dst).toNat default) = true
    rw [a3, b3]
    exact k7
  · rw [tlen] at hj
    rw [tv j hj]
    obtain ⟨q, hq, _, _, hq4⟩ := idxK_mem.1 (getD_mem hj : (partV exSn gn s).getD j default ∈ partV exSn gn s)
    rw [eqI_iff] at hq4
    rw [hq, Int.toNat_natCast]
    exact hq4
  · rw [telen] at hj
    rw [te j hj]
    obtain ⟨q, hq, _, _, hq4⟩ := idxK_mem.1 (getD_mem hj : (partE exSe ge s).getD j default ∈ partE exSe ge s)
    rw [eqI_iff] at hq4
    show exSe.getD (ge.getD ((partE exSe ge s).getD j default).toNat default).ty.toNat default = s
    rw [hq, Int.toNat_natCast]
    exact hq4
theorem e14600 {ns : List Nd} {es : List Ed} (ht : OkT ns es) {sn se gn : List Int} {ge : List Ge} {vs : List (List Int)} (hf : FewH gn ge vs) (h1 : validErr ns es sn se gn ge vs = 0) {s : Int} (hs : s = 1 ∨ s = 3) :
    ev 14600 [ndsD ns, edsD es, intsD gn, gesD ge, valsD vs, intsD (partV sn gn s), intsD (partE se ge s)] = some [intsD (takeV (partV sn gn s) gn), gesD (takeE (partV sn gn s) (partE se ge s) ge), valsD (takeL (partV sn gn s) vs), .int 0] := by
  obtain ⟨f1, f2, f3, f4⟩ := hf
  obtain ⟨_, h2, V⟩ := validErr_ok h1
  have h00 : eqI 0 0 = true := by decide
  have P := part_ok h1 hs
  obtain ⟨_, g0, b1, _, _⟩ := hostErr_ok h2
  obtain ⟨n, hh⟩ := e9700 ht (gn := gn) (ge := ge) (vs := vs) (by omega) (by omega)
  rw [h2] at hh
  have hx := e14700 P g0
  have h4 := e14601 P g0 b1 f4 (ndsD ns) (edsD es) (intsD gn) (gesD ge) (intsD (partV sn gn s)) (intsD (partE se ge s)) (.int 0) (.int 0) (intsD (takeV (partV sn gn s) gn)) (gesD (takeE (partV sn gn s) (partE se ge s) ge)) (intsD (partE se ge s)) 0 (by omega) [] (by simp)
  refine ev_by u14600 ?_
  simp only [t14600, go_sem, hh, h00, hx]
  exact h4
theorem e15800 {gn : List Int} {ge : List Ge} {vs : List (List Int)} (H : ExH gn ge vs) {s : Int} (hs : s = 1 ∨ s = 3) :
    ev 15800 [ndsD exNs, edsD exEs, intsD exSn, intsD exSe, intsD gn, gesD ge, valsD vs, .int s] = some [intsD (takeV (partV exSn gn s) gn), gesD (takeE (partV exSn gn s) (partE exSe ge s) ge), valsD (takeL (partV exSn gn s) vs)] := by
  have h0 := H.valid
  obtain ⟨_, _, V⟩ := validErr_ok h0
  have hc : eqI s 2 = false := by rw [eqI_false]; omega
  refine ev_by u15800 ?_
  simp only [t15800, go_sem, e10600 V s, hc, e14600 exOk H.few h0 hs]

/-! ### Two sides together -/
theorem move_get (n : Nat) (l : List Ge) {j : Nat} (h : j < l.length) : (move n l).getD j default = moveE n (l.getD j default) := getD_map' _ _ h
section
variable {gA gB : List Int} {eA eB : List Ge} {vA vB : List (List Int)} (A : SideH 1 gA eA vA) (B : SideH 3 gB eB vB)
include A
theorem only_of {s : Int} {gA : List Int} {eA : List Ge} {vA : List (List Int)} (A : SideH s gA eA vA) : onlyB exSn exSe gA eA s = true := by
  have h1 : partV exSn gA s = from' 0 gA.length := idxK_all _ _ fun j _ hj => by rw [eqI_iff]; exact A.so j (by omega)
  have h2 : partE exSe eA s = from' 0 eA.length := idxK_all _ _ fun j _ hj => by rw [eqI_iff]; exact A.eo j (by omega)
  unfold onlyB
  rw [h1, h2, from_len, from_len]
  simp only [and_iff, eqI_iff, and_self]
include B
theorem both_ex : ExH (gA ++ gB) (eA ++ move gA.length eB) (vA ++ vB) := by
  have a1 := A.l1
  have a2 := A.l2
  have b1 := B.l1
  have b2 := B.l2
  have ml : (move gA.length eB).length = eB.length := by simp [move]
  refine ⟨fun j hj => ?_, by rw [List.length_append, List.length_append, A.H.lv, B.H.lv], fun j hj => ?_, fun j hj => ?_, by rw [List.length_append]; omega, by rw [List.length_append, ml]; omega⟩
  · rw [List.length_append] at hj
    by_cases h : j < gA.length
    · rw [getD_left h]; exact A.H.nk j h
    · rw [getD_right (by omega)]; exact B.H.nk _ (by omega)
  · rw [List.length_append] at hj
    by_cases h : j < vA.length
    · rw [getD_left h]; exact A.H.ev j h
    · rw [getD_right (by omega)]; exact B.H.ev _ (by omega)
  · rw [List.length_append, ml] at hj
    rw [List.length_append]
    by_cases h : j < eA.length
    · rw [getD_left h]
      obtain ⟨k1, k2, k3, k4, k5, k6, k7⟩ := A.H.ek j h
      refine ⟨k1, k2, k3, by omega, k5, by omega, ?_⟩
      rw [getD_left (by omega), getD_left (by omega)]
      exact k7
    · rw [getD_right (by omega), move_get _ _ (by omega)]
      obtain ⟨k1, k2, k3, k4, k5, k6, k7⟩ := B.H.ek (j - eA.length) (by omega)
      refine ⟨k1, k2, by unfold moveE; simp only; omega, by unfold moveE; simp only; omega, by unfold moveE; simp only; omega, by unfold moveE; simp only; omega, ?_⟩
      have e1 : (moveE gA.length (eB.getD (j - eA.length) default)).src.toNat = gA.length + (eB.getD (j - eA.length) default).src.toNat := by unfold moveE; simp only; omega
      have e2 : (moveE gA.length (eB.getD (j - eA.length) default)).dst.toNat = gA.length + (eB.getD (j - eA.length) default).dst.toNat := by unfold moveE; simp only; omega
      rw [e1, e2, getD_right (by omega), getD_right (by omega), Nat.add_sub_cancel_left, Nat.add_sub_cancel_left]
      exact k7
theorem both_so {j : Nat} (hj : j < (gA ++ gB).length) : exSn.getD ((gA ++ gB).getD j default).toNat default = if j < gA.length then 1 else 3 := by
  rw [List.length_append] at hj
  split
  · rename_i h
    rw [getD_left h]
    exact A.so j h
  · rename_i h
    rw [getD_right (by omega)]
    exact B.so _ (by omega)
theorem both_eo {j : Nat} (hj : j < (eA ++ move gA.length eB).length) : exSe.getD ((eA ++ move gA.length eB).getD j default).ty.toNat default = if j < eA.length then 1 else 3 := by
  have ml : (move gA.length eB).length = eB.length := by simp [move]
  rw [List.length_append, ml] at hj
  split
  · rename_i h
    rw [getD_left h]
    exact A.eo j h
  · rename_i h
    rw [getD_right (by omega), move_get _ _ (by omega)]
    exact B.eo _ (by omega)
theorem both_V1 : partV exSn (gA ++ gB) 1 = from' 0 gA.length := by
  unfold partV
  rw [List.length_append, idxK_app, idxK_all gA.length 0 (fun j _ hj => by rw [eqI_iff, both_so A B (by rw [List.length_append]; omega), if_pos (by omega)]), idxK_no gB.length (0 + gA.length) (fun j h1 h2 => by rw [eqI_false, both_so A B (by rw [List.length_append]; omega), if_neg (by omega)]; decide), List.append_nil]
theorem both_V3 : partV exSn (gA ++ gB) 3 = from' gA.length gB.length := by
  unfold partV
  rw [List.length_append, idxK_app, idxK_no gA.length 0 (fun j _ hj => by rw [eqI_false, both_so A B (by rw [List.length_append]; omega), if_pos (by omega)]; decide), Nat.zero_add, idxK_all gB.length gA.length (fun j h1 h2 => by rw [eqI_iff, both_so A B (by rw [List.length_append]; omega), if_neg (by omega)]), List.nil_append]
theorem both_E1 : partE exSe (eA ++ move gA.length eB) 1 = from' 0 eA.length := by
  have ml : (move gA.length eB).length = eB.length := by simp [move]
  unfold partE
  rw [List.length_append, ml, idxK_app, idxK_all eA.length 0 (fun j _ hj => by rw [eqI_iff, both_eo A B (by rw [List.length_append, ml]; omega), if_pos (by omega)]), idxK_no eB.length (0 + eA.length) (fun j h1 h2 => by rw [eqI_false, both_eo A B (by rw [List.length_append, ml]; omega), if_neg (by omega)]; decide), List.append_nil]
theorem both_E3 : partE exSe (eA ++ move gA.length eB) 3 = from' eA.length eB.length := by
  have ml : (move gA.length eB).length = eB.length := by simp [move]
  unfold partE
  rw [List.length_append, ml, idxK_app, idxK_no eA.length 0 (fun j _ hj => by rw [eqI_false, both_eo A B (by rw [List.length_append, ml]; omega), if_pos (by omega)]; decide), Nat.zero_add, idxK_all eB.length eA.length (fun j h1 h2 => by rw [eqI_iff, both_eo A B (by rw [List.length_append, ml]; omega), if_neg (by omega)]), List.nil_append]
theorem both_side1 : sideRes exNs exEs exSn exSe (gA ++ gB) (eA ++ move gA.length eB) (vA ++ vB) 1 = [intsD gA, gesD eA, valsD vA, intsD (from' 0 gA.length), intsD (from' 0 eA.length), .int 0] := by
  unfold sideRes
  rw [if_pos (both_ex A B).valid, if_pos (.inl rfl), both_V1 A B, both_E1 A B]
  have t1 : takeV (from' 0 gA.length) (gA ++ gB) = gA := from_map _ _ _ fun q hq => by
    rw [Int.toNat_natCast, Nat.zero_add, getD_left hq]
  have t2 : takeL (from' 0 gA.length) (vA ++ vB) = vA := by
    rw [← A.H.lv]
    exact from_map _ _ _ fun q hq => by rw [Int.toNat_natCast, Nat.zero_add, getD_left hq]
  have t3 : takeE (from' 0 gA.length) (from' 0 eA.length) (eA ++ move gA.length eB) = eA := from_map _ _ _ fun q hq => by
    obtain ⟨k1, k2, k3, k4, k5, k6, k7⟩ := A.H.ek q hq
    unfold takeE1
    rw [Int.toNat_natCast, Nat.zero_add, getD_left hq]
    have p1 := from_pos (i := 0) (n := gA.length) (q := (eA.getD q default).src.toNat) (by omega)
    have p2 := from_pos (i := 0) (n := gA.length) (q := (eA.getD q default).dst.toNat) (by omega)
    rw [Nat.zero_add, show (((eA.getD q default).src.toNat : Nat) : Int) = (eA.getD q default).src by omega] at p1
    rw [Nat.zero_add, show (((eA.getD q default).dst.toNat : Nat) : Int) = (eA.getD q default).dst by omega] at p2
    rw [p1, p2]
  rw [t1, t2, t3]
theorem both_side3 : sideRes exNs exEs exSn exSe (gA ++ gB) (eA ++ move gA.length eB) (vA ++ vB) 3 = [intsD gB, gesD eB, valsD vB, intsD (from' gA.length gB.length), intsD (from' eA.length eB.length), .int 0] := by
  have ml : (move gA.length eB).length = eB.length := by simp [move]
  unfold sideRes
  rw [if_pos (both_ex A B).valid, if_pos (.inr rfl), both_V3 A B, both_E3 A B]
  have t1 : takeV (from' gA.length gB.length) (gA ++ gB) = gB := from_map _ _ _ fun q hq => by
    rw [Int.toNat_natCast, getD_right (by omega), Nat.add_sub_cancel_left]
  have t2 : takeL (from' gA.length gB.length) (vA ++ vB) = vB := by
    rw [← A.H.lv, ← B.H.lv]
    exact from_map _ _ _ fun q hq => by rw [Int.toNat_natCast, getD_right (by omega), Nat.add_sub_cancel_left]
  have t3 : takeE (from' gA.length gB.length) (from' eA.length eB.length) (eA ++ move gA.length eB) = eB := from_map _ _ _ fun q hq => by
    obtain ⟨k1, k2, k3, k4, k5, k6, k7⟩ := B.H.ek q hq
    unfold takeE1
    rw [Int.toNat_natCast, getD_right (by omega), Nat.add_sub_cancel_left, move_get _ _ hq]
    have p1 := from_pos (i := gA.length) (n := gB.length) (q := (eB.getD q default).src.toNat) (by omega)
    have p2 := from_pos (i := gA.length) (n := gB.length) (q := (eB.getD q default).dst.toNat) (by omega)
    rw [show ((gA.length + (eB.getD q default).src.toNat : Nat) : Int) = (eB.getD q default).src + gA.length by omega] at p1
    rw [show ((gA.length + (eB.getD q default).dst.toNat : Nat) : Int) = (eB.getD q default).dst + gA.length by omega] at p2
    unfold moveE
    simp only
    rw [p1, p2, show (((eB.getD q default).src.toNat : Nat) : Int) = (eB.getD q default).src by omega, show (((eB.getD q default).dst.toNat : Nat) : Int) = (eB.getD q default).dst by omega]
  rw [t1, t2, t3]
theorem both_links : linkSet exSn (gA ++ gB) (eA ++ move gA.length eB) = [] := by
  cases hl : linkSet exSn (gA ++ gB) (eA ++ move gA.length eB) with
  | nil => rfl
  | cons p r =>
    have hp : p ∈ linkSet exSn (gA ++ gB) (eA ++ move gA.length eB) := by rw [hl]; simp
    obtain ⟨a, b, ha, hb, ht, _⟩ := linkSet_mem.1 hp
    simp only [tells, and_iff, eqI_iff] at ht
    obtain ⟨k1, k2, k3, k4, k5, k6, k7⟩ := (both_ex A B).ek a ha
    have := both_so A B (j := ((eA ++ move gA.length eB).getD a default).src.toNat) (by omega)
    have h2 := ht.2.1
    unfold soOf at h2
    rw [this] at h2
    split at h2 <;> cases h2
theorem both_pair : pairRes exNs exEs exSn exSe gA eA vA gB eB vB = hostD (gA ++ gB) (eA ++ move gA.length eB) (vA ++ vB) 0 := by
  have a1 := A.l1
  have a2 := A.l2
  have b1 := B.l1
  have b2 := B.l2
  unfold pairRes
  rw [if_pos A.H.valid, if_pos B.H.valid, only_of A A, only_of A B, if_neg (by omega)]
  rfl
end
theorem SideH.lens {s : Int} {g : List Int} {e : List Ge} {v : List (List Int)} (A : SideH s g e v) : Len g.length ∧ Len e.length ∧ Len v.length ∧ ∀ l, l ∈ v → Len l.length := by
  have a1 := A.l1
  have a2 := A.l2
  have a3 := A.H.lv
  refine ⟨by unfold Len; omega, by unfold Len; omega, by unfold Len; omega, fun l hl => ?_⟩
  obtain ⟨j, hj, rfl⟩ := mem_getD hl
  rw [A.H.ev j hj]
  simp [Len]
theorem e15700 (dn : List (Int × Int)) (hdn : Len dn.length) (hbn : ∀ x, x ∈ dn → B8 x.1 ∧ B8 x.2) (de : List (Int × Int × Int)) (hd : Len de.length) (hb : ∀ x, x ∈ de → B8 x.1 ∧ B8 x.2.1 ∧ B8 x.2.2)
    (dn' : List (Int × Int)) (hdn' : Len dn'.length) (hbn' : ∀ x, x ∈ dn' → B8 x.1 ∧ B8 x.2) (de' : List (Int × Int × Int)) (hd' : Len de'.length) (hb' : ∀ x, x ∈ de' → B8 x.1 ∧ B8 x.2.1 ∧ B8 x.2.2) : ev 15700 [u8D dn, trsD de, u8D dn', trsD de'] = some [.bool true] := by
  obtain ⟨gn, ge, vs, l8, H, l10, hm⟩ := e15500 dn hdn hbn de hd hb
  obtain ⟨gn', ge', vs', l8', H', l10', hm'⟩ := e15500 dn' hdn' hbn' de' hd' hb'
  have o1 := e15800 H (.inl rfl : (1 : Int) = 1 ∨ (1 : Int) = 3)
  have o3 := e15800 H' (.inr rfl : (3 : Int) = 1 ∨ (3 : Int) = 3)
  have A := side_of H l8 l10 (.inl rfl : (1 : Int) = 1 ∨ (1 : Int) = 3)
  have B := side_of H' l8' l10' (.inr rfl : (3 : Int) = 1 ∨ (3 : Int) = 3)
  generalize takeV (partV exSn gn 1) gn = gA at *
  generalize takeE (partV exSn gn 1) (partE exSe ge 1) ge = eA at *
  generalize takeL (partV exSn gn 1) vs = vA at *
  generalize takeV (partV exSn gn' 3) gn' = gB at *
  generalize takeE (partV exSn gn' 3) (partE exSe ge' 3) ge' = eB at *
  generalize takeL (partV exSn gn' 3) vs' = vB at *
  have X := both_ex A B
  have hp := e11700 (sn := exSn) (se := exSe) exOk A.H.few B.H.few
  rw [both_pair A B] at hp
  unfold hostD at hp
  have s1 := e13300 exOk X.few 1 (sn := exSn) (se := exSe)
  have s3 := e13300 exOk X.few 3 (sn := exSn) (se := exSe)
  rw [both_side1 A B] at s1
  rw [both_side3 A B] at s3
  have hk := e400 exOk X.few X.valid
  rw [both_links A B] at hk
  obtain ⟨l', p', h69⟩ := e6900s (l := []) (by simp)
  obtain rfl := p'.eq_nil
  rw [h69] at hk
  have hk' : ev 400 [ndsD exNs, edsD exEs, intsD exSn, intsD exSe, intsD (gA ++ gB), gesD (eA ++ move gA.length eB), valsD (vA ++ vB)] = some [prsD [], .int 0] := hk
  have h00 : eqI 0 0 = true := by decide
  obtain ⟨la, lb, lc, ld⟩ := A.lens
  obtain ⟨ma, mb, mc, md⟩ := B.lens
  have z1 := e12900 gA eA vA la lb lc ld
  have z3 := e12900 gB eB vB ma mb mc md
  have hl0 : eqI ((([] : List D).length : Nat) : Int) 0 = true := by decide
  refine ev_by u15700 ?_
  simp only [t15700, go_sem, awake_ok, e200, hm, hm', o1, o3, hp, s1, s3, hk', h00, z1, z3, hl0]
theorem kinds64_64 : [64, 64].flatMap (kindsOf env.ti) = [.sl 61, .sl 62, .sl 61, .sl 62] := by kernel_rfl
theorem tripleSides_pure (ν : List D) (h : All2 (WK env.ti) ([64, 64].flatMap (kindsOf env.ti)) ν) : Ev tree prim (157 * 100) ν [.bool true] := by
  rw [kinds64_64] at h
  obtain ⟨x1, r, rfl, h1, h⟩ := all2_cons h
  obtain ⟨x2, r, rfl, h2, h⟩ := all2_cons h
  obtain ⟨x3, r, rfl, h3, h⟩ := all2_cons h
  obtain ⟨x4, r, rfl, h4, h⟩ := all2_cons h
  obtain rfl := all2_nil h
  obtain ⟨dn, rfl, a1, a2⟩ := dec_u8s h1
  obtain ⟨de, rfl, b1, b2⟩ := dec_trs h2
  obtain ⟨dn', rfl, c1, c2⟩ := dec_u8s h3
  obtain ⟨de', rfl, d1, d2⟩ := dec_trs h4
  exact (evr_iff primDet).1 (e15700 dn a1 a2 de b1 b2 dn' c1 c2 de' d1 d2)
end Go.SX.T52
