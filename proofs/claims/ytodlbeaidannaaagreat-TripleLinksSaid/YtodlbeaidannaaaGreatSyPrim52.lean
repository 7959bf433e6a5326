/-
What the functions of Go's library answer that have no tree here: the first place of a byte in a string; the order of pairs of numbers.
-/
import Derived.Test.YtodlbeaidannaaaGreatSxGo
import Derived.Test.YtodlbeaidannaaaGreatSyV52
import Derived.KernelRfl
import Derived.Lib.Bytealg
set_option linter.unusedVariables false
namespace Go.SX.T52
open Go.SX

/-! ### Pairs in order -/
def pD (p : Int × Int) : D := .agg [.int p.1, .int p.2]
def ltP (x y : Int × Int) : Bool := decide (x.1 < y.1) || (decide (x.1 = y.1) && decide (x.2 < y.2))
def insP (x : Int × Int) : List (Int × Int) → List (Int × Int)
  | [] => [x]
  | y :: r => bif ltP y x then y :: insP x r else x :: y :: r
def sortP : List (Int × Int) → List (Int × Int)
  | [] => []
  | x :: r => insP x (sortP r)
def smallB (p : Int × Int) : Bool := decide (0 ≤ p.1) && decide (p.1 < 4611686018427387904) && decide (0 ≤ p.2) && decide (p.2 < 4611686018427387904)
def decP : List D → Option (List (Int × Int))
  | [] => some []
  | .agg [.int a, .int b] :: r => (decP r).map fun l => (a, b) :: l
  | _ => none
theorem decP_ok : ∀ {ds : List D} {l : List (Int × Int)}, decP ds = some l → ds = l.map pD
  | [], l, h => by cases h; rfl
  | d :: r, l, h => by
    unfold decP at h
    split at h
    · rename_i heq; cases heq
    · rename_i a b r' heq
      cases heq
      obtain ⟨l', h', rfl⟩ := Option.map_eq_some_iff.1 h
      rw [decP_ok h']
      rfl
    · cases h
theorem pD_inj {p q : Int × Int} (h : pD p = pD q) : p = q := by
  obtain ⟨a, b⟩ := p
  obtain ⟨c, d⟩ := q
  simp only [pD, D.agg.injEq, List.cons.injEq, D.int.injEq, and_true] at h
  obtain ⟨rfl, rfl⟩ := h
  rfl
theorem mapD_inj {l m : List (Int × Int)} (h : l.map pD = m.map pD) : l = m := List.map_inj_right (fun _ _ h => pD_inj h) |>.1 h

def prim (l : Nat) (ds r : List D) : Prop := (l = 2500 ∧ ∃ s b, ds = [.str s, .int b] ∧ r = [.int (Lib.indexByte s.data.toList b.toNat.toUInt8)]) ∨
  (l = 6900 ∧ ∃ ps : List (Int × Int), ps.all smallB = true ∧ ps.length < 4611686018427387904 ∧ ds = [.list (ps.map pD)] ∧ r = [.list ((sortP ps).map pD)])
theorem primDet : PrimDet prim := by
  intro l ds r r' h h'
  rcases h with ⟨rfl, s, b, h1, rfl⟩ | ⟨rfl, ps, _, _, h1, rfl⟩
  · rcases h' with ⟨_, s', b', h1', rfl⟩ | ⟨h, _⟩
    · rw [h1] at h1'
      simp only [List.cons.injEq, D.str.injEq, D.int.injEq, and_true] at h1'
      obtain ⟨rfl, rfl⟩ := h1'
      rfl
    · cases h
  · rcases h' with ⟨h, _⟩ | ⟨_, ps', _, _, h1', rfl⟩
    · cases h
    · rw [h1] at h1'
      simp only [List.cons.injEq, D.list.injEq, and_true] at h1'
      rw [mapD_inj h1']
def pe (l : Nat) (ds : List D) : Option (List D) := match l, ds with
  | 2500, [.str s, .int b] => some [.int (Lib.indexByte s.data.toList b.toNat.toUInt8)]
  | 6900, [.list xs] => (decP xs).bind fun ps => if ps.all smallB = true ∧ ps.length < 4611686018427387904 then some [.list ((sortP ps).map pD)] else none
  | _, _ => none
theorem pe_ok : ∀ l ds r, pe l ds = some r → prim l ds r := by
  intro l ds r h
  unfold pe at h
  split at h
  · cases h
    exact .inl ⟨rfl, _, _, rfl, rfl⟩
  · obtain ⟨ps, h1, h2⟩ := Option.bind_eq_some_iff.1 h
    split at h2
    · rename_i hc
      cases h2
      exact .inr ⟨rfl, ps, hc.1, hc.2, by rw [decP_ok h1], rfl⟩
    · cases h2
  · cases h
/-- What a label answers. -/
noncomputable def ev : Nat → List D → Option (List D) := evr tree prim
theorem ev_by {l : Nat} {t : T} (ht : tree l = some t) {ds r : List D} (h : t.go ev ds = some r) : ev l ds = some r := evr_of primDet ht h
theorem ev_eq {l : Nat} {t : T} (ht : tree l = some t) (hf : t.flat = true) {ds : List D} : ev l ds = t.go ev ds := evr_eq primDet ht hf
theorem awake_run : fnEx tree pe 1000 100 [] = some [.bool true] := by kernel_rfl
theorem awake_ok : ev 100 [] = some [.bool true] := (evr_iff primDet).2 ⟨1000, fnEx_ok pe_ok _ _ _ _ awake_run⟩
theorem none6900 : tree 6900 = none := by kernel_rfl
theorem e6900 {ps : List (Int × Int)} (h1 : ps.all smallB = true) (h2 : ps.length < 4611686018427387904) : ev 6900 [.list (ps.map pD)] = some [.list ((sortP ps).map pD)] := by
  refine (evr_iff primDet).2 ⟨1, ?_⟩
  show Fn tree prim 1 6900 _ _
  unfold Fn
  rw [none6900]
  exact .inr ⟨rfl, ps, h1, h2, rfl, rfl⟩

/-! ### What is in order -/
theorem insP_perm (x : Int × Int) : ∀ l, (insP x l).Perm (x :: l)
  | [] => .refl _
  | y :: r => by
    unfold insP
    cases ltP y x
    · exact .refl _
    · exact (List.Perm.cons y (insP_perm x r)).trans (List.Perm.swap x y r)
theorem sortP_perm : ∀ l, (sortP l).Perm l
  | [] => .refl _
  | x :: r => (insP_perm x _).trans (.cons x (sortP_perm r))
def leP (x y : Int × Int) : Prop := ltP y x = false
theorem ltP_iff {x y : Int × Int} : ltP x y = true ↔ x.1 < y.1 ∨ (x.1 = y.1 ∧ x.2 < y.2) := by simp [ltP]
theorem leP_iff {x y : Int × Int} : leP x y ↔ ¬ (y.1 < x.1 ∨ (y.1 = x.1 ∧ y.2 < x.2)) := by
  unfold leP
  rw [← ltP_iff]
  simp
theorem leP_trans {x y z : Int × Int} (h1 : leP x y) (h2 : leP y z) : leP x z := by
  rw [leP_iff] at *
  omega
theorem insP_sorted (x : Int × Int) : ∀ {l}, l.Pairwise leP → (insP x l).Pairwise leP
  | [], _ => by simp [insP]
  | y :: r, h => by
    obtain ⟨h1, h2⟩ := List.pairwise_cons.1 h
    unfold insP
    cases hc : ltP y x
    · refine List.pairwise_cons.2 ⟨fun z hz => ?_, h⟩
      rcases List.mem_cons.1 hz with rfl | hz
      · exact hc
      · exact leP_trans hc (h1 z hz)
    · refine List.pairwise_cons.2 ⟨fun z hz => ?_, insP_sorted x h2⟩
      rcases List.mem_cons.1 ((insP_perm x r).mem_iff.1 hz) with rfl | hz
      · rw [ltP_iff] at hc
        rw [leP_iff]
        omega
      · exact h1 z hz
theorem sortP_sorted : ∀ l, (sortP l).Pairwise leP
  | [] => .nil
  | x :: r => insP_sorted x (sortP_sorted r)
/-- One list in order has given members. -/
theorem order_unique {l m : List (Int × Int)} (h1 : l.Pairwise leP) (h2 : m.Pairwise leP) (hp : l.Perm m) : l = m := by
  refine List.Perm.eq_of_pairwise (le := leP) ?_ h1 h2 hp
  intro a b _ _ ha hb
  rw [leP_iff] at ha hb
  exact Prod.ext (by omega) (by omega)
end Go.SX.T52
