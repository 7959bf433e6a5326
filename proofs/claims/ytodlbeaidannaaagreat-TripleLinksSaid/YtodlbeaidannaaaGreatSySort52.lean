/-
slices.SortFunc of pairs of numbers answers the pairs in order.
-/
import Derived.Test.YtodlbeaidannaaaGreatSyLay52
import Derived.Test.YtodlbeaidannaaaGreatSyPrim52
import Derived.Test.YtodlbeaidannaaaGreatSyT52
import Derived.Test.YtodlbeaidannaaaGreatSxSort
set_option linter.unusedVariables false
namespace Go.SX.T52
open Go.SX Go.RowKit Go.Proofs Go.Shelf Go.Sort

/-- A pair of numbers whose differences do not wrap. -/
abbrev BP := { p : Int × Int // smallB p = true }
theorem BP.small (x : BP) : 0 ≤ x.1.1 ∧ x.1.1 < 4611686018427387904 ∧ 0 ≤ x.1.2 ∧ x.1.2 < 4611686018427387904 := by
  have h := x.2
  simpa [smallB, and_assoc] using h
instance : Inhabited BP := ⟨⟨(0, 0), by decide⟩⟩
def cfP (x y : BP) : Int := if x.1.1 = y.1.1 then x.1.2 - y.1.2 else x.1.1 - y.1.1
def encP (x : BP) : List Value := [.int .i64 x.1.1, .int .i64 x.1.2]
theorem ltOf_cfP (x y : BP) : ltOf cfP x y = ltP x.1 y.1 := by
  rw [Bool.eq_iff_iff, ltP_iff]
  unfold ltOf cfP
  rw [decide_eq_true_iff]
  split <;> omega
theorem swoP : SWO (ltOf cfP) where
  irrefl x := by
    rw [ltOf_cfP, Bool.eq_false_iff, Ne, ltP_iff]
    omega
  trans x y z h1 h2 := by
    rw [ltOf_cfP, ltP_iff] at *
    omega
  ntrans x y z h1 h2 := by
    rw [ltOf_cfP, Bool.eq_false_iff, Ne, ltP_iff] at *
    omega
theorem wrapB {n : Int} (h1 : -4611686018427387904 < n) (h2 : n < 4611686018427387904) : IntKind.i64.wrap n = n := by
  simp [IntKind.wrap, IntKind.bits, IntKind.signed]
  omega
set_option maxHeartbeats 1000000 in
theorem walk34 {a b c d : Int} (w1 : IntKind.i64.wrap (b - d) = b - d) (w2 : IntKind.i64.wrap (a - c) = a - c) (W : World) :
    Calls Tryz.prog 34 #[.agg #[.int .i64 a, .int .i64 b], .agg #[.int .i64 c, .int .i64 d]] W fun e w' => e = .returned (.int .i64 (if a = c then b - d else a - c)) ∧ ∃ q os', w' = grow (W.drewN q) os' := by
  go_enter Tryz.func34, Tryz.ntmps34
  go_wp2
  all_goals
    go_ret
    first
      | exact ⟨rfl, 0, _, by rw [alloc_eq_grow, alloc_eq_grow, grow_grow]; rfl⟩
      | (exfalso; simp_all; done)
theorem closure34 (x y : BP) (W : World) : Calls Tryz.prog 34 #[.agg (encP x).toArray, .agg (encP y).toArray] W fun e w' => e = .returned (.int .i64 (cfP x y)) ∧ ∃ q os', w' = grow (W.drewN q) os' := by
  obtain ⟨a1, a2, b1, b2⟩ := x.small
  obtain ⟨c1, c2, d1, d2⟩ := y.small
  exact walk34 (wrapB (by omega) (by omega)) (wrapB (by omega) (by omega)) W
theorem eg34 (args : Array Value) (w : World) : (callFunc 34 args).run Tryz.prog w = .ok (.enter 34 args) w := enters_of Tryz.func34 (by kernel_rfl) rfl args w
theorem eg33 (args : Array Value) (w : World) : (callFunc 33 args).run Tryz.prog w = .ok (.enter 33 args) w := enters_of Tryz.func33 (by kernel_rfl) rfl args w

theorem attach_vals (ps : List (Int × Int)) (h : ps.all smallB = true) : ∃ xs : List BP, xs.map (·.1) = ps := by
  refine ⟨ps.pmap (fun p hp => ⟨p, hp⟩) (fun p hp => List.all_eq_true.1 h p hp), ?_⟩
  rw [List.map_pmap]
  simp
theorem ok69 : SigOK Tryz.prog env.ti s69 (prim 6900) := by
  intro ν rs vs w S F ω hR hE
  rcases hR with ⟨h, _⟩ | ⟨_, ps, hsm, hlen, rfl, rfl⟩
  · cases h
  obtain ⟨xs, rfl⟩ := attach_vals ps hsm
  rw [List.length_map] at hlen
  rw [List.map_map] at hE
  have key := sort_goes (P := Tryz.prog) (ρ := Tryz.sortPair_ren) Tryz.sortPair (ti := env.ti) (t := 39) (e := 45) (lv := [.int .i64, .int .i64]) rfl
    (fun w => Tryz.isAgg45 w) (fun w => Tryz.sizeOf45 w) encP (fun _ => rfl) (fun x v hv => by simp [encP] at hv; rcases hv with rfl | rfl <;> rfl) (pD ∘ (·.1)) cfP swoP 34 eg34 closure34 eg33 hlen (vs := vs) (w := w) (S := S) (F := F) (ω := ω) hE
    (fun x _ c k hk => by
      match c, hk with
      | 0, hk => cases hk; exact Rd.int _ _
      | 1, hk => cases hk; exact Rd.int _ _)
    (fun us hrow hl j c hj hc => by
      have hg : (xs.map (pD ∘ (·.1))).getD j default = pD (xs.getD j default).1 := by
        rw [List.getD_eq_getElem?_getD, List.getElem?_map, List.getD_eq_getElem?_getD, List.getElem?_eq_getElem hj]
        rfl
      have h := hrow j c (.int .i64) (by simpa using hj) (by
        match c, hc with
        | 0, _ => rfl
        | 1, _ => rfl)
      rw [hg] at h
      match c, hc with
      | 0, _ =>
        obtain ⟨_, h2⟩ := Rd.int_inv (show Rd env.ti w S (.int .i64) (.int (xs.getD j default).1.1) _ from h)
        exact h2
      | 1, _ =>
        obtain ⟨_, h2⟩ := Rd.int_inv (show Rd env.ti w S (.int .i64) (.int (xs.getD j default).1.2) _ from h)
        exact h2)
  have hs := pdq_sorts (ltOf cfP) swoP xs.toArray 0 xs.length (Lib.bitLen xs.length) true true (Nat.zero_le _) (by simp) (Or.inl rfl)
  have he : (pdq (ltOf cfP) xs.toArray 0 xs.length (Lib.bitLen xs.length) true true).toList.map (pD ∘ (·.1)) = (sortP (xs.map (·.1))).map pD := by
    generalize hd' : pdq (ltOf cfP) xs.toArray 0 xs.length (Lib.bitLen xs.length) true true = d' at hs
    obtain ⟨⟨hsd, _, hperm⟩, hsrt⟩ := hs
    have hsd' : d'.size = xs.length := by rw [hsd]; simp
    have e1 : d'.extract 0 xs.length = d' := by rw [← hsd']; exact Array.extract_size
    have e2 : xs.toArray.extract 0 xs.length = xs.toArray := by
      have := Array.extract_size (xs := xs.toArray)
      rwa [List.size_toArray] at this
    rw [e1, e2] at hperm
    rw [← List.map_map]
    congr 1
    refine order_unique ?_ (sortP_sorted _) ((hperm.map _).trans (sortP_perm _).symm)
    rw [List.pairwise_map, List.pairwise_iff_getElem]
    intro i j hi hj hij
    have hj' : j < d'.size := by simpa using hj
    have hi' : i < d'.size := by simpa using hi
    have h := hsrt i j (Nat.zero_le _) hij (by omega)
    rw [ltOf_cfP, getElem!_pos d' j hj', getElem!_pos d' i hi'] at h
    simpa [leP] using h
  rw [he] at key
  exact key
end Go.SX.T52
