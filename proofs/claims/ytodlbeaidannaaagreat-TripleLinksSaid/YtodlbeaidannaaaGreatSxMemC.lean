/-
The small operations: parts of values, slices, lengths, conversions.
-/
import Derived.Test.YtodlbeaidannaaaGreatSxMemB
import Derived.Laws.Slices
set_option linter.unusedVariables false
set_option linter.unusedSimpArgs false
set_option linter.unusedSectionVars false
namespace Go.SX
open Go.RowKit
section
variable {C : Cx} {σ : St} {ν : List D} {S : Nat → Prop} {ω : Nat → Option Value} {w : World} {r : List D} {a : Act} {o : Oper} {Q : Exit → Act → World → Prop} {K' : Delta → T}

theorem aggB_run {P : Program} {t : TypeId} {d : TypeDesc} (h : P.underlying t = some d) : (isAgg t).run P w = .ok (aggB P t) w := by
  rw [isAgg_run h]; simp [aggB, h]
/-- A part of a struct or an array. -/
theorem part_sound {P : Program} {ti : TypeId → TI} {t : TypeId} {i : TypeInfo} (hi : P.info? t = some i) (hd : ∃ d, P.underlying t = some d) (h1 : aggB P t = false → i.size = 1) {l : List SV1} {vs : List Value} (hc : All2 (SR ti w S ω ν) l vs)
    {fo : Nat} {sv : SV} (hp : partSV l fo i.size (aggB P t) = some sv) : ∃ v, (part t vs.toArray fo).run P w = .ok v w ∧ SVR ti w S ω ν sv v := by
  obtain ⟨d, hd⟩ := hd
  unfold partSV at hp
  split at hp
  · rename_i hle
    split at hp
    · rename_i hag
      cases hp
      refine ⟨.agg ((vs.drop fo).take i.size).toArray, ?_, _, rfl, (hc.drop fo).take i.size⟩
      simp [part, aggB_run hd, hag, sizeOf_run hi, List.extract_eq_take_drop]
    · rename_i hag
      obtain ⟨x, hx, rfl⟩ := Option.map_eq_some_iff.1 hp
      obtain ⟨v, hv, hr⟩ := hc.get hx
      refine ⟨v, ?_, hr⟩
      simp [part, aggB_run hd, hag, hv]
  · cases hp
theorem stepField_sound (hT : TyOK C.P C.ti) (h : Sim C σ ν S ω a.tmps w) {t : TypeId} {x : Operand} {j : Nat} {s : SV} (ho : o.op = .field t x j) (hx : SVR C.ti w S ω ν s (a.eval x)) (hr : (stepField C.ti t j s σ K').Run C.R ν r) :
    o.wp C.P a w (Post C σ ω o.dst K' r a.defers) Q := by
  unfold stepField at hr
  split at hr
  · rename_i lv fs l hti
    split at hr
    · rename_i fo sz ag hj
      obtain ⟨fields, f, i, hu, hf, hi, rfl, rfl, rfl, h0, h1, h2⟩ := field_get hT hti hj
      split at hr
      · rename_i sv hp
        obtain ⟨vs, hv, hc⟩ := hx
        obtain ⟨v, hrun, hs⟩ := part_sound hi h2 h1 hc hp
        refine post_pure h (v := v) ?_ hr hs
        unfold execOp
        simp [ho, hv, Instr.field, run_underlying hu, hf, asAgg, hrun]
      · exact hr.elim
    · exact hr.elim
  · exact hr.elim
theorem one_und {P : Program} {ti : TypeId → TI} (hT : TyOK P ti) {t : TypeId} {k : K} (h : ti t = .one k) : ∃ d, P.underlying t = some d ∧ DescK d k := by
  have ht := hT t
  unfold TyF at ht
  rw [h] at ht
  obtain ⟨d, z, ⟨hu, _⟩, hd, _⟩ := ht
  exact ⟨d, hu, hd⟩
theorem str_und {P : Program} {ti : TypeId → TI} (hT : TyOK P ti) {t : TypeId} (h : ti t = .one .str) : P.underlying t = some .string := by
  obtain ⟨d, hu, hd⟩ := one_und hT h
  cases d <;> simp [DescK] at hd
  exact hu
theorem int_und {P : Program} {ti : TypeId → TI} (hT : TyOK P ti) {t : TypeId} {k : IntKind} (h : ti t = .one (.int k)) : P.underlying t = some (.int k) := by
  obtain ⟨d, hu, hd⟩ := one_und hT h
  cases d <;> simp [DescK] at hd
  subst hd
  exact hu
theorem byteAt_lt (s : ByteArray) (i : Nat) (h : i < s.size) : byteAt s i = (s[i].toNat : Int) := by
  simp [byteAt, ByteArray.getElem?_lt' s i h]
theorem stepIndex_sound (hT : TyOK C.P C.ti) (h : Sim C σ ν S ω a.tmps w) {t : TypeId} {x ix : Operand} {s : SV} {i : E} {k : IntKind} (ho : o.op = .index t x ix) (hx : SVR C.ti w S ω ν s (a.eval x)) (hi : Rd C.ti w S (.int k) (i.den ν) (a.eval ix))
    (hr : (stepIndex C.ti t s i σ K').Run C.R ν r) : o.wp C.P a w (Post C σ ω o.dst K' r a.defers) Q := by
  have hiv := hi.int_inv.2
  unfold stepIndex at hr
  split at hr
  · rename_i s hti
    obtain ⟨h0, h1, hK⟩ := ckRange_sound h hr
    obtain ⟨_, hv⟩ := Rd.str_inv hx
    have h1' : (i.den ν).toInt < ((s.den ν).toStr.size : Int) := h1
    have hlt : (i.den ν).toInt.toNat < (s.den ν).toStr.size := by omega
    refine post_one h (v := .int .u8 (byteAt (s.den ν).toStr (i.den ν).toInt.toNat)) ?_ hK (.int _ _)
    unfold execOp
    rw [byteAt_lt _ _ hlt]
    simp [ho, hv, hiv, run_index_string w t _ k _ (str_und hT hti), h0, h1']
  · rename_i lv fs l hti
    split at hr
    · rename_i n
      split at hr
      · rename_i h0
        split at hr
        · rename_i fo sz ag hj
          split at hr
          · rename_i sv hp
            obtain ⟨m, e, ie, hu, hie, hs, hl, hg, hlen, h1, h2⟩ := ag_array hT hti
            have hlt : n.toNat < m := by rw [← hl]; exact (List.getElem?_eq_some_iff.1 hj).1
            rw [hg _ hlt] at hj
            simp only [Option.some.injEq, Prod.mk.injEq] at hj
            obtain ⟨rfl, rfl, rfl⟩ := hj
            obtain ⟨vs, hv, hc⟩ := hx
            obtain ⟨v, hrun, hsv⟩ := part_sound hie h2 h1 hc hp
            refine post_pure h (v := v) ?_ hr hsv
            have hiv' : a.eval ix = .int k n := hiv
            have hlt' : n < m := by omega
            unfold execOp
            simp [ho, hv, hiv', Instr.index, asIntOf, run_underlying hu, h0, hlt', sizeOf_run hie, hrun]
          · exact hr.elim
        · exact hr.elim
      · exact hr.elim
    · exact hr.elim
  · exact hr.elim
theorem stepExtract_sound (h : Sim C σ ν S ω a.tmps w) {x : Operand} {j : Nat} {s : Slot} (ho : o.op = .extract x j) (hx : SlotR C.ti w S ω ν s (a.eval x)) (hr : (stepExtract s j σ K').Run C.R ν r) :
    o.wp C.P a w (Post C σ ω o.dst K' r a.defers) Q := by
  unfold stepExtract at hr
  split at hr
  · rename_i l
    split at hr
    · rename_i v hj
      obtain ⟨vs, hv, hc⟩ := hx
      obtain ⟨u, hu, hs⟩ := hc.get hj
      refine post_pure h (v := u) ?_ hr hs
      unfold execOp
      simp [ho, hv, Instr.extract, hu]
    · exact hr.elim
  · exact hr.elim
theorem stepNot_sound (h : Sim C σ ν S ω a.tmps w) {t : TypeId} {x : Operand} {s : SV1} (ho : o.op = .unOp .not t x) (hx : SR C.ti w S ω ν s (a.eval x)) (hr : (stepNot s σ K').Run C.R ν r) : o.wp C.P a w (Post C σ ω o.dst K' r a.defers) Q := by
  unfold stepNot at hr
  split at hr
  · rename_i c
    obtain ⟨_, hv⟩ := Rd.bool_inv hx
    refine post_one h (v := .bool (!(c.den ν).toBool)) ?_ hr (by show Rd _ _ _ .bool (E.den ν _) _; rw [notE_den]; exact .bool _)
    unfold execOp
    simp [ho, hv, Op.unary]
  · exact hr.elim
theorem intKind_of {P : Program} {t : TypeId} {k : IntKind} (h : P.underlying t = some (.int k)) : P.intKind t = k := by simp [Program.intKind, h]
theorem stepConvert_sound (hT : TyOK C.P C.ti) (h : Sim C σ ν S ω a.tmps w) {src dst : TypeId} {x : Operand} {s : SV1} (ho : o.op = .convert src dst x) (hx : SR C.ti w S ω ν s (a.eval x)) (hr : (stepConvert C.ti src dst s σ K').Run C.R ν r) :
    o.wp C.P a w (Post C σ ω o.dst K' r a.defers) Q := by
  unfold stepConvert at hr
  split at hr
  · rename_i k1 k2 k3 y h1 h2
    obtain ⟨_, hv⟩ := Rd.int_inv hx
    have hd := int_und hT h2
    have hk := intKind_of hd
    refine post_one h (v := .int k2 (k2.wrap (y.den ν).toInt)) ?_ hr (.int _ _)
    have := run_convert_int w src dst k3 (y.den ν).toInt (by rw [int_und hT h1]; rfl) (by rw [hk]; exact hd)
    rw [hk] at this
    unfold execOp
    simp [ho, hv, this]
  · rename_i y h1 h2
    obtain ⟨_, hv⟩ := Rd.str_inv hx
    refine post_one h (v := a.eval x) ?_ hr hx
    unfold execOp
    simp [ho, hv, convert, run_underlying (str_und hT h1), run_underlying (str_und hT h2)]
  · exact hr.elim
theorem lookCaps_sound (h : Sim C σ ν S ω a.tmps w) : ∀ {l : List Operand} {cs : List Cap}, lookCaps σ l = some cs → All2 (CapR C.ti w S ω ν) cs (l.map a.eval)
  | [], cs, hl => by simp [lookCaps] at hl; subst hl; exact .nil
  | x :: r, cs, hl => by
    simp only [lookCaps] at hl
    split at hl
    · rename_i o' l' h1 h2
      cases hl
      obtain ⟨b, hb, hv⟩ := look1_sound h h1
      exact .cons ⟨b, hb, hv⟩ (lookCaps_sound h h2)
    · rename_i ks l' h1 h2
      cases hl
      exact .cons (look1_sound h h1) (lookCaps_sound h h2)
    · cases hl
theorem stepMakeFunc_sound (h : Sim C σ ν S ω a.tmps w) {g : FuncId} {first caps : Array Operand} (ho : o.op = .makeFunc (.func g) first caps) (hf : first.size = 0) (hr : (stepMakeFunc g caps.toList σ K').Run C.R ν r) : o.wp C.P a w (Post C σ ω o.dst K' r a.defers) Q := by
  unfold stepMakeFunc at hr
  split at hr
  · rename_i cs hl
    have hc := lookCaps_sound h hl
    refine post_one h (v := .func (.func g) #[] (caps.toList.map a.eval).toArray) ?_ hr ⟨_, rfl, hc⟩
    have : first = #[] := Array.eq_empty_of_size_eq_zero hf
    unfold execOp
    simp [ho, this, Instr.makeFunc]
    apply Array.toList_inj.1
    simp
  · exact hr.elim
theorem stepPick_sound (h : Sim C σ ν S ω a.tmps w) {c x y : Operand} {s : SV1} {s1 s2 : Slot} (ho : o.op = .pick c x y) (hc : SR C.ti w S ω ν s (a.eval c)) (hx : SlotR C.ti w S ω ν s1 (a.eval x)) (hy : SlotR C.ti w S ω ν s2 (a.eval y))
    (hr : (stepPick s s1 s2 σ K').Run C.R ν r) : o.wp C.P a w (Post C σ ω o.dst K' r a.defers) Q := by
  unfold stepPick at hr
  split at hr
  · rename_i c'
    obtain ⟨_, hv⟩ := Rd.bool_inv hc
    split at hr
    · rename_i hk
      rw [knownE_sound h hk] at hv
      refine post_pure h ?_ hr hx
      unfold execOp
      simp [ho, hv, asBool]
    · rename_i hk
      rw [knownE_sound h hk] at hv
      refine post_pure h ?_ hr hy
      unfold execOp
      simp [ho, hv, asBool]
    · exact hr.elim
  · exact hr.elim
theorem sl_row {P : Program} {ti : TypeId → TI} (hT : TyOK P ti) {t e : TypeId} {agg : Bool} {lv : List K} (h : ti t = .sl e agg lv) :
    P.underlying t = some (.slice e) ∧ P.elem t = e ∧ ∃ j z, P.info? e = some j ∧ j.size = lv.length ∧ 0 < lv.length ∧ j.bytes ≤ 65536 ∧ j.zero = some z ∧ All2 (fun k v => ZeroV (some k) v) lv z.cells.toList ∧ (agg = false → lv.length = 1) := by
  have ht := hT t
  unfold TyF at ht
  rw [h] at ht
  obtain ⟨⟨hu, _⟩, j, z, h1, h2, h3, h4, h5, h6, h7, _⟩ := ht
  exact ⟨hu, by simp [Program.elem, hu], j, z, h1, h2, h3, h4, h5, h6, h7⟩
theorem call_len {c : Call} {x : Operand} {t : TypeId} (ho : o.op = .call c) (hc : c.callee = .builtin .len) (ha : c.args.toList = [x]) (ht : c.argTypes.toList = [t]) {v : Value} (hrun : (Builtin.len_ #[t] o.type #[a.eval x]).run C.P w = .ok v w) :
    (execOp a.eval o).run C.P w = .ok (.value v) w := by
  have h1 : c.args = #[x] := Array.toList_inj.1 (by simpa using ha)
  have h2 : c.argTypes = #[t] := Array.toList_inj.1 (by simpa using ht)
  unfold execOp
  simp [ho, resolve, hc, h1, h2, invoke, builtin, hrun]
theorem call_cap {c : Call} {x : Operand} {t : TypeId} (ho : o.op = .call c) (hc : c.callee = .builtin .cap) (ha : c.args.toList = [x]) (ht : c.argTypes.toList = [t]) {v : Value} (hrun : (Builtin.cap_ #[t] o.type #[a.eval x]).run C.P w = .ok v w) :
    (execOp a.eval o).run C.P w = .ok (.value v) w := by
  have h1 : c.args = #[x] := Array.toList_inj.1 (by simpa using ha)
  have h2 : c.argTypes = #[t] := Array.toList_inj.1 (by simpa using ht)
  unfold execOp
  simp [ho, resolve, hc, h1, h2, invoke, builtin, hrun]
theorem stepLen_sound (hT : TyOK C.P C.ti) (h : Sim C σ ν S ω a.tmps w) {c : Call} {x : Operand} {t : TypeId} {s : SV1} (ho : o.op = .call c) (hc : c.callee = .builtin .len) (ha : c.args.toList = [x]) (ht : c.argTypes.toList = [t])
    (hx : SR C.ti w S ω ν s (a.eval x)) (hr : (stepLen C.ti t s σ K').Run C.R ν r) : o.wp C.P a w (Post C σ ω o.dst K' r a.defers) Q := by
  unfold stepLen at hr
  split at hr
  · rename_i hti
    split at hr
    · rename_i y
      obtain ⟨_, hv⟩ := Rd.str_inv hx
      refine post_one h (v := goInt (y.den ν).toStr.size) (call_len ho hc ha ht ?_) hr (.int _ _)
      rw [hv]
      exact run_len_string w t _ _ (str_und hT hti)
    · exact hr.elim
  · rename_i e agg lv hti
    obtain ⟨hu, he, _⟩ := sl_row hT hti
    split at hr
    · rename_i t' y l hd
      have hs := dataOf_sound h.objs hd hx
      obtain ⟨b, n, cap, hv⟩ : ∃ b n cap, a.eval x = .slice b n cap := by
        generalize E.den ν y = d at hs
        generalize hav : a.eval x = v at hs
        cases hs.1 with
        | sl0 _ b cap => exact ⟨_, _, _, rfl⟩
        | sl _ _ _ _ xs b off cap => exact ⟨_, _, _, rfl⟩
      have hl : (y.den ν).toList.length = n := by
        have := hs.1
        rw [hv] at this
        exact this.len
      refine post_one h (v := goInt n) (call_len ho hc ha ht ?_) hr (by
        show Rd _ _ _ (.int .i64) ((lenE y).den ν) _
        rw [lenE_den, hl]
        exact .int _ _)
      rw [hv]
      exact run_len_slice w t _ _ _ _ (by rw [he]; exact hu)
    · exact hr.elim
  · exact hr.elim
theorem stepCap_sound (hT : TyOK C.P C.ti) (h : Sim C σ ν S ω a.tmps w) {c : Call} {x : Operand} {t : TypeId} {s : SV1} (ho : o.op = .call c) (hc : c.callee = .builtin .cap) (ha : c.args.toList = [x]) (ht : c.argTypes.toList = [t])
    (hx : SR C.ti w S ω ν s (a.eval x)) (hr : (stepCap C.ti t s σ K').Run C.R ν r) : o.wp C.P a w (Post C σ ω o.dst K' r a.defers) Q := by
  unfold stepCap at hr
  split at hr
  · rename_i e agg lv t' hti
    obtain ⟨hu, he, _⟩ := sl_row hT hti
    have hv : a.eval x = .slice none 0 0 := hx
    refine post_one h (v := goInt 0) (call_cap ho hc ha ht ?_) hr (.int _ _)
    rw [hv]
    exact run_cap_slice w t _ _ _ _ (by rw [he]; exact hu)
  · exact hr.elim

/-! ### Slices -/
theorem bndE_sound (h : Sim C σ ν S ω a.tmps w) {x : Option Operand} {e : Option E} (hb : bndE σ x = some e) :
    (x = none ∧ e = none) ∨ ∃ y k n, x = some y ∧ e = some n ∧ a.eval y = .int k (n.den ν).toInt := by
  unfold bndE at hb
  split at hb
  · cases hb; exact .inl ⟨rfl, rfl⟩
  · rename_i y
    split at hb
    · rename_i k n hl
      cases hb
      exact .inr ⟨y, k, n, rfl, rfl, (lookE_sound h hl).int_inv.2⟩
    · cases hb
def loD (lo : Option E) (ν : List D) : Int := match lo with
  | some l => (l.den ν).toInt
  | none => 0
def hiD (hi : Option E) (n : Nat) (ν : List D) : Int := match hi with
  | some h => (h.den ν).toInt
  | none => n
/-- What the checks of the bounds say. -/
theorem sliceCks_sound (h : Sim C σ ν S ω a.tmps w) {lo hi : Option E} {nE : E} {n : Nat} {t' : T} (hn : (nE.den ν).toInt = n) (hr : (sliceCks lo hi nE σ t').Run C.R ν r) :
    0 ≤ loD lo ν ∧ loD lo ν ≤ hiD hi n ν ∧ hiD hi n ν ≤ n ∧ t'.Run C.R ν r := by
  unfold sliceCks at hr
  cases hi with
  | none =>
    cases lo with
    | none => exact ⟨Int.le_refl _, Int.natCast_nonneg _, Int.le_refl _, hr⟩
    | some l =>
      simp only [Option.getD_none] at hr
      obtain ⟨h1, hr⟩ := ckLe_sound h hr
      obtain ⟨h2, hr⟩ := ckLe_sound h hr
      rw [hn] at h2
      exact ⟨h1, h2, Int.le_refl _, hr⟩
  | some hh =>
    obtain ⟨h1, hr⟩ := ckLe_sound h hr
    obtain ⟨h2, hr⟩ := ckLe_sound h hr
    rw [hn] at h2
    cases lo with
    | none => exact ⟨Int.le_refl _, h1, h2, hr⟩
    | some l =>
      simp only [Option.getD_some] at hr
      obtain ⟨h3, hr⟩ := ckLe_sound h hr
      obtain ⟨h4, hr⟩ := ckLe_sound h hr
      exact ⟨h3, h4, h2, hr⟩
theorem run_sliceBound_ok {P : Program} {k : IntKind} {i : Int} {y : Nat} {code : BoundsCode} (h0 : 0 ≤ i) (h1 : i ≤ y) : (Instr.sliceBound (.int k i) y code).run P w = .ok i.toNat w := by
  simp [Instr.sliceBound, asIntOf, h0, h1]
theorem run_bounds {P : Program} {b : Bool} {len cap : Nat} {lo hi : Option Value} {loZ hiZ : Int} (hlo : (lo = none ∧ loZ = 0) ∨ ∃ k, lo = some (.int k loZ)) (hhi : (hi = none ∧ hiZ = len) ∨ ∃ k, hi = some (.int k hiZ))
    (h0 : 0 ≤ loZ) (h1 : loZ ≤ hiZ) (h2 : hiZ ≤ cap) : (Instr.sliceBounds b len cap lo hi none).run P w = .ok (loZ.toNat, hiZ.toNat, cap) w := by
  have e1 : 0 ≤ hiZ := by omega
  have e2 : loZ ≤ (hiZ.toNat : Int) := by omega
  rcases hlo with ⟨rfl, rfl⟩ | ⟨k, rfl⟩ <;> rcases hhi with ⟨rfl, rfl⟩ | ⟨k', rfl⟩ <;> simp [Instr.sliceBounds, run_sliceBound_ok, h0, e1, h2, e2]
  all_goals (rw [run_sliceBound_ok h0 (by omega)]; rfl)
theorem Rd.cap {ti : TypeId → TI} {t : TypeId} {d : D} {b : Option Addr} {n cap : Nat} (h : Rd ti w S (.sl t) d (.slice b n cap)) (hn : 0 < n) : n ≤ cap := by
  cases h with
  | sl0 => omega
  | sl _ _ _ _ xs b off cap u _ hcap => exact hcap
/-- A part of plain data is plain data. -/
theorem Rd.sub_slice {t e : TypeId} {agg : Bool} {lv : List K} {d : D} {b : Option Addr} {n cap : Nat} (hti : C.ti t = .sl e agg lv) (h : Rd C.ti w S (.sl t) d (.slice b n cap)) {l hh : Nat} (h1 : l ≤ hh) (h2 : hh ≤ n) :
    Rd C.ti w S (.sl t) (.list ((d.toList.take hh).drop l)) (sliced b l hh cap lv.length) := by
  have hlen := h.len
  unfold sliced
  by_cases he : hh - l = 0
  · have : (d.toList.take hh).drop l = [] := by
      apply List.drop_eq_nil_of_le
      rw [List.length_take]
      omega
    rw [this, he]
    exact .sl0 _ _ _
  · cases h with
    | sl0 => omega
    | sl _ e' agg' lv' xs b' off cap' u hti' hcap hS hc hr =>
      have hm : ¬ cap = l := by omega
      rw [if_neg hm]
      rw [hti] at hti'
      cases hti'
      simp only [D.toList, Option.map_some, Addr.add_mid]
      have hx : hh - l = ((xs.take hh).drop l).length := by rw [List.length_drop, List.length_take]; omega
      rw [hx]
      have hidx : ∀ j, j < ((xs.take hh).drop l).length → ((xs.take hh).drop l).getD j default = xs.getD (l + j) default := by
        intro j hj
        rw [List.getD_eq_getElem?_getD, List.getD_eq_getElem?_getD, List.getElem?_drop, List.getElem?_take, if_pos (by omega)]
      refine .sl t e agg lv _ b' (off + l * lv.length) _ (fun j c => u (l + j) c) hti (by omega) hS (fun j c hj hcc => ?_) (fun j c k hj hk => ?_)
      · have := hc (l + j) c (by omega) hcc
        rw [← this]
        congr 2
        rw [Nat.add_mul]
        omega
      · rw [hidx j hj]
        exact hr (l + j) c k (by omega) hk
theorem cutE_den (w' : E) (lo hi : Option E) (ν : List D) {xs : List D} (hx : w'.den ν = .list xs) (h0 : 0 ≤ loD lo ν) (h1 : loD lo ν ≤ hiD hi xs.length ν) :
    (cutE w' lo hi).den ν = .list ((xs.take (hiD hi xs.length ν).toNat).drop (loD lo ν).toNat) := by
  cases lo <;> cases hi <;> simp [cutE, E.den, O2.den, hx, loD, hiD, D.toList]
theorem slice_exec {t : TypeId} {x : Operand} {lo hi : Option Operand} (ho : o.op = .slice t x lo hi none) {v : Value} (hrun : (Instr.sliceAt t (a.eval x) (lo.map a.eval) (hi.map a.eval) none).run C.P w = .ok v w) : (execOp a.eval o).run C.P w = .ok (.value v) w := by
  unfold execOp
  simp [ho, hrun]
theorem run_sliceAt_sl (hT : TyOK C.P C.ti) {t e : TypeId} {agg : Bool} {lv : List K} (hti : C.ti t = .sl e agg lv) {b : Option Addr} {len cap : Nat} {lo hi : Option Value} {loZ hiZ : Int} (hlo : (lo = none ∧ loZ = 0) ∨ ∃ k, lo = some (.int k loZ)) (hhi : (hi = none ∧ hiZ = len) ∨ ∃ k, hi = some (.int k hiZ))
    (h0 : 0 ≤ loZ) (h1 : loZ ≤ hiZ) (h2 : hiZ ≤ cap) : (Instr.sliceAt t (.slice b len cap) lo hi none).run C.P w = .ok (sliced b loZ.toNat hiZ.toNat cap lv.length) w := by
  obtain ⟨hu, he, j, z, hj, hs, _⟩ := sl_row hT hti
  have hu' : C.P.underlying t = some (.slice (C.P.elem t)) := by rw [he]; exact hu
  rw [run_sliceAt_slice w t _ _ _ _ hu', run_slice_any w t b len cap hu', run_bounds hlo hhi h0 h1 h2]
  simp [he, sizeOf_run hj, hs]
theorem run_sliceAt_str (hT : TyOK C.P C.ti) {t : TypeId} (hti : C.ti t = .one .str) {s : ByteArray} {lo hi : Option Value} {loZ hiZ : Int} (hlo : (lo = none ∧ loZ = 0) ∨ ∃ k, lo = some (.int k loZ)) (hhi : (hi = none ∧ hiZ = s.size) ∨ ∃ k, hi = some (.int k hiZ))
    (h0 : 0 ≤ loZ) (h1 : loZ ≤ hiZ) (h2 : hiZ ≤ s.size) : (Instr.sliceAt t (.string s) lo hi none).run C.P w = .ok (.string (s.extract loZ.toNat hiZ.toNat)) w := by
  have hu := str_und hT hti
  rw [run_sliceAt_string w t _ _ _ _ hu]
  simp [Instr.slice, run_underlying hu, run_bounds hlo hhi h0 h1 h2]
theorem TI.isSl_inv {i : TI} (h : i.isSl = true) : ∃ e agg lv, i = .sl e agg lv := by cases i <;> simp [TI.isSl] at h; exact ⟨_, _, _, rfl⟩
section
variable (hT : TyOK C.P C.ti) (h : Sim C σ ν S ω a.tmps w) {t : TypeId} {x : Operand} {lo hi : Option Operand} (ho : o.op = .slice t x lo hi none) {el eh : Option E} (hel : bndE σ lo = some el) (heh : bndE σ hi = some eh)
include hT h ho hel heh
theorem bnd_vals (n : Nat) : ((lo.map a.eval = none ∧ loD el ν = 0) ∨ ∃ k, lo.map a.eval = some (.int k (loD el ν))) ∧ ((hi.map a.eval = none ∧ hiD eh n ν = n) ∨ ∃ k, hi.map a.eval = some (.int k (hiD eh n ν))) := by
  constructor
  · rcases bndE_sound h hel with ⟨rfl, rfl⟩ | ⟨y, k, m, rfl, rfl, hv⟩
    · exact .inl ⟨rfl, rfl⟩
    · exact .inr ⟨k, by simp [hv, loD]⟩
  · rcases bndE_sound h heh with ⟨rfl, rfl⟩ | ⟨y, k, m, rfl, rfl, hv⟩
    · exact .inl ⟨rfl, rfl⟩
    · exact .inr ⟨k, by simp [hv, hiD]⟩
theorem stepCut_sound {t' : TypeId} {y : E} (hx : Rd C.ti w S (.sl t') (y.den ν) (a.eval x)) (htt : C.ti t = C.ti t') (hsl : (C.ti t).isSl = true) (hr : (stepCut t' y el eh σ K').Run C.R ν r) : o.wp C.P a w (Post C σ ω o.dst K' r a.defers) Q := by
  obtain ⟨e, agg, lv, hti⟩ := TI.isSl_inv hsl
  obtain ⟨xs, hxs⟩ : ∃ xs, y.den ν = .list xs := by
    generalize y.den ν = d at hx
    generalize a.eval x = v at hx
    cases hx <;> exact ⟨_, rfl⟩
  obtain ⟨b, cap, hv⟩ : ∃ b cap, a.eval x = .slice b xs.length cap := by
    rw [hxs] at hx
    generalize hav : a.eval x = v at hx
    cases hx <;> exact ⟨_, _, rfl⟩
  unfold stepCut at hr
  obtain ⟨h0, h1, h2, hK⟩ := sliceCks_sound h (n := xs.length) (by rw [lenE_den, hxs]; rfl) hr
  obtain ⟨g1, g2⟩ := bnd_vals hT h ho hel heh xs.length
  have hcap : hiD eh xs.length ν ≤ cap := by
    rw [hv] at hx
    rcases Nat.eq_zero_or_pos xs.length with h3 | h3
    · omega
    · have := hx.cap h3; omega
  refine post_one h (slice_exec ho (by rw [hv]; exact run_sliceAt_sl hT hti g1 g2 h0 h1 hcap)) hK ?_
  show Rd _ _ _ (.sl t') ((cutE y el eh).den ν) _
  rw [cutE_den y el eh ν hxs h0 h1]
  rw [hv, hxs] at hx
  have := hx.sub_slice (C := C) (by rw [← htt]; exact hti) (l := (loD el ν).toNat) (hh := (hiD eh xs.length ν).toNat) (by omega) (by omega)
  simpa [D.toList] using this
theorem nilSlice {s1 s2 : Option Operand} (h1 : lo = s1) (h2 : hi = s2) {t' : TypeId} (hx : a.eval x = .slice none 0 0) (hsl : (C.ti t).isSl = true) (hlo : loD el ν = 0) (hhi : hiD eh 0 ν = 0) (hr : (ok1 K' σ (.nil t')).Run C.R ν r) : o.wp C.P a w (Post C σ ω o.dst K' r a.defers) Q := by
  obtain ⟨e, agg, lv, hti⟩ := TI.isSl_inv hsl
  obtain ⟨g1, g2⟩ := bnd_vals hT h ho hel heh 0 (ν := ν)
  have hrun := run_sliceAt_sl (w := w) hT hti (b := none) (len := 0) (cap := 0) g1 g2 (by omega) (by omega) (by simp; omega)
  refine post_one h (slice_exec ho (by rw [hx]; exact hrun)) hr ?_
  rw [hlo, hhi]
  rfl
theorem stepSlice_sound (hnb : NbOK σ ω 1) {s : SV1} (hx : SR C.ti w S ω ν s (a.eval x)) (hr : (stepSlice C.ti t s el eh σ K').Run C.R ν r) : o.wp C.P a w (Post C σ ω o.dst K' r a.defers) Q := by
  unfold stepSlice at hr
  split at hr
  · rename_i y
    split at hr
    · rename_i hti
      obtain ⟨_, hv⟩ := Rd.str_inv hx
      obtain ⟨h0, h1, h2, hK⟩ := sliceCks_sound h (n := (y.den ν).toStr.size) rfl hr
      obtain ⟨g1, g2⟩ := bnd_vals hT h ho hel heh (y.den ν).toStr.size (ν := ν)
      refine post_one h (slice_exec ho (by rw [hv]; exact run_sliceAt_str hT hti g1 g2 h0 h1 h2)) hK ?_
      have key : ((E.o3 .ssub y (el.getD (.i 0)) (eh.getD (.o1 .slen y))).den ν) = .str ((y.den ν).toStr.extract (loD el ν).toNat (hiD eh (y.den ν).toStr.size ν).toNat) := by
        cases el <;> cases eh <;> simp [E.den, O3.den, O1.den, loD, hiD, D.toInt]
      show Rd _ _ _ .str (E.den ν _) _
      rw [key]
      exact .str _
    · exact hr.elim
  · rename_i t' y
    split at hr
    · rename_i hc
      exact stepCut_sound hT h ho hel heh hx hc.1 hc.2 hr
    · exact hr.elim
  · rename_i t'
    split at hr
    · rename_i hsl
      have hx' : a.eval x = .slice none 0 0 := hx
      split at hr
      · exact nilSlice hT h ho hel heh rfl rfl hx' hsl rfl rfl hr
      · exact nilSlice hT h ho hel heh rfl rfl hx' hsl rfl rfl hr
      · exact nilSlice hT h ho hel heh rfl rfl hx' hsl rfl rfl hr
      · exact hr.elim
    · exact hr.elim
  · rename_i ob
    split at hr
    · rename_i t' y hob
      split at hr
      · rename_i hc
        obtain ⟨hω, _⟩ := hx
        obtain ⟨v, e, agg, lv, ds, vs, hω', hti', hden, hown, hrc⟩ := h.objs ob _ hob
        rw [hω] at hω'
        cases hω'
        have hti : C.ti t = .sl e agg lv := hc.1.trans hti'
        obtain ⟨b, cap, hv, hcap⟩ : ∃ b cap, a.eval x = .slice b ds.length cap ∧ ds.length ≤ cap := by
          rcases hown.2 with ⟨hn, hl⟩ | ⟨g, cap, cur, hn, _, _, hcap, _⟩
          · exact ⟨none, 0, by rw [hn, hl], by omega⟩
          · exact ⟨_, _, hn, hcap⟩
        split at hr
        · rename_i hh
          obtain ⟨h1, hr⟩ := ckLe_sound h hr
          obtain ⟨h2, hr⟩ := ckLe_sound h hr
          rw [lenE_den, hden] at h2
          have h1 : 0 ≤ (hh.den ν).toInt := h1
          have h2 : (hh.den ν).toInt ≤ (ds.length : Int) := h2
          obtain ⟨g1, g2⟩ := bnd_vals hT h ho hel heh ds.length (ν := ν)
          have hrun := run_sliceAt_sl (w := w) hT hti (b := b) (len := ds.length) (cap := cap) g1 g2 (Int.le_refl _) h1 (by show (hh.den ν).toInt ≤ _; omega)
          obtain ⟨hn, hnle, hndead⟩ := hnb.one h
          -- the old row is given up, the new one is the same memory
          refine post_val (S' := S) (slice_exec ho (by rw [hv]; exact hrun)) (ω' := upd1 ω σ.nb (sliced b 0 (hh.den ν).toInt.toNat cap lv.length)) hr ?_ (NewAt.upd _ _ _) ⟨upd1_self _ _ _, _, _, _, rfl⟩
          refine Sim.app_of (objs := place (σ.objs.set ob .dead) σ.nb [.row t' (.o2 .take y hh)]) ?_ (by simp [St.objsOf, freeze_nil, upds]) rfl
          have hk := h.kill ob
          have hlen : (σ.objs.set ob .dead).length = σ.objs.length := by simp
          have hblk : ∀ b0, blk (sliced b 0 (hh.den ν).toInt.toNat cap lv.length) = some b0 → (ω ob).bind blk = some b0 := by
            intro b0 hb0
            rw [hω, hv]
            unfold sliced at hb0
            cases b with
            | none => split at hb0 <;> simp [blk] at hb0
            | some ad =>
              split at hb0
              · simpa [blk] using hb0
              · simp only [Option.map_some, Nat.zero_mul, blk, Addr.add, Option.some.injEq] at hb0
                simpa [blk] using hb0
          have := hk.new (n := σ.nb) hn (by simp only [hlen]; exact hnle) (ob := .row t' (.o2 .take y hh)) (v := sliced b 0 (hh.den ν).toInt.toNat cap lv.length) (fun b0 _ hb0 => by
            have hb1 := hblk b0 hb0
            obtain ⟨k1, k2, k3⟩ := h.own ob _ b0 hob rfl hb1
            refine ⟨k1, k2, k3, fun o2 x2 ho2 hl2 he2 => ?_⟩
            simp only at ho2
            by_cases heq : ob = o2
            · subst heq
              have hlt : ob < σ.objs.length := (List.getElem?_eq_some_iff.1 hob).1
              simp [hlt] at ho2
              subst ho2
              simp [SObj.live] at hl2
            · rw [List.getElem?_set_ne heq] at ho2
              exact heq (h.sep ob o2 _ x2 b0 hob ho2 rfl hl2 hb1 he2)) ?_
          · exact this
          · refine ⟨_, e, agg, lv, ds.take (hh.den ν).toInt.toNat, vs.take ((hh.den ν).toInt.toNat * lv.length), upd1_self _ _ _, hti', by simp [E.den, O2.den, hden, D.toList], ?_, ?_⟩
            · have hm : min (hh.den ν).toInt.toNat ds.length = (hh.den ν).toInt.toNat := by omega
              have hle : (hh.den ν).toInt.toNat * lv.length ≤ ds.length * lv.length := Nat.mul_le_mul_right _ (by omega)
              rw [List.length_take, hm]
              refine ⟨by rw [List.length_take, hown.1]; omega, ?_⟩
              unfold sliced
              rcases hown.2 with ⟨hn, hl⟩ | ⟨g, cap', cur, hn, hb0, hg, hca, hmx, hcs, htk⟩
              · rw [hv] at hn
                simp only [Value.slice.injEq] at hn
                obtain ⟨rfl, h0, rfl⟩ := hn
                left
                have : (hh.den ν).toInt.toNat = 0 := by omega
                simp [this]
              · rw [hv] at hn
                simp only [Value.slice.injEq] at hn
                obtain ⟨rfl, _, rfl⟩ := hn
                right
                refine ⟨g, cap, cur, ?_, hb0, hg, by omega, hmx, hcs, ?_⟩
                · have : (⟨g, 0, none⟩ : Addr).add (0 * lv.length) = ⟨g, 0, none⟩ := by simp [Addr.add_mid]
                  simp [Addr.add_mid]
                · rw [← htk, List.take_take, Nat.min_eq_left hle]
            · intro j c k hj hk2
              have hj' : j < (hh.den ν).toInt.toNat ∧ j < ds.length := by rw [List.length_take] at hj; omega
              have h3 := hrc j c k hj'.2 hk2
              have hcl : c < lv.length := (List.getElem?_eq_some_iff.1 hk2).1
              have hlt : j * lv.length + c < (hh.den ν).toInt.toNat * lv.length := by
                calc j * lv.length + c < j * lv.length + lv.length := by omega
                  _ = (j + 1) * lv.length := by rw [Nat.add_mul]; simp
                  _ ≤ _ := Nat.mul_le_mul_right _ hj'.1
              have e1 : (ds.take (hh.den ν).toInt.toNat).getD j default = ds.getD j default := by
                rw [List.getD_eq_getElem?_getD, List.getD_eq_getElem?_getD, List.getElem?_take, if_pos hj'.1]
              have e2 : (vs.take ((hh.den ν).toInt.toNat * lv.length)).getD (j * lv.length + c) undef = vs.getD (j * lv.length + c) undef := by
                rw [List.getD_eq_getElem?_getD, List.getD_eq_getElem?_getD, List.getElem?_take, if_pos hlt]
              rw [e1, e2]
              exact h3
        · obtain ⟨g1, g2⟩ := bnd_vals hT h ho hel heh ds.length (ν := ν)
          have hrun := run_sliceAt_sl (w := w) hT hti (b := b) (len := ds.length) (cap := cap) g1 g2 (Int.le_refl _) (by simp [loD, hiD]) (by simp [hiD]; omega)
          refine post_one h (slice_exec ho (by rw [hv]; exact hrun)) hr ?_
          have he : sliced b (loD (none : Option E) ν).toNat (hiD (none : Option E) ds.length ν).toNat cap lv.length = a.eval x := by
            rw [hv]
            simp only [sliced, loD, hiD, Int.toNat_zero, Int.toNat_natCast, Nat.sub_zero, Nat.zero_mul]
            rcases hown.2 with ⟨hn, hl⟩ | ⟨g, cap', cur, hn, _⟩
            · rw [hv] at hn
              simp only [Value.slice.injEq] at hn
              obtain ⟨rfl, h0, rfl⟩ := hn
              simp
            · rw [hv] at hn
              simp only [Value.slice.injEq] at hn
              obtain ⟨rfl, _, rfl⟩ := hn
              simp [Addr.add_mid]
          rw [he]
          exact ⟨hω, b, ds.length, cap, hv⟩
        · exact hr.elim
      · exact hr.elim
    · rename_i t' y hob
      split at hr
      · rename_i hc
        obtain ⟨v, hω', hd⟩ := h.objs ob _ hob
        have hv : a.eval x = v := by rw [hx.1] at hω'; exact Option.some.inj hω'
        exact stepCut_sound hT h ho hel heh (by rw [hv]; exact hd) hc.1 hc.2 hr
      · exact hr.elim
    · exact hr.elim
  · exact hr.elim
end
end
end Go.SX
