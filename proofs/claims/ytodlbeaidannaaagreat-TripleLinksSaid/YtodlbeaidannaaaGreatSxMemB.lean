/-
Variables that are made; addresses; the small operations.
-/
import Derived.Test.YtodlbeaidannaaaGreatSxMem
import Derived.Laws.Tables
set_option linter.unusedVariables false
set_option linter.unusedSimpArgs false
set_option linter.unusedSectionVars false
namespace Go.SX
open Go.RowKit
section
variable {C : Cx} {σ : St} {ν : List D} {S : Nat → Prop} {ω : Nat → Option Value} {w : World} {r : List D} {a : Act} {o : Oper} {Q : Exit → Act → World → Prop} {K' : Delta → T}

theorem Fr_alloc (w : World) (ob : Obj) : Fr w (fun _ => False) (w.alloc ob) := ⟨rfl, rfl, rfl, by simp, fun k hk _ => heap_alloc_old w ob k hk⟩

/-- A new object in a new block. -/
theorem Sim.newBlock {tm : Array Value} (h : Sim C σ ν S ω tm w) (hn : NbOK σ ω 1) {w' : World} {x : SObj} {v : Value} (hf : Fr w (fun _ => False) w') (hlt : ∀ b, blk v = some b → b = w.heap.size ∧ b < w'.heap.size)
    (ho : ObjR C.ti w' S (upd1 ω σ.nb v) ν σ.nb x) : Sim C { σ with objs := place σ.objs σ.nb [x] } ν S (upd1 ω σ.nb v) tm w' := by
  obtain ⟨h1, h2, _⟩ := hn.one h
  refine (h.grow hf).new h1 h2 (fun b hl hb => ?_) ho
  obtain ⟨hb1, h2⟩ := hlt b hb
  subst hb1
  refine ⟨fun hS => Nat.lt_irrefl _ (h.stab _ hS), h2, .inl h.frame.size, fun o x ho hl he => ?_⟩
  exact Nat.lt_irrefl _ (h.own o x _ ho hl he).2.1
/-- What a step's end is, told plainly. -/
theorem Sim.app_of {tm : Array Value} {δ : Delta} {objs : List SObj} {ω' : Nat → Option Value} {ν' : List D} {S' : Nat → Prop} (h : Sim C { σ with objs := objs } ν' S' ω' tm w) (ho : σ.objsOf δ = objs) (hd : δ.dn = 0) : Sim C (σ.app none δ) ν' S' ω' tm w := by
  have : σ.app none δ = { σ with objs := objs, nb := objs.length, vb := σ.nv } := by simp [St.app, ho, hd]
  rw [this]
  exact h.renb _ _
theorem objsOf_new (σ : St) (s : Slot) (x : SObj) : σ.objsOf { dst := s, upd := [], new := [x], fz := [], dn := 0 } = place σ.objs σ.nb [x] := by
  simp [St.objsOf, freeze_nil, upds]
theorem upd1_self (ω : Nat → Option Value) (n : Nat) (v : Value) : upd1 ω n v n = some v := by simp [upd1]

theorem All2.sr_grow {l : List SV1} {vs : List Value} (hw : ∀ b, S b → b < w.heap.size) {w' : World} (hf : Fr w (fun _ => False) w') {n : Nat} (hn : ω n = none) (v : Value)
    (h : All2 (SR C.ti w S ω ν) l vs) : All2 (SR C.ti w' S (upd1 ω n v) ν) l vs :=
  h.imp fun _ _ k => k.mono (fun b hb => hf.block b (hw b hb) (fun h => h)) (fun _ h => h) (upd1_le hn v)

/-- A variable is made. -/
theorem newVar_sim {tm : Array Value} (h : Sim C σ ν S ω tm w) (hn : NbOK σ ω 1) {cs : List SV1} {vs : Array Value} (t : TypeId) (hc : All2 (SR C.ti w S ω ν) cs vs.toList) :
    Sim C { σ with objs := place σ.objs σ.nb [.box cs] } ν S (upd1 ω σ.nb (.pointer (some ⟨w.heap.size, 0, none⟩))) tm (w.alloc (.cells vs t)) := by
  refine h.newBlock hn (Fr_alloc w _) (fun b hb => ?_) ?_
  · simp [blk] at hb; subst hb; exact ⟨rfl, by simp⟩
  · exact ⟨w.heap.size, t, vs, upd1_self _ _ _, heap_alloc_new w _, hc.sr_grow h.stab (Fr_alloc w _) (hn.one h).1 _⟩

theorem zero_sound {k : Option K} {v : Value} (h : ZeroV k v) : SR C.ti w S ω ν (zero1 k) v := by
  cases k with
  | none => exact h
  | some k => cases k with
    | int k => obtain rfl := h; exact .int _ _
    | bool => obtain rfl := h; exact .bool _
    | str => obtain rfl := h; exact .str _
    | sl t => exact h
theorem zeros_sound {l : List (Option K)} {vs : List Value} (h : All2 ZeroV l vs) : All2 (SR C.ti w S ω ν) (l.map zero1) vs := All2.mapL (h.imp fun _ _ k => zero_sound k)
theorem stepAlloc_sound (hT : TyOK C.P C.ti) (h : Sim C σ ν S ω a.tmps w) (hn : NbOK σ ω 1) {t : TypeId} (ho : o.op = .alloc t) (hr : (stepAlloc C.ti t σ K').Run C.R ν r) : o.wp C.P a w (Post C σ ω o.dst K' r a.defers) Q := by
  unfold stepAlloc at hr
  split at hr
  · rename_i hb
    have key : ∃ i z, C.P.info? t = some i ∧ i.zero = some z ∧ All2 (SR C.ti w S ω ν) (zeroSV C.ti t).cells z.cells.toList := by
      have ht := hT t
      unfold TyF at ht
      unfold zeroSV
      cases hti : C.ti t with
      | one k =>
        rw [hti] at ht
        obtain ⟨d, z, ⟨_, _, i, h1, _, h2⟩, _, hz⟩ := ht
        have hs := zero_sound (C := C) (w := w) (S := S) (ω := ω) (ν := ν) hz
        exact ⟨i, z, h1, h2, by simpa [kindOf, SV.cells] using SVR.cells (sv := .c (zero1 (some k))) hs⟩
      | sl e agg lv =>
        rw [hti] at ht
        obtain ⟨⟨_, _, i, h1, _, h2⟩, _⟩ := ht
        exact ⟨i, _, h1, h2, by simpa [kindOf, SV.cells, zero1] using SVR.cells (w := w) (S := S) (ω := ω) (ν := ν) (ti := C.ti) (sv := .c (.nil t)) rfl⟩
      | ag st lv fs =>
        rw [hti] at ht
        obtain ⟨i, z, d, _, _, h1, _, h2, hz, _⟩ := ht
        exact ⟨i, _, h1, h2, zeros_sound hz⟩
      | other =>
        rw [hti] at ht
        obtain ⟨d, z, ⟨_, _, i, h1, _, h2⟩, hz⟩ := ht
        have hs := zero_sound (C := C) (w := w) (S := S) (ω := ω) (ν := ν) (k := none) hz
        exact ⟨i, z, h1, h2, by simpa [kindOf, SV.cells] using SVR.cells (sv := .c (zero1 none)) hs⟩
      | bad => exact absurd hti hb
    obtain ⟨i, z, hi, hz, hc⟩ := key
    refine post_val (v := .pointer (some ⟨w.heap.size, 0, none⟩)) (w' := w.alloc (.cells z.cells t)) ?_ hr ((newVar_sim h hn t hc).app_of (objsOf_new _ _ _) rfl) (NewAt.upd _ _ _) ⟨w.heap.size, upd1_self _ _ _, rfl⟩
    unfold execOp
    simp [ho, Instr.alloc, zeroValue_run hi hz, newVar, newRow]
  · exact hr.elim
theorem stepBox_sound (h : Sim C σ ν S ω a.tmps w) (hn : NbOK σ ω 1) {t : TypeId} {x : Operand} {sv : SV} (ho : o.op = .box t x) (hx : SVR C.ti w S ω ν sv (a.eval x)) (hr : (stepBox sv σ K').Run C.R ν r) : o.wp C.P a w (Post C σ ω o.dst K' r a.defers) Q := by
  refine post_val (v := .pointer (some ⟨w.heap.size, 0, none⟩)) (w' := w.alloc (.cells (a.eval x).cells t)) ?_ hr ((newVar_sim h hn t hx.cells).app_of (objsOf_new _ _ _) rfl) (NewAt.upd _ _ _) ⟨w.heap.size, upd1_self _ _ _, rfl⟩
  unfold execOp
  simp [ho, Instr.box, newVar, newRow]

/-! ### Addresses -/
theorem SR.ptr {s : SV1} {v : Value} (h : SR C.ti w S ω ν s v) (hs : (∃ o off, s = .p o off) ∨ (∃ o sz i off, s = .po o sz i off) ∨ ∃ ks, s = .r ks) : ∃ b off, v = .pointer (some ⟨b, off, none⟩) := by
  rcases hs with ⟨o, off, rfl⟩ | ⟨o, sz, i, off, rfl⟩ | ⟨ks, rfl⟩
  · obtain ⟨b, _, rfl⟩ := h; exact ⟨_, _, rfl⟩
  · obtain ⟨g, n, cap, _, rfl, _⟩ := h; exact ⟨_, _, rfl⟩
  · obtain ⟨b, off, rfl, _⟩ := h; exact ⟨_, _, rfl⟩
theorem stepNilCheck_sound (h : Sim C σ ν S ω a.tmps w) {x : Operand} {s : SV1} (ho : o.op = .nilCheck x) (hx : SR C.ti w S ω ν s (a.eval x)) (hr : (stepNilCheck s σ K').Run C.R ν r) : o.wp C.P a w (Post C σ ω o.dst K' r a.defers) Q := by
  have go : ∀ b off, a.eval x = .pointer (some ⟨b, off, none⟩) → (ok1 K' σ s).Run C.R ν r → o.wp C.P a w (Post C σ ω o.dst K' r a.defers) Q := by
    intro b off hv hK
    refine post_one h (v := a.eval x) ?_ hK hx
    unfold execOp
    simp [ho, hv]
  unfold stepNilCheck at hr
  split at hr
  · obtain ⟨b, off, hv⟩ := hx.ptr (.inl ⟨_, _, rfl⟩); exact go b off hv hr
  · obtain ⟨b, off, hv⟩ := hx.ptr (.inr (.inl ⟨_, _, _, _, rfl⟩)); exact go b off hv hr
  · obtain ⟨b, off, hv⟩ := hx.ptr (.inr (.inr ⟨_, rfl⟩)); exact go b off hv hr
  · exact hr.elim
theorem RdP.drop {ks : List (K × E)} {b off : Nat} (h : RdP C.ti w S ν ks (.pointer (some ⟨b, off, none⟩))) (n : Nat) : RdP C.ti w S ν (ks.drop n) (.pointer (some ⟨b, off + n, none⟩)) := by
  obtain ⟨b', off', hv, hb, hc⟩ := h
  cases hv
  refine ⟨b, off + n, rfl, fun hk => hb fun he => hk (by rw [he]; simp), fun c k x hx => ?_⟩
  rw [drop_get] at hx
  obtain ⟨u, h1, h2⟩ := hc _ k x hx
  exact ⟨u, by rw [Nat.add_assoc]; exact h1, h2⟩
/-- An address some cells on. -/
theorem addr_on {s : SV1} {v : Value} (h : SR C.ti w S ω ν s v) (fo : Nat) :
    (∀ o off, s = .p o off → ∃ b of2, v = .pointer (some ⟨b, of2, none⟩) ∧ SR C.ti w S ω ν (.p o (off + fo)) (.pointer (some ⟨b, of2 + fo, none⟩))) ∧
    (∀ o sz i off, s = .po o sz i off → ∃ b of2, v = .pointer (some ⟨b, of2, none⟩) ∧ SR C.ti w S ω ν (.po o sz i (off + fo)) (.pointer (some ⟨b, of2 + fo, none⟩))) ∧
    (∀ ks, s = .r ks → ∃ b of2, v = .pointer (some ⟨b, of2, none⟩) ∧ SR C.ti w S ω ν (.r (ks.drop fo)) (.pointer (some ⟨b, of2 + fo, none⟩))) := by
  refine ⟨fun o off hs => ?_, fun o sz i off hs => ?_, fun ks hs => ?_⟩
  · subst hs
    obtain ⟨b, h1, rfl⟩ := h
    exact ⟨_, _, rfl, b, h1, rfl⟩
  · subst hs
    obtain ⟨g, n, cap, h1, rfl, h2⟩ := h
    exact ⟨_, _, rfl, g, n, cap, h1, by rw [Nat.add_assoc], h2⟩
  · subst hs
    obtain ⟨b, off, rfl, h1⟩ := h
    exact ⟨_, _, rfl, RdP.drop ⟨b, off, rfl, h1⟩ fo⟩

theorem ag_struct (hT : TyOK C.P C.ti) {t : TypeId} {lv : List (Option K)} {fs : List (Nat × Nat × Bool)} (hti : C.ti t = .ag true lv fs) :
    ∃ fields, C.P.underlying t = some (.struct fields) ∧ fields.size = fs.length ∧ ∀ (j : Nat) f, fields[j]? = some f → ∃ i, C.P.info? f.type = some i ∧ fs[j]? = some (f.offset, i.size, aggB C.P f.type) ∧ 0 < i.size ∧ f.offset + i.size ≤ lv.length ∧ (aggB C.P f.type = false → i.size = 1) ∧ (∃ d, C.P.underlying f.type = some d) := by
  have ht := hT t
  unfold TyF at ht
  rw [hti] at ht
  obtain ⟨i, z, d, h1, _, _, _, _, _, h2⟩ := ht
  rcases h2 with ⟨f', _, rfl, h3, h4⟩ | ⟨n, e, i, hd, _⟩
  · exact ⟨f', h1, h3, h4⟩
  · cases hd
theorem ag_array (hT : TyOK C.P C.ti) {t : TypeId} {lv : List (Option K)} {fs : List (Nat × Nat × Bool)} (hti : C.ti t = .ag false lv fs) :
    ∃ n e i, C.P.underlying t = some (.array n e) ∧ C.P.info? e = some i ∧ 0 < i.size ∧ fs.length = n ∧ (∀ j, j < n → fs[j]? = some (j * i.size, i.size, aggB C.P e)) ∧ lv.length = n * i.size ∧ (aggB C.P e = false → i.size = 1) ∧ (∃ d, C.P.underlying e = some d) := by
  have ht := hT t
  unfold TyF at ht
  rw [hti] at ht
  obtain ⟨i, z, d, h1, _, _, _, _, _, h2⟩ := ht
  rcases h2 with ⟨f', hf, _⟩ | ⟨n', e', i, _, rfl, h3⟩
  · cases hf
  · exact ⟨n', e', i, h1, h3⟩
/-- One of the fields. -/
theorem field_get (hT : TyOK C.P C.ti) {t : TypeId} {lv : List (Option K)} {fs : List (Nat × Nat × Bool)} (hti : C.ti t = .ag true lv fs) {j fo sz : Nat} {ag : Bool} (hj : fs[j]? = some (fo, sz, ag)) :
    ∃ fields f i, C.P.underlying t = some (.struct fields) ∧ fields[j]? = some f ∧ C.P.info? f.type = some i ∧ fo = f.offset ∧ sz = i.size ∧ ag = aggB C.P f.type ∧ 0 < i.size ∧ (aggB C.P f.type = false → i.size = 1) ∧ (∃ d, C.P.underlying f.type = some d) := by
  obtain ⟨fields, hu, hs, hf⟩ := ag_struct hT hti
  have hlt : j < fields.size := by rw [hs]; exact (List.getElem?_eq_some_iff.1 hj).1
  have hg : fields[j]? = some fields[j] := Array.getElem?_eq_getElem hlt
  obtain ⟨i, h1, h2, h3, h4, h5, h6⟩ := hf j _ hg
  rw [hj] at h2
  simp only [Option.some.injEq, Prod.mk.injEq] at h2
  exact ⟨fields, _, i, hu, hg, h1, h2.1, h2.2.1, h2.2.2, h3, h5, h6⟩
theorem run_fieldAt_ok (hT : TyOK C.P C.ti) {t : TypeId} {lv : List (Option K)} {fs : List (Nat × Nat × Bool)} (hti : C.ti t = .ag true lv fs) {j fo sz : Nat} {ag : Bool} (hj : fs[j]? = some (fo, sz, ag)) (b off : Nat) :
    (Instr.fieldAt t (.pointer (some ⟨b, off, none⟩)) j).run C.P w = .ok (.pointer (some ⟨b, off + fo, none⟩)) w := by
  obtain ⟨fields, f, i, hu, hf, hi, rfl, rfl, _, h0, _⟩ := field_get hT hti hj
  have hsz : i.size ≠ 0 := by omega
  simp [Instr.fieldAt, run_underlying hu, hf, Instr.sureAddr, fieldPlace, sizeOf_run hi, hsz, Addr.add_mid]
theorem stepFieldAddr_sound (hT : TyOK C.P C.ti) (h : Sim C σ ν S ω a.tmps w) {t : TypeId} {x : Operand} {j : Nat} {s : SV1} (ho : o.op = .fieldAddr t x j) (hx : SR C.ti w S ω ν s (a.eval x)) (hr : (stepFieldAddr C.ti t j s σ K').Run C.R ν r) :
    o.wp C.P a w (Post C σ ω o.dst K' r a.defers) Q := by
  unfold stepFieldAddr at hr
  split at hr
  · rename_i lv fs hti
    have go : ∀ {fo sz : Nat} {ag : Bool} {b of2 : Nat} {s' : SV1}, fs[j]? = some (fo, sz, ag) → a.eval x = .pointer (some ⟨b, of2, none⟩) → SR C.ti w S ω ν s' (.pointer (some ⟨b, of2 + fo, none⟩)) → (ok1 K' σ s').Run C.R ν r → o.wp C.P a w (Post C σ ω o.dst K' r a.defers) Q := by
      intro fo sz ag b of2 s' hj hv hs hK
      refine post_one h ?_ hK hs
      unfold execOp
      simp [ho, hv, run_fieldAt_ok hT hti hj]
    split at hr
    · rename_i fo sz ag o' off hj
      obtain ⟨b, of2, h1, h2⟩ := (addr_on hx fo).1 _ _ rfl
      exact go hj h1 h2 hr
    · rename_i fo sz ag o' sz' i off hj
      obtain ⟨b, of2, h1, h2⟩ := (addr_on hx fo).2.1 _ _ _ _ rfl
      exact go hj h1 h2 hr
    · rename_i fo sz ag ks hj
      obtain ⟨b, of2, h1, h2⟩ := (addr_on hx fo).2.2 _ rfl
      exact go hj h1 h2 hr
    · exact hr.elim
  · exact hr.elim
theorem run_indexAt_arr (hT : TyOK C.P C.ti) {t : TypeId} {lv : List (Option K)} {fs : List (Nat × Nat × Bool)} (hti : C.ti t = .ag false lv fs) {n : Int} (h0 : 0 ≤ n) {fo sz : Nat} {ag : Bool} (hj : fs[n.toNat]? = some (fo, sz, ag)) (b off : Nat) (k : IntKind) :
    (Instr.indexAt t (.pointer (some ⟨b, off, none⟩)) (.int k n)).run C.P w = .ok (.pointer (some ⟨b, off + fo, none⟩)) w := by
  obtain ⟨m, e, i, hu, hi, hs, hl, hg, _⟩ := ag_array hT hti
  have hlt : n.toNat < m := by rw [← hl]; exact (List.getElem?_eq_some_iff.1 hj).1
  rw [hg _ hlt] at hj
  simp only [Option.some.injEq, Prod.mk.injEq] at hj
  obtain ⟨rfl, rfl, rfl⟩ := hj
  have hlt' : n < m := by omega
  simp [Instr.indexAt, asIntOf, run_underlying hu, Instr.sureAddr, h0, hlt', sizeOf_run hi, Addr.add_mid]
theorem run_indexAt_sl (hT : TyOK C.P C.ti) {t e : TypeId} {agg : Bool} {lv : List K} (hti : C.ti t = .sl e agg lv) {i : Int} {n cap b off : Nat} (h0 : 0 ≤ i) (hi : i < n) (k : IntKind) :
    (Instr.indexAt t (.slice (some ⟨b, off, none⟩) n cap) (.int k i)).run C.P w = .ok (.pointer (some ⟨b, off + i.toNat * lv.length, none⟩)) w := by
  have ht := hT t
  unfold TyF at ht
  rw [hti] at ht
  obtain ⟨⟨hu, _⟩, j, z, hj, hs, _⟩ := ht
  simp [Instr.indexAt, asIntOf, run_underlying hu, h0, hi, sizeOf_run hj, hs, Addr.add_mid]
theorem stepIndexAddr_sound (hT : TyOK C.P C.ti) (h : Sim C σ ν S ω a.tmps w) {t : TypeId} {x ix : Operand} {s : SV1} {i : E} {k : IntKind} (ho : o.op = .indexAddr t x ix) (hx : SR C.ti w S ω ν s (a.eval x)) (hi : Rd C.ti w S (.int k) (i.den ν) (a.eval ix))
    (hr : (stepIndexAddr C.ti t s i σ K').Run C.R ν r) : o.wp C.P a w (Post C σ ω o.dst K' r a.defers) Q := by
  have hiv := hi.int_inv.2
  unfold stepIndexAddr at hr
  split at hr
  · rename_i e agg lv hti
    -- of plain data
    have data : ∀ {t' : TypeId} {y : E} {S' : Nat → Prop} {v : Value}, C.ti t' = C.ti t → S' = S → Rd C.ti w S (.sl t') (y.den ν) v → a.eval x = v → (ckRange σ i (lenE y) (ok1 K' σ (.r (elemCells agg lv (.o2 .idx y i))))).Run C.R ν r → o.wp C.P a w (Post C σ ω o.dst K' r a.defers) Q := by
      intro t' y S' v ht' _ hd hv hK
      obtain ⟨h0, h1, hK⟩ := ckRange_sound h hK
      rw [lenE_den] at h1
      obtain ⟨b, off, cap, rfl, hS, hc⟩ := data_cells hd (ht'.trans hti) h0 h1
      refine post_one h (v := .pointer (some ⟨b, off + (i.den ν).toInt.toNat * lv.length, none⟩)) ?_ hK ⟨b, _, rfl, fun _ => hS, fun c k y' hy => ?_⟩
      · unfold execOp
        simp [ho, hv, hiv, run_indexAt_sl hT hti h0 h1]
      · obtain ⟨u, h1, h2⟩ := hc (ie := i) rfl rfl c k y' hy
        exact ⟨u, by rw [Nat.add_assoc]; exact h1, h2⟩
    split at hr
    · rename_i ob
      split at hr
      · rename_i t' y hob
        split at hr
        · rename_i ht'
          obtain ⟨h0, h1, hK⟩ := ckRange_sound h hr
          rw [lenE_den] at h1
          obtain ⟨hω, _⟩ := hx
          obtain ⟨v, e', agg', lv', ds, vs, hω', hti', hden, hown, _⟩ := h.objs ob _ hob
          rw [hω] at hω'
          rw [ht', hti] at hti'
          cases hti'
          rw [hden] at h1
          have h1 : (i.den ν).toInt < (ds.length : Int) := h1
          obtain ⟨g, cap, hv, _⟩ : ∃ g cap, a.eval x = .slice (some ⟨g, 0, none⟩) ds.length cap ∧ True := by
            cases hω'
            rcases hown.2 with ⟨_, hn⟩ | ⟨g, cap, cur, hv, _⟩
            · omega
            · exact ⟨g, cap, hv, trivial⟩
          refine post_one h (v := .pointer (some ⟨g, 0 + (i.den ν).toInt.toNat * lv.length, none⟩)) ?_ hK ⟨g, ds.length, cap, by rw [hω, hv], by simp, h0, h1⟩
          unfold execOp
          simp [ho, hv, hiv, run_indexAt_sl hT hti h0 h1]
        · exact hr.elim
      · rename_i t' y hob
        split at hr
        · rename_i ht'
          obtain ⟨v, hω', hd⟩ := h.objs ob _ hob
          have : a.eval x = v := by rw [hx.1] at hω'; exact Option.some.inj hω'
          exact data ht' rfl hd this hr
        · exact hr.elim
      · exact hr.elim
    · rename_i t' y
      split at hr
      · rename_i ht'
        exact data ht' rfl hx rfl hr
      · exact hr.elim
    · exact hr.elim
  · rename_i lv fs hti
    split at hr
    · rename_i n
      split at hr
      · rename_i h0
        have go : ∀ {fo sz : Nat} {ag : Bool} {b of2 : Nat} {s' : SV1}, fs[n.toNat]? = some (fo, sz, ag) → a.eval x = .pointer (some ⟨b, of2, none⟩) → SR C.ti w S ω ν s' (.pointer (some ⟨b, of2 + fo, none⟩)) → (ok1 K' σ s').Run C.R ν r → o.wp C.P a w (Post C σ ω o.dst K' r a.defers) Q := by
          intro fo sz ag b of2 s' hj hv hs hK
          refine post_one h ?_ hK hs
          have hiv' : a.eval ix = .int k n := hiv
          unfold execOp
          simp [ho, hv, hiv', run_indexAt_arr hT hti h0 hj]
        split at hr
        · rename_i fo sz ag o' off hj
          obtain ⟨b, of2, h1, h2⟩ := (addr_on hx fo).1 _ _ rfl
          exact go hj h1 h2 hr
        · rename_i fo sz ag o' sz' i off hj
          obtain ⟨b, of2, h1, h2⟩ := (addr_on hx fo).2.1 _ _ _ _ rfl
          exact go hj h1 h2 hr
        · rename_i fo sz ag ks hj
          obtain ⟨b, of2, h1, h2⟩ := (addr_on hx fo).2.2 _ rfl
          exact go hj h1 h2 hr
        · exact hr.elim
      · exact hr.elim
    · exact hr.elim
  · exact hr.elim
end
end Go.SX
