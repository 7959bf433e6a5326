/-
Slices that are built; append.
-/
import Derived.Test.YtodlbeaidannaaaGreatSxMemD
import Derived.Deep.Upon
set_option linter.unusedVariables false
set_option linter.unusedSimpArgs false
set_option linter.unusedSectionVars false
namespace Go.SX
open Go.RowKit
section
variable {C : Cx} {σ : St} {ν : List D} {S : Nat → Prop} {ω : Nat → Option Value} {w : World} {r : List D} {a : Act} {o : Oper} {Q : Exit → Act → World → Prop} {K' : Delta → T}

def ElR (ti : TypeId → TI) (w : World) (S : Nat → Prop) (agg : Bool) (lv : List K) (d : D) (v : Value) : Prop := v.cells.size = lv.length ∧ ∀ (c : Nat) k, lv[c]? = some k → Rd ti w S k (cellD agg c d) (v.cells.toList.getD c undef)
theorem aggE_cell (ν : List D) : ∀ (l : List E) (c : Nat), ((aggE l).den ν).cells.getD c default = (l.map (E.den ν)).getD c default
  | [], c => rfl
  | z :: l, 0 => rfl
  | z :: l, c + 1 => by simpa [aggE, E.den, O2.den, D.cells] using aggE_cell ν l c
theorem listE_den (ν : List D) : ∀ l : List E, (listE l).den ν = .list (l.map (E.den ν))
  | [] => rfl
  | [x] => rfl
  | x :: y :: l => by
    have ih := listE_den ν (y :: l)
    simp only [listE, E.den, O2.den, O1.den, ih, D.toList, List.map_cons, List.singleton_append]
theorem elems_sound {ti : TypeId → TI} {objs : List SObj} (hO : ∀ (o : Nat) ob, objs[o]? = some ob → ObjR ti w S ω ν o ob) {agg : Bool} {lv : List K} (h1 : agg = false → lv.length = 1) : ∀ {svs : List SV} {vals : List Value} {xs : List E} {l : List Nat},
    elems objs agg lv svs = some (xs, l) → All2 (SVR ti w S ω ν) svs vals → All2 (fun x v => ElR ti w (SL S ω l) agg lv (x.den ν) v) xs vals ∧ LiveL objs l
  | [], vals, xs, l, h, hv => by
    cases hv
    simp only [elems, Option.some.injEq, Prod.mk.injEq] at h
    obtain ⟨rfl, rfl⟩ := h
    exact ⟨.nil, fun o ho => by simp at ho⟩
  | sv :: r, vals, xs, l, h, hv => by
    cases hv with
    | cons hv hvs =>
      rename_i u us
      simp only [elems] at h
      split at h
      · rename_i ks l1 ys l2 hks hys
        split at h
        · rename_i hlv
          obtain ⟨d1, d2⟩ := datasOf_sound hO hks hv.cells
          obtain ⟨e1, e2⟩ := elems_sound hO h1 hys hvs
          have hl : ∀ o, o ∈ l1 ++ l2 → ∃ ob, objs[o]? = some ob ∧ ob.live = true := fun o ho => by
            rcases List.mem_append.1 ho with ho | ho
            · exact d2 o ho
            · exact e2 o ho
          have d1' := d1.imp (R' := fun p v => Rd ti w (SL S ω (l1 ++ l2)) p.1 (p.2.den ν) v) fun p v q => q.sub (SL.mono (by simp; intro o h; exact .inl h))
          have e1' := e1.imp (R' := fun x v => ElR ti w (SL S ω (l1 ++ l2)) agg lv (x.den ν) v) fun x v q => ⟨q.1, fun c k hk => (q.2 c k hk).sub (SL.mono (by simp; intro o h; exact .inr h))⟩
          have hlen := d1.length
          have hkl : ks.length = lv.length := by rw [← hlv]; simp
          have hcell : ∀ (c : Nat) k, lv[c]? = some k → ∃ y, (ks.map (·.2))[c]? = some y ∧ Rd ti w (SL S ω (l1 ++ l2)) k (y.den ν) (u.cells.toList.getD c undef) := by
            intro c k hk
            have hc : c < ks.length := by rw [hkl]; exact (List.getElem?_eq_some_iff.1 hk).1
            obtain ⟨q, hq, hr⟩ := d1'.get (List.getElem?_eq_getElem hc)
            have : (ks[c]).1 = k := by
              have := congrArg (fun l => l[c]?) hlv
              simp only [List.getElem?_map, List.getElem?_eq_getElem hc, Option.map_some, hk] at this
              exact Option.some.inj this
            refine ⟨(ks[c]).2, by rw [List.getElem?_map, List.getElem?_eq_getElem hc]; rfl, ?_⟩
            rw [List.getD_eq_getElem?_getD, hq, ← this]
            exact hr
          have hsz : u.cells.size = lv.length := by rw [← Array.length_toList (xs := u.cells), ← hlen, hkl]
          split at h
          · rename_i hag
            cases h
            refine ⟨.cons ⟨hsz, fun c k hk => ?_⟩ e1', hl⟩
            obtain ⟨y, hy, hr⟩ := hcell c k hk
            subst hag
            simp only [cellD, if_true]
            rw [aggE_cell, List.getD_eq_getElem?_getD, List.getElem?_map, hy]
            exact hr
          · rename_i hag
            split at h
            · rename_i k0 x0
              cases h
              refine ⟨.cons ⟨hsz, fun c k hk => ?_⟩ e1', hl⟩
              obtain ⟨y, hy, hr⟩ := hcell c k hk
              have hag' : agg = false := by simpa using hag
              have hc : c < lv.length := (List.getElem?_eq_some_iff.1 hk).1
              have hl1 := h1 hag'
              have hc0 : c = 0 := by omega
              subst hc0
              simp at hy
              subst hy
              simp only [cellD, hag', Bool.false_eq_true, if_false]
              exact hr
            · cases h
        · cases h
      · cases h

theorem zipIdx_of_fst {β : Type} : ∀ (l : List (Nat × β)) (i n : Nat), l.map (·.1) = (List.range n).map (· + i) → l = ((l.map (·.2)).zipIdx i).map fun x => (x.2, x.1)
  | [], i, n, h => rfl
  | p :: l, i, n, h => by
    cases n with
    | zero => simp at h
    | succ n =>
      rw [List.range_succ_eq_map] at h
      simp only [List.map_cons, List.map_map, List.cons.injEq, Nat.zero_add] at h
      obtain ⟨h1, h2⟩ := h
      have := zipIdx_of_fst l (i + 1) n (by rw [h2]; apply List.map_congr_left; intro x _; simp; omega)
      simp only [List.map_cons, List.zipIdx_cons]
      rw [← this, ← h1]
theorem buildSlice_exec {t : TypeId} {n : Nat} {parts : Array (Nat × Operand)} (ho : o.op = .buildSlice t n parts) {v : Value} {w' : World} (hrun : (Instr.buildSlice t n (parts.map fun x => (x.1, a.eval x.2))).run C.P w = .ok v w') : (execOp a.eval o).run C.P w = .ok (.value v) w' := by
  unfold execOp
  simp [ho, hrun]
theorem stepBuildSlice_sound (hT : TyOK C.P C.ti) (h : Sim C σ ν S ω a.tmps w) (hnb : NbOK σ ω 1) {t : TypeId} {n : Nat} {parts : Array (Nat × Operand)} (ho : o.op = .buildSlice t n parts) (hr : (stepBuildSlice C.ti t n parts.toList σ K').Run C.R ν r) : o.wp C.P a w (Post C σ ω o.dst K' r a.defers) Q := by
  unfold stepBuildSlice at hr
  split at hr
  · rename_i e agg lv hti
    obtain ⟨hu, he, j, z, hj, hjs, hlv, hby, hz, hzz, hone⟩ := sl_row hT hti
    split at hr
    · rename_i ps hps
      split at hr
      · rename_i hcnd
        obtain ⟨hfst, hsmall⟩ := hcnd
        split at hr
        · rename_i xs l hxs
          have hq := lookParts_sound h hps
          have hvals : All2 (SVR C.ti w S ω ν) (ps.map (·.2)) (parts.toList.map fun p => a.eval p.2) := by
            have h1 : All2 (fun (p : Nat × SV) (q : Nat × Operand) => SVR C.ti w S ω ν p.2 (a.eval q.2)) ps parts.toList := by
              have key : ∀ {l : List (Nat × SV)} {m : List (Nat × Operand)}, All2 (fun p q => p.1 = q.1 ∧ SVR C.ti w S ω ν p.2 q.2) l (m.map fun p => (p.1, a.eval p.2)) → All2 (fun p q => SVR C.ti w S ω ν p.2 (a.eval q.2)) l m := by
                intro l m
                induction m generalizing l with
                | nil => intro h; cases h; exact .nil
                | cons q m ih => intro h; cases h with
                  | cons h1 h2 => exact .cons h1.2 (ih h2)
              exact key hq
            exact All2.mapL (All2.map_right h1)
          have hidx : (parts.toList.map fun p => (p.1, a.eval p.2)).map (·.1) = List.range n := by
            rw [← hfst]
            have key : ∀ {l : List (Nat × SV)} {m : List (Nat × Value)}, All2 (fun p q => p.1 = q.1 ∧ SVR C.ti w S ω ν p.2 q.2) l m → m.map (·.1) = l.map (·.1) := by
              intro l m h
              induction h with
              | nil => rfl
              | cons h _ ih => simp [h.1, ih]
            exact key hq
          obtain ⟨hel, hlive⟩ := elems_sound h.objs hone hxs hvals
          have hps2 := zipIdx_of_fst (parts.toList.map fun p => (p.1, a.eval p.2)) 0 n (by rw [hidx]; simp)
          have hmap : (parts.toList.map fun p => (p.1, a.eval p.2)).map (·.2) = parts.toList.map fun p => a.eval p.2 := by simp
          rw [hmap] at hps2
          generalize hvv : (parts.toList.map fun p => a.eval p.2) = vals at *
          have hvl : vals.length = n := by
            have := congrArg List.length hidx
            simp only [List.length_map, List.length_range] at this
            rw [← hvv]; simpa using this
          have hxl : xs.length = n := by rw [hel.length, hvl]
          -- what the machine does
          have hrun : ∃ cells : Array Value, (Instr.buildSlice t n (parts.map fun x => (x.1, a.eval x.2))).run C.P w = .ok (.slice (some ⟨w.heap.size, 0, none⟩) n n) (w.alloc (.cells cells e)) ∧ cells.size = n * lv.length ∧
              ∀ (jj c : Nat), jj < n → c < lv.length → cells[jj * lv.length + c]? = (vals[jj]?).bind fun v => v.cells[c]? := by
            rcases Nat.eq_zero_or_pos n with h0 | h0
            · subst h0
              have hp : parts = #[] := by
                apply Array.toList_inj.1
                have : (parts.toList.map fun p => a.eval p.2).length = 0 := by rw [hvv, hvl]
                simpa using this
              subst hp
              refine ⟨#[], ?_, by simp, fun jj c h => by omega⟩
              simp [Instr.buildSlice, run_underlying hu, sizeOf, typeInfo, hj, newRow, Instr.fill]
              have h0 : Array.range 0 = #[] := by apply Array.toList_inj.1; simp
              rw [h0]
              simp
            · have hls : 0 < n * lv.length := Nat.mul_pos h0 hlv
              obtain ⟨us, g1, g2, g3⟩ := Great.fill_dense hlv vals 0 ((Array.range (n * lv.length)).map (z.cells[· % z.cells.size]!)) (fun v hv => by
                obtain ⟨jj, hjj⟩ := List.mem_iff_getElem?.1 hv
                have hjl : jj < xs.length := by rw [hel.length]; exact (List.getElem?_eq_some_iff.1 hjj).1
                obtain ⟨v', hv', hE⟩ := hel.get (List.getElem?_eq_getElem hjl)
                rw [hjj] at hv'
                cases hv'
                exact hE.1) (by simp [hvl])
              refine ⟨us, run_buildSlice w t e n _ us j z hu hj hz (by rw [hjs]; omega) (by rw [hjs]; omega) ?_, by rw [g2]; simp, fun jj c h1 h2 => ?_⟩
              · rw [hjs]
                have : (parts.map fun x => (x.1, a.eval x.2)).toList = (vals.zipIdx 0).map fun x => (x.2, x.1) := by
                  rw [← hps2]; simp
                rw [this]
                exact g1
              · have hlt : jj * lv.length + c < n * lv.length := by
                  calc jj * lv.length + c < jj * lv.length + lv.length := by omega
                    _ = (jj + 1) * lv.length := by rw [Nat.add_mul]; simp
                    _ ≤ _ := Nat.mul_le_mul_right _ h1
                rw [g3, if_pos ⟨by omega, by rw [hvl]; simpa using hlt⟩]
                have e1 : (jj * lv.length + c) / lv.length = jj := by
                  rw [Nat.mul_comm, Nat.mul_add_div hlv, Nat.div_eq_of_lt h2, Nat.add_zero]
                have e2 : (jj * lv.length + c) % lv.length = c := by
                  rw [Nat.mul_comm, Nat.mul_add_mod, Nat.mod_eq_of_lt h2]
                rw [e1, e2]
                simp
          obtain ⟨cells, hrun, hcs, hget⟩ := hrun
          have hf := h.freeze l hlive
          have hfl : (freeze σ.objs l).length = σ.objs.length := freeze_length _ _
          refine post_val (S' := SL S ω l) (ω' := upd1 ω σ.nb (.slice (some ⟨w.heap.size, 0, none⟩) n n)) (buildSlice_exec ho hrun) hr ?_ (NewAt.upd _ _ _) ⟨upd1_self _ _ _, _, _, _, rfl⟩
          refine Sim.app_of (objs := place (freeze σ.objs l) σ.nb [.row t (listE xs)]) ?_ (by simp [St.objsOf, upds]) rfl
          have hnbf : NbOK { σ with objs := freeze σ.objs l } ω 1 := by
            refine ⟨by simp only [hfl]; exact hnb.1, fun i hi => ⟨(hnb.2 i hi).1, fun x hx => ?_⟩⟩
            simp only [freeze_get] at hx
            obtain ⟨y, hy, rfl⟩ := Option.map_eq_some_iff.1 hx
            rw [(hnb.2 i hi).2 y hy]
            simp [SObj.frozen]
          have key := hf.newBlock hnbf (x := .row t (listE xs)) (v := .slice (some ⟨w.heap.size, 0, none⟩) n n) (Fr_alloc w (.cells cells e)) (fun b hb => by simp [blk] at hb; subst hb; exact ⟨rfl, by simp⟩) ?_
          · exact key
          · refine ⟨_, e, agg, lv, xs.map (E.den ν), cells.toList, upd1_self _ _ _, hti, listE_den ν xs, ?_, ?_⟩
            · rw [List.length_map, hxl]
              refine ⟨by rw [Array.length_toList (xs := cells)]; exact hcs, .inr ⟨w.heap.size, n, cells, rfl, Nat.zero_le _, heap_alloc_new w _, Nat.le_refl _, ?_, hcs, ?_⟩⟩
              · have : n * 1 ≤ n * lv.length := Nat.mul_le_mul_left _ hlv
                simp only [maxLen]
                omega
              · rw [← hcs, ← Array.length_toList (xs := cells), List.take_length]
            · intro jj c k hjj hk
              rw [List.length_map, hxl] at hjj
              have hc : c < lv.length := (List.getElem?_eq_some_iff.1 hk).1
              have hjx : jj < xs.length := by omega
              obtain ⟨v, hv, hE⟩ := hel.get (List.getElem?_eq_getElem hjx)
              have e1 : (xs.map (E.den ν)).getD jj default = (xs[jj]).den ν := by
                rw [List.getD_eq_getElem?_getD, List.getElem?_map, List.getElem?_eq_getElem hjx]; rfl
              have e2 : cells.toList.getD (jj * lv.length + c) undef = v.cells.toList.getD c undef := by
                rw [List.getD_eq_getElem?_getD, List.getD_eq_getElem?_getD, Array.getElem?_toList, hget jj c hjj hc, hv]
                simp
              rw [e1, e2]
              exact (hE.2 c k hk).mono (fun b hb => (Fr_alloc w _).block b (hf.stab b hb) fun h => h) fun _ h => h
        · exact hr.elim
      · exact hr.elim
    · exact hr.elim
  · exact hr.elim
end
end Go.SX
