/-
Equality of structs whose fields are numbers, bools and strings: what the machine's own comparison answers.
-/
import Derived.Test.YtjhggmcdjbcolaaGreatSzTab
import Derived.Laws.StructEq
import Derived.ChangeKeysEq
set_option linter.unusedVariables false
set_option linter.unusedSimpArgs false
set_option linter.unusedSectionVars false
namespace Go.SX
open Go.RowKit
def flatB (P:Program):List Field→List (Option K)→Nat→Bool
 | [],[],_=>true
 | f :: fs, some k :: lv, j => decide (f.offset = j) && !(f.name == "_") && (match P.underlying f.type with
  | some d=>descB d k&&!d.isRow
  | none=>false)&&flatB P fs lv (j+1)
 | _,_,_=>false
def eqB (P:Program) (ti:TypeId→TI) (t:TypeId):Bool:=match P.underlying t,ti t with
 | some (.struct fs),.ag _ lv _=>!P.stoodInHeld t&&!P.eqGuardType P.depth t&&flatB P fs.toList lv 0
 | some (.array n e),.ag _ lv _=>decide (P.cellsOf e=1)&&!P.eqGuardType P.depth t&&decide (lv.length=n)&&(P.info? e).isSome&&(match P.underlying e with
  | some d=>!d.isRow&&lv.all fun | some k=>descB d k | none=>false
  | none=>false)
 | _,_=>false
section
variable {P:Program} {w:World}
theorem part_one {t:TypeId} {d:TypeDesc} (hu:P.underlying t=some d) (hr:d.isRow=false) {vs:List Value} {j:Nat} {v:Value} (hv:vs[j]?=some v):(part t vs.toArray j).run P w=.ok v w:=by
 simp [part,isAgg_run hu,hr,hv]
theorem equalIn_one {t:TypeId} {td:TypeDesc} {k:K} {n:Nat} (hu:P.underlying t=some td) (hd:descB td k=true) {a b:Value} (ha:VK (some k) a) (hb:VK (some k) b):(Op.equalIn (n+1) t a b).run P w=.ok (eqV a b) w:=by
 unfold descB at hd
 split at hd
 · have:=of_decide_eq_true hd
   subst this
   obtain ⟨x,rfl⟩:=ha
   obtain ⟨y,rfl⟩:=hb
   simp [Op.equalIn,run_underlying hu,eqV]
 · obtain ⟨x,rfl⟩:=ha
   obtain ⟨y,rfl⟩:=hb
   simp [Op.equalIn,run_underlying hu,eqV]
 · obtain ⟨x,rfl⟩:=ha
   obtain ⟨y,rfl⟩:=hb
   simp [Op.equalIn,run_underlying hu,eqV]
 · cases hd
theorem All2.cons_inv {α β:Type} {R:α→β→Prop} {a:α} {l:List α} {m:List β} (h:All2 R (a::l) m):∃ b m',m=b::m'∧R a b∧All2 R l m':=by
 cases h with
 | cons h1 h2=>exact ⟨_,_,rfl,h1,h2⟩
theorem All2.nil_inv {α β:Type} {R:α→β→Prop} {m:List β} (h:All2 R [] m):m=[]:=by
 cases h; rfl
theorem eqFields_flat {n:Nat} {vs us:List Value}:∀ (fs:List Field) (lv:List (Option K)) (j:Nat) (vr ur:List Value),flatB P fs lv j=true→vs.drop j=vr→us.drop j=ur→All2 VK lv vr→All2 VK lv ur →
 (Op.eqFields (n+1) vs.toArray us.toArray fs).run P w=.ok (eqVs vr ur) w:=by
 intro fs
 induction fs with
 | nil =>
  intro lv j vr ur h hv hu h1 h2
  cases lv with
  | nil =>
   obtain rfl:=h1.nil_inv
   obtain rfl:=h2.nil_inv
   simp [Op.eqFields,eqVs]
  | cons k lv=>cases k <;> cases h
 | cons f fs ih =>
  intro lv j vr ur h hv hu h1 h2
  cases lv with
  | nil=>cases h
  | cons k lv =>
   cases k with
   | none=>cases h
   | some k =>
    obtain ⟨a,vr',rfl,ha,h1'⟩:=h1.cons_inv
    obtain ⟨b,ur',rfl,hb,h2'⟩:=h2.cons_inv
    simp only [flatB,Bool.and_eq_true,decide_eq_true_eq,Bool.not_eq_true'] at h
    obtain ⟨⟨⟨g1,g2⟩,g3⟩,g4⟩:=h
    split at g3
    · rename_i d hd
      simp only [Bool.and_eq_true,Bool.not_eq_true'] at g3
      have hv0:vs[j]?=some a:=by
       have:=congrArg (fun l=>l[0]?) hv
       simpa using this
      have hu0:us[j]?=some b:=by
       have:=congrArg (fun l=>l[0]?) hu
       simpa using this
      have hv' : vs.drop (j+1)=vr':=by
       have:=congrArg List.tail hv
       simpa [List.tail_drop] using this
      have hu' : us.drop (j+1)=ur':=by
       have:=congrArg List.tail hu
       simpa [List.tail_drop] using this
      have e1:=part_one (w:=w) hd g3.2 hv0
      have e2:=part_one (w:=w) hd g3.2 hu0
      have e3:=equalIn_one (w:=w) (n:=n) hd g3.1 ha hb
      have e4:=ih lv (j+1) vr' ur' g4 hv' hu' h1' h2'
      have hn : f.name ≠ "_" := by simpa using g2
      rw [Op.eqFields]
      simp only [if_pos hn,g1,Sem.run_bind,e1,e2,e3,Result.andThen_ok]
      cases hq:eqV a b with
      | false=>simp [eqVs,hq]
      | true=>simpa [eqVs,hq] using e4
    · cases g3
theorem eqItems_flat {n:Nat} {e:TypeId} {d:TypeDesc} (hu:P.underlying e=some d) (hr:d.isRow=false) {vs us:List Value}:∀ (m j:Nat) (lv:List (Option K)) (vr ur:List Value),(lv.all fun | some k=>descB d k | none=>false)=true→lv.length=m→vs.drop j=vr→us.drop j=ur→All2 VK lv vr→All2 VK lv ur →
 (Op.eqItems (n+1) e 1 vs.toArray us.toArray (List.range' j m)).run P w=.ok (eqVs vr ur) w:=by
 intro m
 induction m with
 | zero =>
  intro j lv vr ur h hl hv hu h1 h2
  obtain rfl:=List.length_eq_zero_iff.1 hl
  obtain rfl:=h1.nil_inv
  obtain rfl:=h2.nil_inv
  simp [Op.eqItems,eqVs]
 | succ m ih =>
  intro j lv vr ur h hl hv hu' h1 h2
  cases lv with
  | nil=>simp at hl
  | cons k lv =>
   simp only [List.all_cons,Bool.and_eq_true] at h
   cases k with
   | none=>cases h.1
   | some k =>
    obtain ⟨a,vr',rfl,ha,h1'⟩:=h1.cons_inv
    obtain ⟨b,ur',rfl,hb,h2'⟩:=h2.cons_inv
    have hv0:vs[j]?=some a:=by
     have:=congrArg (fun l=>l[0]?) hv
     simpa using this
    have hu0:us[j]?=some b:=by
     have:=congrArg (fun l=>l[0]?) hu'
     simpa using this
    have hv' : vs.drop (j+1)=vr':=by
     have:=congrArg List.tail hv
     simpa [List.tail_drop] using this
    have hu2:us.drop (j+1)=ur':=by
     have:=congrArg List.tail hu'
     simpa [List.tail_drop] using this
    have e1:=part_one (w:=w) hu hr hv0
    have e2:=part_one (w:=w) hu hr hu0
    have e3:=equalIn_one (w:=w) (n:=n) hu h.1 ha hb
    have e4:=ih (j+1) lv vr' ur' h.2 (by simpa using hl) hv' hu2 h1' h2'
    rw [List.range'_succ,Op.eqItems]
    simp only [Nat.mul_one,Sem.run_bind,e1,e2,e3,Result.andThen_ok]
    cases hq:eqV a b with
    | false=>simp [eqVs,hq]
    | true=>simpa [eqVs,hq] using e4
theorem eqB_ok {ti:TypeId→TI} {t:TypeId} (h:eqB P ti t=true):EqTy P ti t:=by
 unfold eqB at h
 split at h
 · rename_i fs _ lv _ hu ht
   simp only [Bool.and_eq_true,Bool.not_eq_true'] at h
   obtain ⟨⟨h1,h2⟩,h3⟩:=h
   intro st lv' fs' ht' w vs us hvs hus
   rw [ht] at ht'
   cases ht'
   have hf:P.fieldsOf t=fs:=by simp [Program.fieldsOf,hu]
   refine ⟨?_,fun op x y=>?_⟩
   · show (Op.equalIn (9998+1+1) t (.agg vs.toArray) (.agg us.toArray)).run P w=_
     rw [run_equalIn_struct w _ t _ _ (by rw [hf]; exact hu) h1,hf]
     exact eqFields_flat fs.toList lv 0 vs us h3 rfl rfl hvs hus
   · cases op <;> simp [eqGuard,h2]
 · rename_i n e _ lv _ hu ht
   simp only [Bool.and_eq_true,Bool.not_eq_true',decide_eq_true_eq] at h
   obtain ⟨⟨⟨⟨h1,h2⟩,h3⟩,h4⟩,h5⟩:=h
   obtain ⟨i,hi⟩:=Option.isSome_iff_exists.1 h4
   intro st lv' fs' ht' w vs us hvs hus
   rw [ht] at ht'
   cases ht'
   split at h5
   · rename_i d hd
     simp only [Bool.and_eq_true,Bool.not_eq_true'] at h5
     refine ⟨?_,fun op x y=>?_⟩
     · show (Op.equalIn (9998+1+1) t (.agg vs.toArray) (.agg us.toArray)).run P w=_
       rw [run_equalIn_array w _ _ _ hu hi,h1,List.range_eq_range']
       exact eqItems_flat hd h5.1 n 0 lv vs us h5.2 h3 rfl rfl hvs hus
     · cases op <;> simp [eqGuard,h2]
   · cases h5
 · cases h
end
end Go.SX
