/-
Regions whose order is drawn: the proof.
-/
import Derived.Test.YtjhggmcdjbcolaaGreatSzFold
set_option linter.unusedVariables false
set_option linter.unusedSimpArgs false
set_option linter.unusedSectionVars false
namespace Go.SX
open Go.RowKit
def foldAll:List Itm→St→St
 | [],σ=>σ
 | it::r,σ=>foldAll r (ap it σ)
theorem foldAll_app (l m:List Itm) (σ:St):foldAll (l++m) σ=foldAll m (foldAll l σ):=by
 induction l generalizing σ with
 | nil=>rfl
 | cons x l ih=>exact ih _
theorem fold_lt:∀ (pre rest:List Itm) (k:Nat) (σ:St),fold (fun j=>decide (j < k+pre.length)) k (pre++rest) σ=foldAll pre σ
 | [],rest,k,σ=>by
  simp only [List.nil_append,foldAll,List.length_nil,Nat.add_zero]
  exact fold_none rest k fun j hj=>by simp; omega
 | it::pre,rest,k,σ=>by
  simp only [List.cons_append,fold,foldAll,List.length_cons]
  rw [if_pos (by simp)]
  have:=fold_lt pre rest (k+1) (ap it σ)
  rw [show k+1+pre.length=k+(pre.length+1) by omega] at this
  exact this
theorem stepD_len {σ:St} {o:Oper} {δ:Delta} (h:σ.nb=σ.objs.length):(stepD σ o δ).objs.length=σ.objs.length+resv o δ:=by
 have h1:(σ.objsOf δ).length=σ.objs.length+δ.new.length:=by
  unfold St.objsOf
  rw [place_length _ _ _ (by rw [upds_length,freeze_length]; omega),upds_length,freeze_length,h]
  omega
 have h2:δ.new.length≤resv o δ:=Nat.le_max_left _ _
 simp only [stepD,List.length_append,List.length_replicate,h1]
 omega
theorem Tr.len {R:RL} {env:Env} {ops:Array Oper} {σ σ' : St} {ν ν' : List D} {os:List Oper} {its:List Itm} (h:Tr R env ops σ ν os its σ' ν'):σ.text→σ.objs.length≤σ'.objs.length:=by
 induction h with
 | nil=>intro _; exact Nat.le_refl _
 | skip _ _ _ ih=>intro ht; exact ih ht
 | @exec σ σ' ν ν' rs o os its kn δ _ _ _ _ _ _ _ _ ih =>
  intro ht
  have h1:=ih ⟨rfl,rfl⟩
  rw [stepD_len (σ:={ σ with known:=kn }) ht.1] at h1
  simp only at h1
  omega
theorem Tr.ops {R:RL} {env:Env} {ops:Array Oper} {σ σ' : St} {ν ν' : List D} {os:List Oper} {its:List Itm} (h:Tr R env ops σ ν os its σ' ν'):its.map (·.o)=os:=by
 induction h with
 | nil=>rfl
 | skip _ _ _ ih=>simp [ih]
 | exec _ _ _ _ _ _ _ _ ih=>simp [ih]
structure At (R:RL) (env:Env) (ops:Array Oper) (hat:St) (pre:List Itm) (νf:List D) (it:Itm) (σi:St) (νi:List D):Prop where
 text:σi.text
 nv:νi.length=σi.nv
 nb:it.nb=σi.objs.length
 vb:it.vb=σi.nv
 slots:∀ t:Nat,σi.slots[t]?=(foldAll pre hat).slots[t]?
 objs:∀ p:Nat,p < σi.objs.length→σi.objs[p]?=(foldAll pre hat).objs[p]?
 dead:∀ p:Nat,σi.objs.length≤p→p < hat.objs.length→(foldAll pre hat).objs[p]?=some .dead
 kn:KnOK it.kn νi
 go:(it.δ=none∧it.rd=[]∧GOK ops it.o σi νi false∧∃ μ,νf=νi++μ) ∨
  (∃ δ rs,it.δ=some δ∧GOK ops it.o σi νi true∧it.kn.all (fun p=>p.1.low σi.nv)=true∧Leads R (ostep env it.o { σi with known:=it.kn } .leaf) νi δ rs∧(lowT σi.nv (ostep env it.o { σi with known:=it.kn } .leaf)=true∧(isCallV it.o=true ∨ noCall (ostep env it.o { σi with known:=it.kn } .leaf)=true)) ∧
    it.fine σi.objs=true∧it.rd=reads it.o { σi with known:=it.kn }∧it.nb+resv it.o δ≤hat.objs.length∧∃ μ,νf=νi++rs++μ)
theorem Tr.pref {R:RL} {env:Env} {ops:Array Oper} {σ σ' : St} {ν ν' : List D} {os:List Oper} {its:List Itm} (h:Tr R env ops σ ν os its σ' ν'):∃ μ,ν'=ν++μ:=by
 induction h with
 | nil=>exact ⟨[],by simp⟩
 | skip _ _ _ ih=>exact ih
 | @exec σ σ' ν ν' rs o os its kn δ _ _ _ _ _ _ _ _ ih =>
  obtain ⟨μ,hμ⟩:=ih
  exact ⟨rs++μ,by rw [hμ,List.append_assoc]⟩
theorem tr_at {R:RL} {env:Env} {ops:Array Oper} {hat:St} {σ σ' : St} {ν ν' : List D} {os:List Oper} {its:List Itm} (h:Tr R env ops σ ν os its σ' ν'):∀ (pre:List Itm),σ.text→ν.length=σ.nv→hat.objs.length=σ'.objs.length →
 (foldAll pre hat).objs.length=hat.objs.length→(∀ t:Nat,σ.slots[t]?=(foldAll pre hat).slots[t]?)→(∀ p:Nat,p < σ.objs.length→σ.objs[p]?=(foldAll pre hat).objs[p]?) →
 (∀ p:Nat,σ.objs.length≤p→p < hat.objs.length→(foldAll pre hat).objs[p]?=some .dead) →
 (∀ (j:Nat) it,its[j]?=some it→∃ σi νi,At R env ops hat (pre++its.take j) ν' it σi νi)∧(∀ t:Nat,σ'.slots[t]?=(foldAll (pre++its) hat).slots[t]?)∧(∀ p:Nat,p < σ'.objs.length→σ'.objs[p]?=(foldAll (pre++its) hat).objs[p]?):=by
 induction h with
 | nil =>
  intro pre ht hn hl hfl hs ho hd
  exact ⟨fun j it hj=>by simp at hj,by simpa using hs,by simpa using ho⟩
 | @skip σ σ' ν ν' o os its kn hg hkn htr ih =>
  intro pre ht hn hl hfl hs ho hd
  have hfa:=foldAll_app pre [({ o,nb:=σ.nb,vb:=σ.vb,kn:=kn,δ:=none,rd:=[] }:Itm)] hat
  generalize hit:({ o,nb:=σ.nb,vb:=σ.vb,kn:=kn,δ:=none,rd:=[] }:Itm)=it0 at hfa
  have hap:ap it0 (foldAll pre hat)={ foldAll pre hat with slots:=setS (foldAll pre hat).slots o.dst .un }:=by rw [←hit]; rfl
  have hsk:(skipSt { σ with known:=kn } o.dst).slots=setS σ.slots o.dst .un:=by cases o.dst <;> rfl
  simp only [foldAll] at hfa
  obtain ⟨i1,i2,i3⟩:=ih (pre++[it0]) ht hn hl (by rw [hfa,hap]; exact hfl) (fun t=>by rw [hsk,hfa,hap]; exact setS_agree (hs t)) (fun p hp=>by rw [hfa,hap]; exact ho p hp) (fun p h1 h2=>by rw [hfa,hap]; exact hd p h1 h2)
  refine ⟨fun j it hj=>?_,by simpa using i2,by simpa using i3⟩
  cases j with
  | zero =>
   simp at hj
   subst hj
   refine ⟨σ,ν,?_⟩
   rw [←hit]
   exact { text:=ht,nv:=hn,nb:=ht.1,vb:=ht.2,slots:=by simpa using hs,objs:=by simpa using ho,dead:=by simpa using hd,kn:=hkn,go:=.inl ⟨rfl,rfl,hg,htr.pref⟩ }
  | succ j =>
   obtain ⟨σi,νi,hi⟩:=i1 j it (by simpa using hj)
   refine ⟨σi,νi,?_⟩
   simpa using hi
 | @exec σ σ' ν ν' rs o os its kn δ hg hkn hlow hld hrl hlt hfine htr ih =>
  intro pre ht hn hl hfl hs ho hd
  have hfa:=foldAll_app pre [({ o,nb:=σ.nb,vb:=σ.vb,kn:=kn,δ:=some δ,rd:=reads o { σ with known:=kn } }:Itm)] hat
  have hnl:=stepD_len (σ:={ σ with known:=kn }) (o:=o) (δ:=δ) ht.1
  have hle:=htr.len ⟨rfl,rfl⟩
  rw [hnl] at hle
  simp only at hle
  have hnew:δ.new.length≤resv o δ:=Nat.le_max_left _ _
  have hnb:σ.nb=σ.objs.length:=ht.1
  have hupd:∀ q,q∈δ.upd→q.1 < σ.nb:=by
   intro q hq
   simp only [Itm.fine,Bool.and_eq_true] at hfine
   exact of_decide_eq_true (List.all_eq_true.1 hfine.1.1.1 q hq)
  generalize hit:({ o,nb:=σ.nb,vb:=σ.vb,kn:=kn,δ:=some δ,rd:=reads o { σ with known:=kn } }:Itm)=it0 at hfa
  generalize hF:foldAll pre hat=F at *
  have hap:ap it0 F={ F with slots:=setS F.slots o.dst δ.dst,objs:=place (upds (freeze F.objs δ.fz) δ.upd) σ.nb δ.new }:=by rw [←hit]; rfl
  simp only [foldAll] at hfa
  have hFl:(upds (freeze F.objs δ.fz) δ.upd).length=hat.objs.length:=by rw [upds_length,freeze_length,hfl]
  have hSl:(upds (freeze σ.objs δ.fz) δ.upd).length=σ.objs.length:=by rw [upds_length,freeze_length]
  have hdeadF:∀ p:Nat,σ.objs.length≤p→p < hat.objs.length→(upds (freeze F.objs δ.fz) δ.upd)[p]?=some .dead:=by
   intro p h1 h2
   rw [upds_none _ _ _ fun q hq he=>by have:=hupd q hq; omega,freeze_get,hd p h1 h2]
   simp [SObj.frozen]
  have hob:σ.objsOf δ=place (upds (freeze σ.objs δ.fz) δ.upd) σ.nb δ.new:=rfl
  have hobl:(σ.objsOf δ).length=σ.objs.length+δ.new.length:=by
   rw [hob,place_length _ _ _ (by rw [hSl]; omega),hSl]
   omega
  have hso:(stepD { σ with known:=kn } o δ).objs=σ.objsOf δ++List.replicate (resv o δ - δ.new.length) .dead:=rfl
  have hss:(stepD { σ with known:=kn } o δ).slots=setS σ.slots o.dst δ.dst:=by cases hdst:o.dst <;> simp [stepD,setS,hdst]
  obtain ⟨i1,i2,i3⟩:=ih (pre++[it0]) ⟨rfl,rfl⟩ (by
   show (ν++rs).length=σ.nv+δ.dn
   rw [List.length_append,hn,hrl]) hl (by
   rw [hfa,hap]
   simp only
   rw [place_length _ _ _ (by omega),hFl]
   omega) (fun t=>by rw [hss,hfa,hap]; exact setS_agree (hs t)) (fun p hp=>by
   rw [hnl] at hp
   simp only at hp
   rw [hfa,hap,hso]
   simp only
   rw [place_get _ _ _ _ (by omega)]
   by_cases h1:p < σ.objs.length+δ.new.length
   · rw [List.getElem?_append_left (by omega),hob,place_get _ _ _ _ (by omega)]
     split
     · rfl
     · exact upds_agree _ (by rw [freeze_get,freeze_get,ho p (by omega)])
   · rw [if_neg (by omega),hdeadF p (by omega) (by omega),List.getElem?_append_right (by omega),List.getElem?_replicate,if_pos (by omega)]) (fun p h1 h2=>by
   rw [hnl] at h1
   simp only at h1
   rw [hfa,hap]
   simp only
   rw [place_get _ _ _ _ (by omega),if_neg (by omega)]
   exact hdeadF p (by omega) h2)
  refine ⟨fun j it hj=>?_,by simpa using i2,by simpa using i3⟩
  cases j with
  | zero =>
   simp at hj
   subst hj
   refine ⟨σ,ν,?_⟩
   rw [←hit]
   have hp:=htr.pref
   exact { text:=ht,nv:=hn,nb:=ht.1,vb:=ht.2,slots:=by simpa [hF] using hs,objs:=by simpa [hF] using ho,dead:=by simpa [hF] using hd,kn:=hkn,go:=.inr ⟨δ,rs,rfl,hg,hlow,hld,hlt,hfine,rfl,by simp only; omega,hp⟩ }
  | succ j =>
   obtain ⟨σi,νi,hi⟩:=i1 j it (by simpa using hj)
   refine ⟨σi,νi,?_⟩
   simpa using hi
end Go.SX
