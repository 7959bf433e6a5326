/-
Regions whose order is drawn: what the text's order tells, holds in any.
-/
import Derived.Test.YtjhggmcdjbcolaaGreatSzLoc
import Derived.Test.YtjhggmcdjbcolaaGreatSzCode
set_option linter.unusedVariables false
set_option linter.unusedSimpArgs false
set_option linter.unusedSectionVars false
namespace Go.SX
open Go.RowKit
inductive Leads (R:RL):T→List D→Delta→List D→Prop where
 | leaf {δ:Delta} {ν:List D}:Leads R (.leaf δ) ν δ []
 | ck {c:E} {t:T} {ν:List D} {δ:Delta} {rs:List D}:(c.den ν).toBool=true→Leads R t ν δ rs→Leads R (.ck c t) ν δ rs
 | call {g n:Nat} {as:List E} {δ:Delta} {ν rs:List D}:rs.length=n→R.R g (as.map (E.den ν)) rs→Leads R (.call g n as (.leaf δ)) ν δ rs
theorem Leads.tdn {R:RL} {t:T} {ν rs:List D} {δ:Delta} (h:Leads R t ν δ rs):rs.length=SX.tdn t:=by
 induction h with
 | leaf=>rfl
 | ck _ _ ih=>exact ih
 | call h _=>exact h
theorem graft_run {R:RL} {K:Delta→T}:∀ (t:T) {ν r:List D},(graft t K).Run R ν r→∃ δ rs,Leads R t ν δ rs∧(K δ).Run R (ν++rs) r
 | .leaf δ,ν,r,h=>⟨δ,[],.leaf,by simpa [graft] using h⟩
 | .ck c t,ν,r,h=>by
  obtain ⟨h1,h2⟩:=h
  obtain ⟨δ,rs,h3,h4⟩:=graft_run t h2
  exact ⟨δ,rs,.ck h1 h3,h4⟩
 | .call g n as t,ν,r,h=>by
  cases t with
  | leaf δ =>
   obtain ⟨rs,h1,h2,h3⟩:=h
   exact ⟨δ,rs,.call h1 h2,h3⟩
  | _=>exact h.elim
 | .fail _,ν,r,h=>h.elim
 | .miss ..,ν,r,h=>h.elim
 | .br ..,ν,r,h=>h.elim
 | .am ..,ν,r,h=>h.elim
 | .jump ..,ν,r,h=>h.elim
 | .loop ..,ν,r,h=>h.elim
 | .ret _,ν,r,h=>h.elim
def KnOK (kn:List (E × Bool)) (ν:List D):Prop:=∀ c b,(c,b)∈kn→(c.den ν).toBool=b
def GOK (ops:Array Oper) (o:Oper) (σ:St) (ν:List D) (b:Bool):Prop:=match o.guard with
 | none=>b=true
 | some (j,want)=>∃ t,(ops[j]?).bind (·.dst)=some t∧((∃ c,σ.slots[t]?=some (.v (.c (.e .bool c)))∧c.low σ.nv=true∧((c.den ν).toBool == want)=b) ∨ (σ.slots[t]?=some .un∧b=false))
inductive Tr (R:RL) (env:Env) (ops:Array Oper):St→List D→List Oper→List Itm→St→List D→Prop where
 | nil {σ:St} {ν:List D}:Tr R env ops σ ν [] [] σ ν
 | skip {σ σ' : St} {ν ν' : List D} {o:Oper} {os:List Oper} {its:List Itm} {kn:List (E × Bool)}:GOK ops o σ ν false→KnOK kn ν →
  Tr R env ops (skipSt { σ with known:=kn } o.dst) ν os its σ' ν'→Tr R env ops σ ν (o::os) ({ o,nb:=σ.nb,vb:=σ.vb,kn:=kn,δ:=none,rd:=[] }::its) σ' ν'
 | exec {σ σ' : St} {ν ν' rs:List D} {o:Oper} {os:List Oper} {its:List Itm} {kn:List (E × Bool)} {δ:Delta}:GOK ops o σ ν true→KnOK kn ν→kn.all (fun p=>p.1.low σ.nv)=true →
  Leads R (ostep env o { σ with known:=kn } .leaf) ν δ rs→rs.length=δ.dn→(lowT σ.nv (ostep env o { σ with known:=kn } .leaf)=true∧(isCallV o=true ∨ noCall (ostep env o { σ with known:=kn } .leaf)=true)) →
  ({ o,nb:=σ.nb,vb:=σ.vb,kn:=kn,δ:=some δ,rd:=reads o { σ with known:=kn } }:Itm).fine σ.objs=true →
  Tr R env ops (stepD { σ with known:=kn } o δ) (ν++rs) os its σ' ν'→Tr R env ops σ ν (o::os) ({ o,nb:=σ.nb,vb:=σ.vb,kn:=kn,δ:=some δ,rd:=reads o { σ with known:=kn } }::its) σ' ν'
theorem decide1_run {R:RL} {σ:St} {ν r:List D} (h:KnOK σ.known ν) {c:E} {yes no:St→T} (hr:(decide1 σ c yes no).Run R ν r) :
 ∃ kn,KnOK kn ν∧((c.den ν).toBool=true→(yes { σ with known:=kn }).Run R ν r)∧((c.den ν).toBool=false→(no { σ with known:=kn }).Run R ν r):=by
 have hkn:∀ {b:Bool},knownE σ c=some b→(c.den ν).toBool=b:=by
  intro b hk
  unfold knownE at hk
  split at hk
  · cases hk; rfl
  · obtain ⟨p,hp,rfl⟩:=Option.map_eq_some_iff.1 hk
    have h1:=List.find?_some hp
    have h2:=List.mem_of_find?_eq_some hp
    have:p.1=c:=by simpa using h1
    subst this
    exact h p.1 p.2 h2
 unfold decide1 at hr
 split at hr
 · rename_i hk
   exact ⟨σ.known,h,fun _=>hr,fun hf=>by rw [hkn hk] at hf; cases hf⟩
 · rename_i hk
   exact ⟨σ.known,h,fun ht=>(by rw [hkn hk] at ht; cases ht),fun _=>hr⟩
 · split at hr
   · rename_i x _
     have hden:((E.o1 .not x).den ν).toBool=!(x.den ν).toBool:=rfl
     simp only [T.Run] at hr
     cases hb:(x.den ν).toBool with
     | true =>
      rw [if_pos hb] at hr
      refine ⟨(x,true)::(.o1 .not x,false)::σ.known,fun c' b' hc=>?_,fun ht=>?_,fun _=>hr⟩
      · rcases List.mem_cons.1 hc with hc | hc
        · cases hc; exact hb
        · rcases List.mem_cons.1 hc with hc | hc
          · cases hc; rw [hden,hb]; rfl
          · exact h _ _ hc
      · rw [hden,hb] at ht; cases ht
     | false =>
      rw [if_neg (by rw [hb]; simp)] at hr
      refine ⟨(x,false)::(.o1 .not x,true)::σ.known,fun c' b' hc=>?_,fun _=>hr,fun ht=>?_⟩
      · rcases List.mem_cons.1 hc with hc | hc
        · cases hc; exact hb
        · rcases List.mem_cons.1 hc with hc | hc
          · cases hc; rw [hden,hb]; rfl
          · exact h _ _ hc
      · rw [hden,hb] at ht; cases ht
   · simp only [T.Run] at hr
     cases hb:(c.den ν).toBool with
     | true =>
      rw [if_pos hb] at hr
      refine ⟨(c,true)::σ.known,fun c' b' hc=>?_,fun _=>hr,fun ht=>by cases ht⟩
      rcases List.mem_cons.1 hc with hc | hc
      · cases hc; exact hb
      · exact h _ _ hc
     | false =>
      rw [if_neg (by rw [hb]; simp)] at hr
      refine ⟨(c,false)::σ.known,fun c' b' hc=>?_,fun ht=>(by cases ht),fun _=>hr⟩
      rcases List.mem_cons.1 hc with hc | hc
      · cases hc; exact hb
      · exact h _ _ hc
theorem withGuard_run {R:RL} {ops:Array Oper} {o:Oper} {σ:St} {ν r:List D} (h:KnOK σ.known ν) (hl:guardLow ops o σ=true) {go skip:St→T} (hr:(withGuard ops o σ go skip).Run R ν r) :
 ∃ kn,KnOK kn ν∧((GOK ops o σ ν true∧(go { σ with known:=kn }).Run R ν r) ∨ (GOK ops o σ ν false∧(skip { σ with known:=kn }).Run R ν r)):=by
 unfold withGuard at hr
 unfold guardLow at hl
 unfold GOK
 split at hr
 · rename_i hg
   exact ⟨σ.known,h,.inl ⟨by rw [hg],hr⟩⟩
 · rename_i j want hg
   rw [hg] at hl
   simp only at hl
   simp only [hg]
   split at hr
   · rename_i t ht
     rw [ht] at hl
     simp only at hl
     split at hr
     · rename_i c hs
       rw [hs] at hl
       simp only at hl
       obtain ⟨kn,h1,h2,h3⟩:=decide1_run h hr
       refine ⟨kn,h1,?_⟩
       cases hb:(c.den ν).toBool with
       | true=>cases want with
        | true=>exact .inl ⟨⟨t,ht,.inl ⟨c,hs,hl,by rw [hb]; rfl⟩⟩,h2 hb⟩
        | false=>exact .inr ⟨⟨t,ht,.inl ⟨c,hs,hl,by rw [hb]; rfl⟩⟩,h2 hb⟩
       | false=>cases want with
        | true=>exact .inr ⟨⟨t,ht,.inl ⟨c,hs,hl,by rw [hb]; rfl⟩⟩,h3 hb⟩
        | false=>exact .inl ⟨⟨t,ht,.inl ⟨c,hs,hl,by rw [hb]; rfl⟩⟩,h3 hb⟩
     · rename_i hs
       exact ⟨σ.known,h,.inr ⟨⟨t,ht,.inr ⟨hs,trivial⟩⟩,hr⟩⟩
     · exact hr.elim
   · exact hr.elim
theorem showFail_run {R:RL} {n:Nat}:∀ (t:T) {ν r:List D},¬ (showFail n t).Run R ν r
 | .fail _,_,_,h=>h
 | .miss ..,_,_,h=>h
 | .ck _ t,_,_,h=>showFail_run t h
 | .leaf _,_,_,h=>h
 | .call ..,_,_,h=>h
 | .br ..,_,_,h=>h
 | .am ..,_,_,h=>h
 | .jump ..,_,_,h=>h
 | .loop ..,_,_,h=>h
 | .ret _,_,_,h=>h
theorem KnOK.low {kn:List (E × Bool)} {ν:List D} {n:Nat} (h:KnOK kn ν) (hl:kn.all (fun p=>p.1.low n)=true) (hn:ν.length=n) (μ:List D):KnOK kn (ν++μ):=fun c b hc=>by
 rw [E.low_den (List.all_eq_true.1 hl (c,b) hc) hn]; exact h c b hc
theorem drOps_tr {R:RL} {env:Env} {ops:Array Oper} {K' : St→List Itm→T}:∀ (os:List Oper) {σ:St} {ν r:List D} {acc:List Itm},KnOK σ.known ν→ν.length=σ.nv→(drOps env ops os σ acc K').Run R ν r →
 ∃ its σ' ν',Tr R env ops σ ν os its σ' ν'∧(K' σ' (acc++its)).Run R ν' r
 | [],σ,ν,r,acc,hk,hn,hr=>⟨[],σ,ν,.nil,by simpa [drOps] using hr⟩
 | o::os,σ,ν,r,acc,hk,hn,hr=>by
  unfold drOps at hr
  split at hr
  · rename_i hgl
    obtain ⟨kn,hkn,hc⟩:=withGuard_run hk hgl hr
    rcases hc with ⟨hg,hr⟩ | ⟨hg,hr⟩
    · unfold drGo at hr
      split at hr
      · rename_i hlow
        simp only [Bool.and_eq_true,Bool.or_eq_true] at hlow
        obtain ⟨δ,rs,h1,h2⟩:=graft_run _ hr
        simp only at h2
        split at h2
        · rename_i hf
          simp only [Bool.and_eq_true,decide_eq_true_eq] at hf
          have hrl:rs.length=δ.dn:=by rw [hf.2]; exact h1.tdn
          obtain ⟨its,σ',ν',h3,h4⟩:=drOps_tr os (σ:=stepD { σ with known:=kn } o δ) (hkn.low hlow.2 hn rs) (by rw [List.length_append,hn,hrl]; rfl) h2
          exact ⟨_::its,σ',ν',.exec hg hkn hlow.2 h1 hrl hlow.1 hf.1 h3,by rw [List.append_assoc] at h4; exact h4⟩
        · exact h2.elim
      · exact (showFail_run _ hr).elim
    · obtain ⟨its,σ',ν',h3,h4⟩:=drOps_tr os (σ:=skipSt { σ with known:=kn } o.dst) hkn hn hr
      exact ⟨_::its,σ',ν',.skip hg hkn h3,by rw [List.append_assoc] at h4; exact h4⟩
  · exact hr.elim
end Go.SX
