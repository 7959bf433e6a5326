/-
One operation of any kind.
-/
import Derived.Test.YtjhggmcdjbcolaaGreatSzCall
import Derived.Orders
set_option linter.unusedVariables false
set_option linter.unusedSimpArgs false
set_option linter.unusedSectionVars false
namespace Go.SX
open Go.RowKit
section
variable {C:Cx} {σ:St} {ν:List D} {S:Nat→Prop} {ω:Nat→Option Value} {w:World} {r:List D} {a:Act} {o:Oper} {Q:Exit→Act→World→Prop} {K' : Delta→T}
theorem argSlots_sound (h:Sim C σ ν S ω a.tmps w):∀ (l:List Operand) (ts:List TypeId),All2 (SlotR C.ti w S ω ν) (argSlots σ l ts) (l.map a.eval)
 | [],ts=>.nil
 | x::l,ts=>.cons (look_sound h _ x) (argSlots_sound h l _)
theorem argSlots_slots {σ σ' : St} (h:σ.slots=σ'.slots):∀ (l:List Operand) (ts:List TypeId),argSlots σ l ts=argSlots σ' l ts
 | [],ts=>rfl
 | x::l,ts=>by
  simp only [argSlots,argSlots_slots h l]
  congr 1
  cases x <;> simp [look,h]
theorem capSlots_sound {cs:List Cap} {cv:List Value} (h:All2 (CapR C.ti w S ω ν) cs cv):All2 (SlotR C.ti w S ω ν) (capSlots cs) cv:=by
 refine All2.mapL (h.imp fun c v hc=>?_)
 cases c with
 | p o=>exact hc
 | r ks=>exact hc
theorem goes_wp {c:Call} {f:Operand} {g:FuncId} {cv:List Value} (ho:o.op=.call c) (hc:c.callee=.value f) (hf:a.eval f=.func (.func g) #[] cv.toArray) {R:Value→World→Prop} {Nx:Act→World→Prop}
 (h:Goes C.P g (c.args.toList.map a.eval++cv).toArray w R) (hR:∀ v w',R v w'→Nx (a.put o.dst v) w'):o.wp C.P a w Nx Q:=by
 obtain ⟨nx,w1,hrun,hk⟩:=h
 have he:(c.args.toList.map a.eval++cv).toArray=c.args.map a.eval++cv.toArray:=by
  apply Array.toList_inj.1
  simp
 rw [he] at hrun
 have hx:(execOp a.eval o).run C.P w=.ok nx w1:=by
  unfold execOp
  simp [ho,resolve,hc,hf,Deferred.ofValue,invoke,hrun]
 unfold Oper.wp
 rw [hx]
 cases nx with
 | value v=>exact hR v w1 hk
 | enter f' args' =>
  rw [Oper.upon_enter]
  refine hk.mono fun e w' he=>?_
  cases e with
  | returned v=>exact hR v w' he
  | panicked _=>exact he.elim
  | outgrown=>exact he.elim
 | _=>exact hk.elim
theorem findSig_spec {env:Env} {g:FuncId} {as:List Slot} {objs:List SObj}:∀ {l:List Sig} {i i' : Nat} {s:Sig} {th:List E} {rho:List (Option Nat)} {lent:List Nat},findSig env g as objs l i=some (i',s,th,rho,lent) →
 i≤i'∧l[i' - i]?=some s∧s.f=g∧mtch 0 env.ti s.inS s.inO s.nIn as objs=some (th,rho,lent)
 | [],i,i',s,th,rho,lent,h=>by simp [findSig] at h
 | x::l,i,i',s,th,rho,lent,h=>by
  have next:findSig env g as objs l (i+1)=some (i',s,th,rho,lent)→i≤i'∧(x::l)[i' - i]?=some s∧s.f=g∧mtch 0 env.ti s.inS s.inO s.nIn as objs=some (th,rho,lent):=by
   intro h
   obtain ⟨h1,h2,h3,h4⟩:=findSig_spec h
   refine ⟨by omega,?_,h3,h4⟩
   rw [show i' - i=(i' - (i+1))+1 by omega]
   simpa using h2
  simp only [findSig] at h
  split at h
  · rename_i hf
    split at h
    · rename_i th' rho' lent' hm
      simp only [Option.some.injEq,Prod.mk.injEq] at h
      obtain ⟨rfl,rfl,rfl,rfl,rfl⟩:=h
      exact ⟨Nat.le_refl _,by simp,hf,hm⟩
    · exact next h
  · exact next h
theorem call_core (h:Sim C σ ν S ω a.tmps w) {c:Call} {f:Operand} {cs:List Cap} {s:Sig} {th:List E} {rho:List (Option Nat)} {lent:List Nat} {R:List D→List D→Prop} (hS:SigOK C.P C.ti s R)
 (ho:o.op=.call c) (hc:c.callee=.value f) (hf:look1 σ 0 f=some (.fn s.f cs)) (hm:mtch 0 C.ti s.inS s.inO s.nIn (argSlots σ c.args.toList c.argTypes.toList++capSlots cs) σ.objs=some (th,rho,lent))
 (hnb:NbOK σ ω (s.outO.length - s.inO.length)) (hall:∀ o,o < s.inO.length→∃ a,rho[o]?=some (some a)∧a < σ.objs.length∧(a < σ.nb ∨ σ.nb+(s.outO.length - s.inO.length)≤a)) (hlen:s.inO.length≤s.outO.length) (hlv:s.inO.all SObj.live=true) (hol:s.outLow=true)
 {rs μ:List D} (hrs:rs.length=s.nOut) (hR:R (th.map (E.den ν)) rs) (hν:∀ j,ν.getD (σ.vb+j) default=(rs++μ).getD j default) :
 o.wp C.P a w (fun a' w'=>a'.defers=a.defers∧∃ S' ω',Sim C { σ with slots:=setS σ.slots o.dst (callDelta C.ti s rho lent σ).dst,objs:=σ.objsOf (callDelta C.ti s rho lent σ) } ν S' ω' a'.tmps w'∧NewAt σ ω ω' (s.outO.length - s.inO.length)) Q:=by
 obtain ⟨cv,hfv,hcv⟩:=look1_sound h hf
 obtain ⟨ω1,m1,m2,m3,m4,m5,m6,m7,m8,m9,m10,m11',m12',_⟩:=mtch_sound h.objs hm
 have hvs:=m8 _ ((argSlots_sound h c.args.toList c.argTypes.toList).app (capSlots_sound hcv))
 have hrho:∀ (o a:Nat),rho[o]?=some (some a)→o < s.inO.length:=fun o a ho=>by rw [←m5]; exact (List.getElem?_eq_some_iff.1 ho).1
 have hliveIn:∀ (o:Nat),o < s.inO.length→∃ x,s.inO[o]?=some x∧x.live=true:=fun o ho =>
  ⟨s.inO[o],List.getElem?_eq_getElem ho,List.all_eq_true.1 hlv _ (List.getElem_mem ho)⟩
 have m11:∀ (i j a:Nat),rho[i]?=some (some a)→rho[j]?=some (some a)→i=j:=fun i j a hi hj=>by
  obtain ⟨x,hx,hl⟩:=hliveIn i (hrho i a hi)
  obtain ⟨y,hy,hly⟩:=hliveIn j (hrho j a hj)
  exact m11' i j a x y hx hl hy hly hi hj
 have m12:∀ (i a:Nat),rho[i]?=some (some a)→a ∉ lent:=fun i a hi=>by
  obtain ⟨x,hx,hl⟩:=hliveIn i (hrho i a hi)
  exact m12' i a x hx hl hi
 have hlive:∀ (o a:Nat),rho[o]?=some (some a)→∃ ob,σ.objs[a]?=some ob∧ob.live=true:=fun o a ho=>by
  obtain ⟨x,hx,hl⟩:=hliveIn o (hrho o a ho)
  exact m10 o x hx hl a ho
 have hlive1:∀ o,o < s.inO.length→∃ v,ω1 o=some v:=fun o hi=>by
  obtain ⟨x,hx,hl⟩:=hliveIn o hi
  have:=m9 o x hx
  cases x with
  | box cs=>obtain ⟨b,_,_,h1,_⟩:=this; exact ⟨_,h1⟩
  | row t x=>obtain ⟨v,_,_,_,_,_,h1,_⟩:=this; exact ⟨_,h1⟩
  | fro t x=>cases hl
  | dead=>cases hl
  | deep t x=>obtain ⟨u,_,_,_,h1,_⟩:=this; exact ⟨_,h1⟩
  | fbox ks=>cases hl
 have hE:Entry C.ti s (th.map (E.den ν)) (c.args.toList.map a.eval++cv) w (SL S ω lent) (F1 s rho ω) ω1:={
  len:=by rw [List.length_map,m6]
  vals:=hvs
  dom:=fun o v hv=>by
   rcases Nat.lt_or_ge o s.inO.length with hlt | hge
   · exact hlt
   · rw [m3 o (List.getElem?_eq_none (by rw [m5]; exact hge))] at hv; cases hv
  objs:=m9
  sep:=fun o o' x x' b h1 h2 h3 h4 h5 h6=>by
   obtain ⟨p,hp,_⟩:=hall o (List.getElem?_eq_some_iff.1 h1).1
   obtain ⟨q,hq,_⟩:=hall o' (List.getElem?_eq_some_iff.1 h2).1
   rw [m1 o p hp] at h5
   rw [m1 o' q hq] at h6
   obtain ⟨y,y1,y2⟩:=hlive o p hp
   obtain ⟨z,z1,z2⟩:=hlive o' q hq
   have:=h.sep p q y z b y1 z1 y2 z2 h5 h6
   subst this
   exact m11 o o' p hp hq
  own:=fun o x b h1 h2 h3=>by
   obtain ⟨p,hp,_⟩:=hall o (List.getElem?_eq_some_iff.1 h1).1
   rw [m1 o p hp] at h3
   obtain ⟨y,y1,y2⟩:=hlive o p hp
   obtain ⟨q1,q2,q3⟩:=h.own p y b y1 y2 h3
   refine ⟨?_,q2,o,p,(List.getElem?_eq_some_iff.1 h1).1,hp,h3⟩
   rintro (hb | ⟨o',ho',hb⟩)
   · exact q1 hb
   · obtain ⟨z,z1,z2⟩:=m7 o' ho'
     have:=h.sep p o' y z b y1 z1 y2 z2 h3 hb
     subst this
     exact m12 o p hp ho'
  stab:=(h.freeze lent m7).stab }
 have hg:=hS _ rs _ w _ _ ω1 hR hE
 refine goes_wp ho hc hfv hg ?_
 rintro v w' ⟨S',ω',hO⟩
 unfold Sig.outLow at hol
 simp only [Bool.and_eq_true] at hol
 have hvals':=hO.vals.low hol.1 hrs μ
 have hobjs' : ∀ o ob,s.outO[o]?=some ob→ObjR C.ti w' S' ω' (rs++μ) o ob:=fun o ob ho=>(hO.objs o ob ho).low (List.all_eq_true.1 hol.2 ob (List.mem_of_getElem? ho)) hrs μ
 refine ⟨by cases o.dst <;> rfl,?_⟩
 rw [put_tmps]
 by_cases hfl:s.isFlat C.ti=true
 · -- nothing that comes back hangs on what was lent
   have hfl':=hfl
   unfold Sig.isFlat at hfl'
   simp only [Bool.and_eq_true] at hfl'
   obtain ⟨⟨_,f1⟩,f2⟩:=hfl'
   obtain ⟨g1,g2,g3⟩:=call_sim h hnb hlen hall m5 m1 hlive1 hlive m11 hν hO.frame (fun _ h=>h) (fun b hb=>.inl hb) (fun b hb=>Nat.lt_of_lt_of_le (h.stab b hb) hO.frame.size) hO.omono hO.dom
    (fun o ob ho=>(hobjs' o ob ho).flat (List.all_eq_true.1 f2 ob (List.mem_of_getElem? ho))) hO.sep (fun o ob b h1 h2 h3=>by
     obtain ⟨q1,q2,q3⟩:=hO.own o ob b h1 h2 h3
     exact ⟨fun hb=>q1 (hO.smono b (.inl hb)),q2,q3⟩)
   refine ⟨S,_,?_,g3⟩
   have hob:σ.objsOf (callDelta C.ti s rho lent σ)=place (upds σ.objs ((s.outO.take s.inO.length).zipIdx.map fun (x,o)=>(backO s rho σ.nb o,x.back σ.vb (backO s rho σ.nb)))) σ.nb ((s.outO.drop s.inO.length).map (SObj.back σ.vb (backO s rho σ.nb))):=by
    simp only [St.objsOf,callDelta,hfl,if_true,freeze_nil]
   rw [hob]
   exact g1.slot o.dst (ResR.back hν g2 (hvals'.flat f1))
 · have hf:=h.freeze lent m7
   have hfll:(freeze σ.objs lent).length=σ.objs.length:=freeze_length _ _
   have hlivef:∀ (o a:Nat),rho[o]?=some (some a)→∃ ob,(freeze σ.objs lent)[a]?=some ob∧ob.live=true:=fun o a ho=>by
    obtain ⟨ob,h1,h2⟩:=hlive o a ho
    refine ⟨ob,?_,h2⟩
    rw [freeze_get,h1]
    have:=m12 o a ho
    simp [this]
   have hnbf:NbOK { σ with objs:=freeze σ.objs lent } ω (s.outO.length - s.inO.length):=by
    refine ⟨by simp only [hfll]; exact hnb.1,fun i hi=>⟨(hnb.2 i hi).1,fun x hx=>?_⟩⟩
    simp only [freeze_get] at hx
    obtain ⟨y,hy,rfl⟩:=Option.map_eq_some_iff.1 hx
    rw [(hnb.2 i hi).2 y hy]
    simp [SObj.frozen]
   obtain ⟨g1,g2,g3⟩:=call_sim hf hnbf hlen (fun o hi=>by simp only [hfll]; exact hall o hi) m5 m1 hlive1 hlivef m11 hν hO.frame hO.smono hO.sbd hO.stab hO.omono hO.dom hobjs' hO.sep hO.own
   refine ⟨S',_,?_,g3⟩
   have hob:σ.objsOf (callDelta C.ti s rho lent σ)=place (upds (freeze σ.objs lent) ((s.outO.take s.inO.length).zipIdx.map fun (x,o)=>(backO s rho σ.nb o,x.back σ.vb (backO s rho σ.nb)))) σ.nb ((s.outO.drop s.inO.length).map (SObj.back σ.vb (backO s rho σ.nb))):=by
    simp only [St.objsOf,callDelta,if_neg hfl]
   rw [hob]
   exact g1.slot o.dst (ResR.back hν g2 hvals')
/-! ### The steps together -/
theorem ostep_nocall {env:Env} (hti:env.ti=C.ti) (hT:TyOK C.P C.ti) (hE:∀ t,t∈env.eqt→EqTy C.P C.ti t) (h:Sim C σ ν S ω a.tmps w) (hnb:makes o=true→NbOK σ ω 1) (hn:isCallV o=false) (hr:(ostep env o σ K').Run C.R ν r) :
 o.wp C.P a w (Post C σ ω o.dst K' r a.defers) Q:=by
 unfold ostep at hr
 rw [hti] at hr
 split at hr
 · rename_i x ho
   exact post_pure h (by unfold execOp; simp [ho]) hr (look_sound h _ x)
 · rename_i x ho
   exact post_pure h (by unfold execOp; simp [ho]) hr (look_sound h _ x)
 · rename_i c x y ho
   split at hr
   · rename_i s hs
     exact stepPick_sound h ho (look1_sound h hs) (look_sound h _ x) (look_sound h _ y) hr
   · exact hr.elim
 · rename_i t ho
   exact stepAlloc_sound hT h (hnb (by simp [makes,ho])) ho hr
 · rename_i t x ho
   split at hr
   · rename_i v hv
     exact stepBox_sound h (hnb (by simp [makes,ho])) ho (lookSV_sound h hv) hr
   · exact hr.elim
 · rename_i t parts ho
   exact stepBuild_sound hT h ho hr
 · rename_i t n parts ho
   split at hr
   · split at hr
     · rename_i x hp
       split at hr
       · rename_i hn1
         subst hn1
         split at hr
         · rename_i v hv
           exact stepBuildDeep_sound hT h (hnb (by simp [makes,ho])) ho hp (lookSV_sound h hv) hr
         · exact hr.elim
       · exact hr.elim
     · exact hr.elim
   · exact stepBuildSlice_sound hT h (hnb (by simp [makes,ho])) ho hr
 · rename_i t x ho
   split at hr
   · rename_i s hs
     exact stepLoad_sound hT h ho (look1_sound h hs) hr
   · exact hr.elim
 · rename_i t x y ho
   split at hr
   · rename_i s v hs hv
     exact stepStore_sound hT h ho (look1_sound h hs) (lookSV_sound h hv) hr
   · exact hr.elim
 · rename_i x ho
   split at hr
   · rename_i s hs
     exact stepNilCheck_sound h ho (look1_sound h hs) hr
   · exact hr.elim
 · rename_i op t x y t2 ho
   exact stepBin_sound hT h ho hE hr
 · rename_i t x ho
   split at hr
   · rename_i s hs
     exact stepNot_sound h ho (look1_sound h hs) hr
   · exact hr.elim
 · rename_i src dst x ho
   split at hr
   · rename_i s hs
     exact stepConvert_sound hT h ho (look1_sound h hs) hr
   · exact hr.elim
 · rename_i g first caps ho
   split at hr
   · rename_i hf
     exact stepMakeFunc_sound h ho hf hr
   · exact hr.elim
 · rename_i t x lo hi ho
   split at hr
   · rename_i s el eh hs hl hh
     exact stepSlice_sound hT h ho hl hh (hnb (by simp [makes,ho])) (look1_sound h hs) hr
   · exact hr.elim
 · rename_i t x j ho
   split at hr
   · rename_i s hs
     exact stepFieldAddr_sound hT h ho (look1_sound h hs) hr
   · exact hr.elim
 · rename_i t x j ho
   split at hr
   · rename_i s hs
     exact stepField_sound hT h ho (lookSV_sound h hs) hr
   · exact hr.elim
 · rename_i t x ix ho
   split at hr
   · rename_i s k i hs hi
     exact stepIndexAddr_sound hT h ho (look1_sound h hs) (lookE_sound h hi) hr
   · exact hr.elim
 · rename_i t x ix ho
   split at hr
   · rename_i s k i hs hi
     exact stepIndex_sound hT h ho (lookSV_sound h hs) (lookE_sound h hi) hr
   · exact hr.elim
 · rename_i x j ho
   exact stepExtract_sound h ho (look_sound h 0 x) hr
 · rename_i c ho
   split at hr
   · rename_i hc
     split at hr
     · rename_i x t ha ht
       split at hr
       · rename_i s hs
         exact stepLen_sound hT h ho hc ha ht (look1_sound h hs) hr
       · exact hr.elim
     · exact hr.elim
   · rename_i hc
     split at hr
     · rename_i x t ha ht
       split at hr
       · rename_i s hs
         exact stepCap_sound hT h ho hc ha ht (look1_sound h hs) hr
       · exact hr.elim
     · exact hr.elim
   · rename_i hc
     split at hr
     · rename_i s x t t2 ha ht
       split at hr
       · rename_i sv xv hs hx
         exact stepAppend_sound hT h (hnb (by simp [makes,ho,hc])) ho hc ha ht (look1_sound h hs) (look1_sound h hx) hr
       · exact hr.elim
     · exact hr.elim
   · rename_i hc
     split at hr
     · rename_i x t ha ht
       split at hr
       · rename_i s hs
         exact stepClear_sound hT h ho hc ha ht (look1_sound h hs) hr
       · exact hr.elim
     · exact hr.elim
   · rename_i hc
     exact stepMinMax_sound h ho hc (.inl ⟨rfl,rfl⟩) hr
   · rename_i hc
     exact stepMinMax_sound h ho hc (.inr ⟨rfl,rfl⟩) hr
   · rename_i f hc
     simp [isCallV,ho,hc] at hn
   · exact hr.elim
 · exact hr.elim
theorem stepCall_inv {env:Env} {g:FuncId} {as:List Slot} {R:RL} (hr:(stepCall env g as σ K').Run R ν r):∃ i s th rho lent rs,findSig env g as σ.objs env.sigs 0=some (i,s,th,rho,lent) ∧
 (∀ x,x∈rho→∃ a,x=some a∧a < σ.objs.length∧(a < σ.nb ∨ σ.nb+(s.outO.length - s.inO.length)≤a))∧(σ.low=true∧th.all (E.low σ.nv)=true)∧s.inO.length≤s.outO.length∧(s.inO.all SObj.live=true∧s.outLow=true)∧rs.length=s.nOut∧R.R (i * 100) (th.map (E.den ν)) rs∧(K' (callDelta env.ti s rho lent σ)).Run R (ν++rs) r:=by
 unfold stepCall at hr
 split at hr
 · rename_i i s th rho lent hf
   split at hr
   · rename_i hc
     obtain ⟨c1,c2,c3,c4⟩:=hc
     obtain ⟨rs,h1,h2,h3⟩:=hr
     refine ⟨i,s,th,rho,lent,rs,hf,fun x hx=>?_,c2,c3,c4,h1,h2,h3⟩
     have:=List.all_eq_true.1 c1 x hx
     split at this
     · rename_i a
       exact ⟨a,rfl,of_decide_eq_true this⟩
     · cases this
   · exact hr.elim
 · exact hr.elim
def SigsOK (P:Program) (ti:TypeId→TI) (sigs:List Sig) (R:Nat→List D→List D→Prop):Prop:=∀ i s,sigs[i]?=some s→SigOK P ti s (R (i * 100))
theorem ostep_sound {env:Env} (hti:env.ti=C.ti) (hT:TyOK C.P C.ti) (hE:∀ t,t∈env.eqt→EqTy C.P C.ti t) (hS:SigsOK C.P C.ti env.sigs C.R.R) (h:Sim C σ ν S ω a.tmps w) (hnb:σ.nb=σ.objs.length) (hvb:σ.vb=σ.nv)
 (hr:(ostep env o σ K').Run C.R ν r):o.wp C.P a w (Post C σ ω o.dst K' r a.defers) Q:=by
 cases hn:isCallV o with
 | false=>exact ostep_nocall hti hT hE h (fun _=>NbOK.text h hnb 1) hn hr
 | true =>
  unfold isCallV at hn
  split at hn
  · rename_i c ho
    split at hn
    · rename_i f hc
      unfold ostep at hr
      simp only [ho,hc] at hr
      split at hr
      · rename_i g cs hf
        obtain ⟨i,s,th,rho,lent,rs,h1,h2,h3,h4,h5,h6,h7,h8⟩:=stepCall_inv hr
        obtain ⟨_,hs,hg,hm⟩:=findSig_spec h1
        simp only [Nat.sub_zero] at hs
        subst hg
        rw [hti] at hm h8
        obtain ⟨_,_,_,_,_,m5,_⟩:=mtch_sound h.objs hm
        have hmore:=h.more h3.1 rs s.nOut h6
        have hRR:C.R.R (i * 100) (th.map (E.den (ν++rs))) rs:=by
         have he:th.map (E.den (ν++rs))=th.map (E.den ν):=List.map_congr_left fun x hx=>E.low_den (List.all_eq_true.1 h3.2 x hx) h.nv rs
         rw [he]; exact h7
        have hm' : mtch 0 C.ti s.inS s.inO s.nIn (argSlots { σ with nv:=σ.nv+s.nOut } c.args.toList c.argTypes.toList++capSlots cs) σ.objs=some (th,rho,lent):=by
         rw [argSlots_slots (σ:={ σ with nv:=σ.nv+s.nOut }) (σ':=σ) rfl]; exact hm
        have key:=call_core (Q:=Q) (σ:={ σ with nv:=σ.nv+s.nOut }) hmore (hS i s hs) ho hc hf hm' (NbOK.text hmore hnb _) (fun o' ho'=>by
         have hlt:o' < rho.length:=by omega
         obtain ⟨a',h9,h10⟩:=h2 _ (List.getElem_mem hlt)
         exact ⟨a',by rw [List.getElem?_eq_getElem hlt,h9],h10⟩) h4 h5.1 h5.2 (rs:=rs) (μ:=[]) h6 hRR (fun j=>?_)
        · refine Oper.wp_mono (fun a' w' hk=>?_) key
          obtain ⟨k1,S',ω',k2,k3⟩:=hk
          refine ⟨k1,callDelta C.ti s rho lent σ,ν++rs,S',ω',h8,?_,?_⟩
          · have:σ.app o.dst (callDelta C.ti s rho lent σ)={ σ with slots:=setS σ.slots o.dst (callDelta C.ti s rho lent σ).dst,objs:=σ.objsOf (callDelta C.ti s rho lent σ),nv:=σ.nv+s.nOut,nb:=(σ.objsOf (callDelta C.ti s rho lent σ)).length,vb:=σ.nv+s.nOut }:=by
             cases o.dst <;> rfl
            rw [this]
            exact k2.renb _ _
          · have hl:(callDelta C.ti s rho lent σ).new.length=s.outO.length - s.inO.length:=by simp [callDelta]
            rw [hl]
            exact k3
        · show (ν++rs).getD (σ.vb+j) default=_
          rw [hvb,←h.nv,List.getD_eq_getElem?_getD,List.getElem?_append_right (by omega),Nat.add_sub_cancel_left]
          simp
      · exact hr.elim
    · cases hn
  · cases hn
end
end Go.SX
