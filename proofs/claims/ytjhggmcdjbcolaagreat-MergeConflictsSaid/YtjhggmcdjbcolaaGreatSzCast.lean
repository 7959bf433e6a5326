/-
What a function hands back as rows with rows below may be told as plain rows: the rows below stay as they are from then on.
-/
import Derived.Test.YtjhggmcdjbcolaaGreatSzCode
set_option linter.unusedVariables false
set_option linter.unusedSimpArgs false
set_option linter.unusedSectionVars false
namespace Go.SX
open Go.RowKit
def cast1:SV1→SV1
 | .dp o=>.own o
 | a=>a
def cast1B (n:Nat):SV1→Bool
 | .dp o=>decide (n≤o)
 | .pd ..=>false
 | .nst ..=>false
 | .pn ..=>false
 | .ow ..=>false
 | _=>true
def castSV:SV→SV
 | .c a=>.c (cast1 a)
 | .ag l=>.ag (l.map cast1)
def castO:SObj→SObj
 | .deep t x=>.row t x
 | .box cs=>.box (cs.map cast1)
 | o=>o
def castOB (n:Nat):SObj→Bool
 | .box cs=>cs.all (cast1B n)
 | _=>true
def isDeep:SObj→Bool
 | .deep ..=>true
 | _=>false
def castT (j:Nat) (s:Sig):T:=.call (j * 100) s.nOut ((List.range s.nIn).map E.v) (.ret ((List.range s.nOut).map fun i=>E.v (s.nIn+i)))
def castB (s s' : Sig):Bool :=
 decide (s.f=s'.f)&&decide (s.inS=s'.inS)&&decide (s.inO=s'.inO)&&decide (s.nIn=s'.nIn)&&decide (s.nOut=s'.nOut)&&decide (s.outS=s'.outS.map castSV)&&decide (s.outO=s'.outO.map castO) &&
 s'.outS.all (fun v=>v.cells.all (cast1B s'.inO.length))&&s'.outO.all (castOB s'.inO.length)&&(s'.outO.take s'.inO.length).all (fun o=>!isDeep o)
section
variable {ti:TypeId→TI} {w:World} {S S2:Nat→Prop} {ω ω2:Nat→Option Value} {ν:List D}
theorem SR.cast {n:Nat} (hω:∀ o u,ω o=some u→hdV u=u→ω2 o=some u) (hω2:∀ o u,n≤o→ω o=some u→ω2 o=some (hdV u)) (hS:∀ b,S b→S2 b) {a:SV1} {v:Value} (ha:cast1B n a=true) (h:SR ti w S ω ν a v):SR ti w S2 ω2 ν (cast1 a) v:=by
 have hp:∀ o b off,ω o=some (.pointer (some ⟨b,off,none⟩))→ω2 o=some (.pointer (some ⟨b,off,none⟩)):=fun o b off h=>hω o _ h rfl
 cases a with
 | e k x=>exact Rd.mono h (fun _ _=>rfl) hS
 | nil t=>exact h
 | p o off=>obtain ⟨b,h1,h2⟩:=h; exact ⟨b,hp _ _ _ h1,h2⟩
 | po o sz i off=>obtain ⟨g,n,cap,h1,h2⟩:=h; exact ⟨g,n,cap,hω _ _ h1 rfl,h2⟩
 | r ks=>exact RdP.mono h (fun _ _=>rfl) hS
 | own o=>obtain ⟨h1,a,n,cap,rfl⟩:=h; exact ⟨hω _ _ h1 rfl,a,n,cap,rfl⟩
 | ow o sz lo=>cases ha
 | dp o=>obtain ⟨u,h1,h2,h3⟩:=h; exact ⟨by rw [hω2 _ _ (of_decide_eq_true ha) h1,h2],h3⟩
 | pd o sz i off=>cases ha
 | nst o ts i c t=>cases ha
 | pn o ts i c t k=>cases ha
 | fn g caps =>
  obtain ⟨cv,rfl,hc⟩:=h
  refine ⟨cv,rfl,hc.imp fun c v hr=>?_⟩
  cases c with
  | p o=>obtain ⟨b,h1,h2⟩:=hr; exact ⟨b,hp _ _ _ h1,h2⟩
  | r ks=>exact RdP.mono hr (fun _ _=>rfl) hS
 | u=>exact h
theorem SVR.cast {n:Nat} (hω:∀ o u,ω o=some u→hdV u=u→ω2 o=some u) (hω2:∀ o u,n≤o→ω o=some u→ω2 o=some (hdV u)) (hS:∀ b,S b→S2 b) {a:SV} {v:Value} (ha:a.cells.all (cast1B n)=true) (h:SVR ti w S ω ν a v):SVR ti w S2 ω2 ν (castSV a) v:=by
 cases a with
 | c a=>exact SR.cast hω hω2 hS (by simpa [SV.cells] using ha) h
 | ag l =>
  obtain ⟨cs,rfl,hc⟩:=h
  exact ⟨cs,rfl,All2.mapL (hc.imp_mem fun a v hm hr=>SR.cast hω hω2 hS (List.all_eq_true.1 ha a hm) hr)⟩
theorem ResR.cast {n:Nat} (hω:∀ o u,ω o=some u→hdV u=u→ω2 o=some u) (hω2:∀ o u,n≤o→ω o=some u→ω2 o=some (hdV u)) (hS:∀ b,S b→S2 b) {l:List SV} {v:Value} (ha:(l.all fun v=>v.cells.all (cast1B n))=true) (h:ResR ti w S ω ν l v):ResR ti w S2 ω2 ν (l.map castSV) v:=by
 have hm:∀ a,a∈l→a.cells.all (cast1B n)=true:=fun a hm=>List.all_eq_true.1 ha a hm
 have tup:∀ {l:List SV},(∀ a,a∈l→a.cells.all (cast1B n)=true)→(∃ us:List Value,v=.tuple us.toArray∧All2 (SVR ti w S ω ν) l us)→∃ us:List Value,v=.tuple us.toArray∧All2 (SVR ti w S2 ω2 ν) (l.map castSV) us:=by
  rintro l hm ⟨us,rfl,hc⟩
  exact ⟨us,rfl,All2.mapL (hc.imp_mem fun a v ha hr=>SVR.cast hω hω2 hS (hm a ha) hr)⟩
 rcases l with _ | ⟨a,_ | ⟨b,l⟩⟩
 · exact tup hm h
 · exact SVR.cast hω hω2 hS (hm _ (by simp)) h
 · exact tup hm h
end
theorem hdV_slice (b:Option Addr) (n c:Nat):hdV (.slice b n c)=.slice b n c:=rfl
theorem row_slice {w:World} {e:TypeId} {k:Nat} {v:Value} {n:Nat} {xs:List Value} (h:w.ownsRow 0 e k v n xs):∃ b m c,v=.slice b m c:=by
 rcases h.2 with ⟨rfl,_⟩ | ⟨g,cap,cur,rfl,_⟩
 · exact ⟨_,_,_,rfl⟩
 · exact ⟨_,_,_,rfl⟩
theorem castT_run {R:RL} {j:Nat} {s:Sig} {ν r:List D} (hν:ν.length=s.nIn) (h:(castT j s).Run R ν r):R.R (j * 100) ν r:=by
 obtain ⟨rs,h1,h2,h3⟩:=h
 have e1:((List.range s.nIn).map E.v).map (E.den ν)=ν:=by
  apply List.ext_getElem?
  intro i
  rw [List.map_map,List.getElem?_map]
  by_cases hi:i < s.nIn
  · rw [List.getElem?_range hi,List.getElem?_eq_getElem (by omega)]
    simp [E.den,List.getD_eq_getElem?_getD,hν,hi]
  · rw [List.getElem?_eq_none (by simpa using hi),List.getElem?_eq_none (by omega)]
    rfl
 have e2:((List.range s.nOut).map fun i=>E.v (s.nIn+i)).map (E.den (ν++rs))=rs:=by
  apply List.ext_getElem?
  intro i
  rw [List.map_map,List.getElem?_map]
  by_cases hi:i < s.nOut
  · rw [List.getElem?_range hi,List.getElem?_eq_getElem (by omega)]
    simp only [Option.map_some,Function.comp,E.den]
    rw [List.getD_eq_getElem?_getD,List.getElem?_append_right (by omega),hν,Nat.add_sub_cancel_left,List.getElem?_eq_getElem (by omega)]
    rfl
  · rw [List.getElem?_eq_none (by simpa using hi),List.getElem?_eq_none (by omega)]
    rfl
 have h3:r=((List.range s.nOut).map fun i=>E.v (s.nIn+i)).map (E.den (ν++rs)):=h3
 rw [e2] at h3
 rw [e1] at h2
 rw [h3]
 exact h2
theorem cast_sound {P:Program} {ti:TypeId→TI} {s s' : Sig} {R R' : List D→List D→Prop} (hc:castB s s'=true) (hS:SigOK P ti s' R') (hR:∀ ν rs,ν.length=s.nIn→R ν rs→R' ν rs):SigOK P ti s R:=by
 unfold castB at hc
 simp only [Bool.and_eq_true,decide_eq_true_eq] at hc
 obtain ⟨⟨⟨⟨⟨⟨⟨⟨⟨c1,c2⟩,c3⟩,c4⟩,c5⟩,c6⟩,c7⟩,c8⟩,c9⟩,c10⟩:=hc
 intro ν rs vs w S F ω hr hE
 have hE' : Entry ti s' ν vs w S F ω:=by
  refine ⟨?_,?_,?_,?_,?_,?_,hE.stab⟩
  · rw [←c4]; exact hE.len
  · rw [←c2]; exact hE.vals
  · rw [←c3]; exact hE.dom
  · rw [←c3]; exact hE.objs
  · rw [←c3]; exact hE.sep
  · rw [←c3]; exact hE.own
 have hg:=hS ν rs vs w S F ω (hR ν rs hE.len hr) hE'
 have conv:∀ v w',(∃ S' ω',Out ti s' rs w S F ω v w' S' ω')→∃ S' ω',Out ti s rs w S F ω v w' S' ω':=by
  rintro v w' ⟨S',ω',hO⟩
  let dp (o:Nat):Prop:=∃ t x,s'.outO[o]?=some (.deep t x)
  let ω2:Nat→Option Value:=fun o=>if o < s'.inO.length then ω' o else (ω' o).map hdV
  let S2:Nat→Prop:=fun b=>S' b ∨ ∃ (o:Nat) (u v:Value),dp o∧ω' o=some u∧v∈tlV u∧nblk v b
  have hω:∀ o u,ω' o=some u→hdV u=u→ω2 o=some u:=fun o u h hh=>by
   show (if o < s'.inO.length then ω' o else (ω' o).map hdV)=_
   rw [h]
   split
   · rfl
   · simp [hh]
  have hωn:∀ o u,s'.inO.length≤o→ω' o=some u→ω2 o=some (hdV u):=fun o u hn h=>by
   show (if o < s'.inO.length then ω' o else (ω' o).map hdV)=_
   rw [if_neg (by omega),h]
   rfl
  have hωl:∀ o,o < s'.inO.length→ω2 o=ω' o:=fun o hn=>by
   show (if o < s'.inO.length then ω' o else (ω' o).map hdV)=_
   rw [if_pos hn]
  have deepLt:∀ (o:Nat) t x,s'.outO[o]?=some (.deep t x)→s'.inO.length≤o:=fun o t x ho=>by
   rcases Nat.lt_or_ge o s'.inO.length with hlt | hge
   · have:=List.all_eq_true.1 c10 _ (List.mem_of_getElem? (i:=o) (by rw [List.getElem?_take,if_pos hlt]; exact ho))
     simp [isDeep] at this
   · exact hge
  have hSS:∀ b,S' b→S2 b:=fun b h=>.inl h
  have nest:∀ {b:Nat},(∃ (o:Nat) (u v:Value),dp o∧ω' o=some u∧v∈tlV u∧nblk v b)→∃ (o:Nat) (t:TypeId) (x:E),s'.outO[o]?=some (.deep t x)∧OwnB (ω' o) b:=by
   rintro b ⟨o,u,v,⟨t,x,h1⟩,h2,h3,h4⟩
   exact ⟨o,t,x,h1,by rw [h2]; exact (Blk_iff _ _).2 (.inr ⟨v,h3,h4⟩)⟩
  have outO:∀ {o:Nat} {x:SObj},s.outO[o]?=some x→∃ y,s'.outO[o]?=some y∧x=castO y:=by
   intro o x hx
   rw [c7,List.getElem?_map] at hx
   obtain ⟨y,h1,h2⟩:=Option.map_eq_some_iff.1 hx
   exact ⟨y,h1,h2.symm⟩
  have live:∀ (y:SObj),(castO y).live=y.live:=fun y=>by cases y <;> rfl
  -- a handle's own block
  have own1:∀ {o:Nat} {y:SObj} {b:Nat},s'.outO[o]?=some y→y.live=true→OwnB (ω2 o) b→OwnB (ω' o) b∧∀ u,ω' o=some u→blk (hdV u)=some b:=by
   intro o y b hy hl hb
   have hb0:=hb
   cases hu:ω' o with
   | none =>
    have:ω2 o=none:=by show (if o < s'.inO.length then ω' o else (ω' o).map hdV)=none; rw [hu]; split <;> rfl
    rw [this] at hb
    exact hb.elim
   | some u =>
    have hb:Blk u b ∨ Blk (hdV u) b:=by
     rcases Nat.lt_or_ge o s'.inO.length with hlt | hge
     · rw [hωl o hlt,hu] at hb; exact .inl hb
     · rw [hωn o u hge hu] at hb; exact .inr hb
    have hk:blk (hdV u)=some b:=by
     have hobj:=hO.objs o y hy
     cases y with
     | box cs=>obtain ⟨b',t,vs',h1,_⟩:=hobj; rw [hu] at h1; cases h1; exact hb.elim id id
     | row t x =>
      obtain ⟨v',e,agg,lv,ds,us,h1,_,_,h4,_⟩:=hobj
      rw [hu] at h1
      cases h1
      obtain ⟨_,_,_,rfl⟩:=row_slice h4
      exact hb.elim id id
     | fro t x=>cases hl
     | dead=>cases hl
     | fbox ks=>cases hl
     | deep t x =>
      obtain ⟨u',e,lv,ds,h1,_,_,h4,_⟩:=hobj
      rw [hu] at h1
      cases h1
      obtain ⟨_,_,_,h5⟩:=row_slice h4
      have hge:=deepLt o t x hy
      have hb2:=hb0
      rw [hωn o u hge hu] at hb2
      have hb2:Blk (hdV u) b:=hb2
      rw [h5] at hb2 ⊢
      exact hb2
    exact ⟨(Blk_iff _ _).2 (.inl hk),fun u' h'=>by cases h'; exact hk⟩
  refine ⟨S2,ω2,{
   frame:=hO.frame
   smono:=fun b hb=>.inl (hO.smono b hb)
   sbd:=fun b hb=>by
    rcases hb with hb | hb
    · exact hO.sbd b hb
    · obtain ⟨o,t,x,h1,h2⟩:=nest hb
      exact .inr (hO.own o _ b h1 rfl h2).2.2
   stab:=fun b hb=>by
    rcases hb with hb | hb
    · exact hO.stab b hb
    · obtain ⟨o,t,x,h1,h2⟩:=nest hb
      exact (hO.own o _ b h1 rfl h2).2.1
   omono:=fun o v hv=>by
    have h1:=hO.omono o v hv
    rw [hωl o (hE'.dom o v hv)]
    exact h1
   dom:=fun o v hv=>by
    have hv:(if o < s'.inO.length then ω' o else (ω' o).map hdV)=some v:=hv
    rw [c7,List.length_map]
    split at hv
    · exact hO.dom o v hv
    · obtain ⟨u,h1,_⟩:=Option.map_eq_some_iff.1 hv
      exact hO.dom o u h1
   vals:=by
    rw [c6]
    exact ResR.cast hω hωn hSS c8 hO.vals
   objs:=fun o x hx=>by
    obtain ⟨y,hy,rfl⟩:=outO hx
    have hobj:=hO.objs o y hy
    cases y with
    | box cs =>
     obtain ⟨b,t,vs',h1,h2,h3⟩:=hobj
     have ha:=List.all_eq_true.1 c9 _ (List.mem_of_getElem? hy)
     exact ⟨b,t,vs',hω _ _ h1 rfl,h2,All2.mapL (h3.imp_mem fun a v hm hr=>SR.cast hω hωn hSS (List.all_eq_true.1 ha a hm) hr)⟩
    | row t x =>
     obtain ⟨v',e,agg,lv,ds,us,h1,h2,h3,h4,h5⟩:=hobj
     obtain ⟨_,_,_,rfl⟩:=row_slice h4
     exact ⟨_,e,agg,lv,ds,us,hω _ _ h1 rfl,h2,h3,h4,h5.mono (fun _ _=>rfl) hSS⟩
    | fro t x =>
     obtain ⟨v',h1,h2⟩:=hobj
     have:hdV v'=v':=by
      generalize x.den rs=d at h2
      cases h2 <;> rfl
     exact ⟨v',hω _ _ h1 this,h2.mono (fun _ _=>rfl) hSS⟩
    | dead=>trivial
    | fbox ks =>
     obtain ⟨b,h1,h2⟩:=hobj
     exact ⟨b,hω _ _ h1 rfl,RdP.mono h2 (fun _ _=>rfl) hSS⟩
    | deep t x =>
     obtain ⟨u,e,lv,ds,h1,h2,h3,h4,h5,h6,h7⟩:=hobj
     refine ⟨hdV u,e,true,lv,ds,tlV u,hωn _ _ (deepLt o t x hy) h1,h2,h3,h4,fun j c k hj hk=>?_⟩
     refine (h5 j c k hj hk).rd fun b hb=>.inr ⟨o,u,_,⟨t,x,hy⟩,h1,?_,hb⟩
     exact mem_getD_of (by rw [h4.1]; exact cellIdx_lt hj (List.getElem?_eq_some_iff.1 hk).1)
   sep:=fun o o' x x' b h1 h2 h3 h4 h5 h6=>by
    obtain ⟨y,hy,rfl⟩:=outO h1
    obtain ⟨y',hy',rfl⟩:=outO h2
    rw [live] at h3 h4
    exact hO.sep o o' y y' b hy hy' h3 h4 (own1 hy h3 h5).1 (own1 hy' h4 h6).1
   own:=fun o x b h1 h2 h3=>by
    obtain ⟨y,hy,rfl⟩:=outO h1
    rw [live] at h2
    obtain ⟨g1,g2⟩:=own1 hy h2 h3
    obtain ⟨k1,k2,k3⟩:=hO.own o y b hy h2 g1
    refine ⟨?_,k2,k3⟩
    rintro (hb | hb)
    · exact k1 hb
    · obtain ⟨o',u,v',⟨t,x,hd⟩,q1,q2,q3⟩:=hb
      have:=hO.sep o o' y _ b hy hd h2 rfl g1 (by rw [q1]; exact (Blk_iff _ _).2 (.inr ⟨v',q2,q3⟩))
      subst this
      obtain ⟨u',e,lv,ds,r1,r2,r3,r4,r5,r6,r7⟩:=hO.objs o _ hd
      rw [q1] at r1
      cases r1
      obtain ⟨p,hp⟩:=List.mem_iff_getElem?.1 q2
      have hpd:(tlV u).getD p undef=v':=by rw [List.getD_eq_getElem?_getD,hp]; rfl
      exact r7 p b (by rw [hpd]; exact q3) (g2 u q1) }⟩
 rw [←c1] at hg
 obtain ⟨nx,w1,h1,h2⟩:=hg
 refine ⟨nx,w1,h1,?_⟩
 cases nx with
 | value v=>exact conv _ _ h2
 | enter f' args' =>
  refine Calls.mono h2 fun e w' he=>?_
  cases e with
  | returned v=>exact conv _ _ he
  | panicked _=>exact he.elim
  | outgrown=>exact he.elim
 | _=>exact h2.elim
end Go.SX
