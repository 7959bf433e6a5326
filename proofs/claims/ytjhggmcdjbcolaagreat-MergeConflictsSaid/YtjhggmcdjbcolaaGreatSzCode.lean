/-
Regions in the text's order, code, loops.
-/
import Derived.Test.YtjhggmcdjbcolaaGreatSzStep
set_option linter.unusedVariables false
set_option linter.unusedSimpArgs false
set_option linter.unusedSectionVars false
namespace Go.SX
open Go.RowKit
theorem wp_loop_ind {P:Program} {Q:Exit→Act→World→Prop} {c:Code} (J:Nat→Act→World→Prop)
 (round:∀ m a w,J m a w→c.wp P (Exit.then (fun a' w'=>∃ m',m' < m∧J m' a' w') Q) a w) {m:Nat} {a:Act} {w:World} (h:J m a w):(Code.loop c).wp P Q a w:=by
 intro b k cs
 have key:∀ n a w,J n a w→∃ e a' w',Q e a' w'∧Arrives P (lone (b.at a (.code c::.inLoop c::k)) cs w) b k cs e a' w':=by
  intro n
  induction n using Nat.strongRecOn with
  | _ n ih =>
   intro a w hJ
   obtain ⟨e,a₁,w₁,hq,harr⟩:=round n a w hJ b (.inLoop c::k) cs
   cases e with
   | normal =>
    obtain ⟨m',hlt,hJ'⟩:=hq
    obtain ⟨e₂,a₂,w₂,hq₂,harr₂⟩:=ih m' hlt a₁ w₁ hJ'
    exact ⟨e₂,a₂,w₂,hq₂,.of_steps (Steps.trans harr (.one step_inLoop)) harr₂⟩
   | exit id=>exact ⟨_,a₁,w₁,hq,.pass (x:=.inLoop c) rfl (fun _ _=>.inl (by simp)) harr⟩
   | goto l=>exact ⟨_,a₁,w₁,hq,.pass (x:=.inLoop c) rfl (fun _ _=>.inl (by simp)) harr⟩
   | ret=>exact ⟨_,a₁,w₁,hq,.pass (x:=.inLoop c) rfl (fun _ _=>.inl (by simp)) harr⟩
   | panic ch=>exact ⟨_,a₁,w₁,hq,.pass (x:=.inLoop c) rfl (fun _ _=>.inl (by simp)) harr⟩
   | outgrown=>exact ⟨_,a₁,w₁,hq,.pass (x:=.inLoop c) rfl (fun _ _=>.inl (by simp)) harr⟩
 obtain ⟨e,a',w',hq,harr⟩:=key m a w h
 exact ⟨e,a',w',hq,.of_steps (.one step_loop) harr⟩
def St.text (σ:St):Prop:=σ.nb=σ.objs.length∧σ.vb=σ.nv
theorem St.text_app (σ:St) (d:Option Tmp) (δ:Delta):(σ.app d δ).text:=⟨rfl,rfl⟩
section
variable {C:Cx} {σ:St} {ν:List D} {S:Nat→Prop} {ω:Nat→Option Value} {w:World} {r:List D} {a:Act} {Q:Exit→Act→World→Prop} {K:St→T}
theorem decide1_sound {tm:Array Value} (h:Sim C σ ν S ω tm w) {c:E} {yes no:St→T} (hr:(decide1 σ c yes no).Run C.R ν r) :
 ∃ kn,Sim C { σ with known:=kn } ν S ω tm w∧((c.den ν).toBool=true→(yes { σ with known:=kn }).Run C.R ν r)∧((c.den ν).toBool=false→(no { σ with known:=kn }).Run C.R ν r):=by
 have hkn:∀ {b:Bool},knownE σ c=some b→(c.den ν).toBool=b:=by
  intro b hk
  unfold knownE at hk
  split at hk
  · cases hk; rfl
  · obtain ⟨p,hp,rfl⟩:=Option.map_eq_some_iff.1 hk
    have h1:=List.find?_some hp
    have h2:=List.mem_of_find?_eq_some hp
    have:p.1=c:=by simpa using h1
    subst this
    exact h.known p.1 p.2 h2
 unfold decide1 at hr
 split at hr
 · rename_i hk
   exact ⟨σ.known,h,fun _=>hr,fun hf=>by rw [hkn hk] at hf; cases hf⟩
 · rename_i hk
   exact ⟨σ.known,h,fun ht=>(by rw [hkn hk] at ht; cases ht),fun _=>hr⟩
 · split at hr
   · rename_i x _
     have hden:((E.o1 .not x).den ν).toBool=!(x.den ν).toBool:=rfl
     simp only [T.Run] at hr
     cases hb:(x.den ν).toBool with
     | true =>
      rw [if_pos hb] at hr
      refine ⟨_,h.learn (kn:=(x,true)::(.o1 .not x,false)::σ.known) (fun c' b' hc=>?_),fun ht=>?_,fun _=>hr⟩
      · rcases List.mem_cons.1 hc with hc | hc
        · cases hc; exact hb
        · rcases List.mem_cons.1 hc with hc | hc
          · cases hc; rw [hden,hb]; rfl
          · exact h.known _ _ hc
      · rw [hden,hb] at ht; cases ht
     | false =>
      rw [if_neg (by rw [hb]; simp)] at hr
      refine ⟨_,h.learn (kn:=(x,false)::(.o1 .not x,true)::σ.known) (fun c' b' hc=>?_),fun _=>hr,fun ht=>?_⟩
      · rcases List.mem_cons.1 hc with hc | hc
        · cases hc; exact hb
        · rcases List.mem_cons.1 hc with hc | hc
          · cases hc; rw [hden,hb]; rfl
          · exact h.known _ _ hc
      · rw [hden,hb] at ht; cases ht
   · simp only [T.Run] at hr
     cases hb:(c.den ν).toBool with
     | true =>
      rw [if_pos hb] at hr
      refine ⟨_,h.learn (kn:=(c,true)::σ.known) (fun c' b' hc=>?_),fun _=>hr,fun ht=>by cases ht⟩
      rcases List.mem_cons.1 hc with hc | hc
      · cases hc; exact hb
      · exact h.known _ _ hc
     | false =>
      rw [if_neg (by rw [hb]; simp)] at hr
      refine ⟨_,h.learn (kn:=(c,false)::σ.known) (fun c' b' hc=>?_),fun ht=>(by cases ht),fun _=>hr⟩
      rcases List.mem_cons.1 hc with hc | hc
      · cases hc; exact hb
      · exact h.known _ _ hc
def Next (C:Cx) (K:St→T) (r:List D) (ds:List Deferred) (Q:Act→World→Prop):Prop :=
 ∀ σ' ν' S' ω' a' w',σ'.text→a'.defers=ds→Sim C σ' ν' S' ω' a'.tmps w'→(K σ').Run C.R ν' r→Q a' w'
theorem put_defers (a:Act) (d:Option Tmp) (v:Value):(a.put d v).defers=a.defers:=by cases d <;> rfl
theorem sxOps_sound {env:Env} (hti:env.ti=C.ti) (hT:TyOK C.P C.ti) (hE:∀ t,t∈env.eqt→EqTy C.P C.ti t) (hS:SigsOK C.P C.ti env.sigs C.R.R) {ops:Array Oper} :
 ∀ (is:List Nat) (os:List Oper),All2 (fun i o=>ops[i]?=some o) is os→∀ {σ:St} {ν:List D} {S:Nat→Prop} {ω:Nat→Option Value} {a:Act} {w:World},σ.text→Sim C σ ν S ω a.tmps w→(sxOps env ops os σ K).Run C.R ν r→Next C K r a.defers (Q .normal)→wpOps C.P ops Q is a w
 | [],_,.nil,σ,ν,S,ω,a,w,ht,h,hr,hQ=>hQ σ ν S ω a w ht rfl h hr
 | i::is,o::os,.cons hi his,σ,ν,S,ω,a,w,ht,h,hr,hQ=>by
  rw [wpOps_cons]
  unfold wpOp
  simp only [hi]
  -- the two ways
  have go:∀ {σ:St},σ.text→Sim C σ ν S ω a.tmps w→(ostep env o σ fun δ=>sxOps env ops os (σ.app o.dst δ) K).Run C.R ν r→o.wp C.P a w (wpOps C.P ops Q is) Q:=by
   intro σ ht h hr
   refine Oper.wp_mono (fun a' w' hp=>?_) (ostep_sound (Q:=Q) hti hT hE hS h ht.1 ht.2 hr)
   obtain ⟨hd,δ,ν',S',ω',h1,h2,_⟩:=hp
   exact sxOps_sound hti hT hE hS is os his (St.text_app σ o.dst δ) h2 h1 (by rw [hd]; exact hQ)
  have skip:∀ {σ:St},σ.text→Sim C σ ν S ω a.tmps w→(sxOps env ops os (skipSt σ o.dst) K).Run C.R ν r→wpOps C.P ops Q is (a.put o.dst undef) w:=by
   intro σ ht h hr
   have h2:=h.slot o.dst (v:=undef) (s:=.un) rfl
   rw [←put_tmps] at h2
   have he:skipSt σ o.dst={ σ with slots:=setS σ.slots o.dst .un }:=by cases o.dst <;> rfl
   rw [he] at hr
   exact sxOps_sound hti hT hE hS is os his (σ:={ σ with slots:=setS σ.slots o.dst .un }) ht h2 hr (by rw [put_defers]; exact hQ)
  unfold sxOps withGuard at hr
  split at hr
  · rename_i hg
    have hw:Region.wanted o (yielded ops a.tmps)=true:=by simp [Region.wanted,hg]
    rw [if_pos hw]
    exact .inl (go ht h hr)
  · rename_i j want hg
    split at hr
    · rename_i t hj
      split at hr
      · rename_i c hs
        obtain ⟨kn,h1,h2,h3⟩:=decide1_sound h hr
        have hv:=(Rd.bool_inv (h.slots t _ hs)).2
        have hlt:t < a.tmps.size:=by rw [h.tsz]; exact (List.getElem?_eq_some_iff.1 hs).1
        have hy:yielded ops a.tmps j=some (c.den ν).toBool:=by
         unfold yielded
         rw [hj]
         have:a.tmps[t]?=some (.bool (c.den ν).toBool):=by
          rw [←hv]
          simp [hlt]
         simp [this]
        have hw:Region.wanted o (yielded ops a.tmps)=((c.den ν).toBool == want):=by
         simp only [Region.wanted,hg,hy]
         cases (c.den ν).toBool <;> cases want <;> rfl
        rw [hw]
        cases hb:(c.den ν).toBool with
        | true =>
         cases want with
         | true=>exact .inl (go (σ:={ σ with known:=kn }) ht h1 (h2 hb))
         | false=>exact skip (σ:={ σ with known:=kn }) ht h1 (h2 hb)
        | false =>
         cases want with
         | true=>exact skip (σ:={ σ with known:=kn }) ht h1 (h3 hb)
         | false=>exact .inl (go (σ:={ σ with known:=kn }) ht h1 (h3 hb))
      · rename_i hs
        have hv:=h.slots t _ hs
        have hy:yielded ops a.tmps j=none:=by
         unfold yielded
         rw [hj]
         have hv' : a.tmps.getD t undef=undef:=hv
         have hlt:t < a.tmps.size:=by rw [h.tsz]; exact (List.getElem?_eq_some_iff.1 hs).1
         have:a.tmps[t]?=some undef:=by
          rw [←hv']
          simp [hlt]
         simp [this,undef]
        have hw:Region.wanted o (yielded ops a.tmps)=false:=by simp [Region.wanted,hg,hy]
        rw [hw]
        exact skip ht h hr
      · exact hr.elim
    · exact hr.elim
/-! ### A shape is met -/
theorem Sim.reR {C:Cx} {σ:St} {ν:List D} {S:Nat→Prop} {ω:Nat→Option Value} {tm:Array Value} {w:World} (h:Sim C σ ν S ω tm w) (R:RL):Sim { C with R:=R } σ ν S ω tm w :=
 ⟨h.tsz,h.slots,h.nv,h.dom,h.objs,h.sep,h.own,h.stab,h.known,h.frame,h.smono,h.sbd,h.omono⟩
theorem match_own {tm:Array Value} (h:Sim C σ ν S ω tm w) {ho:List SObj} {rho:List (Option Nat)} {lent:List Nat} {ω' : Nat→Option Value}
 (m1:∀ (o a:Nat),rho[o]?=some (some a)→ω' o=ω a) (m2:∀ o:Nat,rho[o]?=some none→∀ v,ω' o=some v→∀ b,¬ Blk v b) (m5:rho.length=ho.length) (m7:LiveL σ.objs lent)
 (m10:∀ (o:Nat) (x:SObj),ho[o]?=some x→x.live=true→∀ a,rho[o]?=some (some a)→∃ ob,σ.objs[a]?=some ob∧ob.live=true)
 (m11:∀ (i j a:Nat) (x y:SObj),ho[i]?=some x→x.live=true→ho[j]?=some y→y.live=true→rho[i]?=some (some a)→rho[j]?=some (some a)→i=j) (m12:∀ (i a:Nat) (x:SObj),ho[i]?=some x→x.live=true→rho[i]?=some (some a)→a ∉ lent) :
 (∀ (o o' : Nat) (x x' : SObj) (b:Nat),ho[o]?=some x→ho[o']?=some x'→x.live=true→x'.live=true→OwnB (ω' o) b→OwnB (ω' o') b→o=o') ∧
 (∀ (o:Nat) (x:SObj) (b:Nat),ho[o]?=some x→x.live=true→OwnB (ω' o) b→¬ SL S ω lent b∧b < w.heap.size∧(C.w0.heap.size≤b ∨ C.F b)∧∃ a,rho[o]?=some (some a)):=by
 have hp:∀ (o:Nat) (x:SObj) (b:Nat),ho[o]?=some x→x.live=true→OwnB (ω' o) b→∃ a y,rho[o]?=some (some a)∧σ.objs[a]?=some y∧y.live=true∧OwnB (ω a) b:=by
  intro o x b hx hl hb
  have hlt:o < rho.length:=by rw [m5]; exact (List.getElem?_eq_some_iff.1 hx).1
  cases hr:rho[o] with
  | none =>
   have hr' : rho[o]?=some none:=by rw [List.getElem?_eq_getElem hlt,hr]
   cases hv:ω' o with
   | none=>rw [hv] at hb; cases hb
   | some v =>
    rw [hv] at hb
    exact (m2 o hr' v hv b hb).elim
  | some a =>
   have hr' : rho[o]?=some (some a):=by rw [List.getElem?_eq_getElem hlt,hr]
   obtain ⟨y,y1,y2⟩:=m10 o x hx hl a hr'
   rw [m1 o a hr'] at hb
   exact ⟨a,y,hr',y1,y2,hb⟩
 constructor
 · intro o o' x x' b h1 h2 h3 h4 h5 h6
   obtain ⟨a,y,g1,g2,g3,g4⟩:=hp o x b h1 h3 h5
   obtain ⟨a',y',k1,k2,k3,k4⟩:=hp o' x' b h2 h4 h6
   have:=h.sep a a' y y' b g2 k2 g3 k3 g4 k4
   subst this
   exact m11 o o' a x x' h1 h3 h2 h4 g1 k1
 · intro o x b h1 h2 h3
   obtain ⟨a,y,g1,g2,g3,g4⟩:=hp o x b h1 h2 h3
   obtain ⟨q1,q2,q3⟩:=h.own a y b g2 g3 g4
   refine ⟨?_,q2,q3,a,g1⟩
   rintro (hb | ⟨o',ho',hb⟩)
   · exact q1 hb
   · obtain ⟨z,z1,z2⟩:=m7 o' ho'
     have:=h.sep a o' y z b g2 z1 g3 z2 g4 hb
     subst this
     exact m12 o a x h1 h2 g1 ho'
theorem All2.of_slots {tm:Array Value} (h:Sim C σ ν S ω tm w):All2 (SlotR C.ti w S ω ν) σ.slots tm.toList :=
 All2.of_get (by rw [Array.length_toList]; exact h.tsz.symm) fun i s v hs hv=>by
  have:=h.slots i s hs
  have he:tm.getD i undef=v:=by
   have hlt:i < tm.size:=by rw [h.tsz]; exact (List.getElem?_eq_some_iff.1 hs).1
   simp only [Array.getElem?_toList] at hv
   rw [Array.getElem?_eq_getElem hlt] at hv
   simp [hlt,Option.some.inj hv]
  rw [he] at this
  exact this
theorem head_sim {tm:Array Value} (h:Sim C σ ν S ω tm w) {nk:Nat} (hk:∀ o v,C.ω0 o=some v→o < nk) {hs:List Slot} {ho:List SObj} {n:Nat} {th:List E} {rho:List (Option Nat)} {lent:List Nat}
 (hm:mtch nk C.ti hs ho n σ.slots σ.objs=some (th,rho,lent)) {kn:List (E × Bool)} (hkn:kn=[]) (x y:Nat) :
 ∃ ω',Sim C { slots:=hs,objs:=ho,nv:=n,known:=kn,nb:=x,vb:=y } (th.map (E.den ν)) (SL S ω lent) ω' tm w:=by
 subst hkn
 obtain ⟨ω',m1,m2,m3,m4,m5,m6,m7,m8,m9,m10,m11,m12,m13⟩:=mtch_sound h.objs hm
 obtain ⟨o1,o2⟩:=match_own h m1 m2 m5 m7 m10 m11 m12
 have hvs:=m8 _ (All2.of_slots h)
 have hf:=h.freeze lent m7
 refine ⟨ω',{
  tsz:=by rw [h.tsz,m4]
  slots:=fun i s hs'=>by
   obtain ⟨v,hv,hr⟩:=hvs.get hs'
   have he:tm.getD i undef=v:=by
    simp only [Array.getElem?_toList] at hv
    simp [hv]
   rw [he]
   exact hr
  nv:=by rw [List.length_map,m6]
  dom:=fun o v hv=>by
   rcases Nat.lt_or_ge o ho.length with hlt | hge
   · exact hlt
   · rw [m3 o (List.getElem?_eq_none (by rw [m5]; exact hge))] at hv; cases hv
  objs:=m9
  sep:=o1
  own:=fun o ob b h1 h2 h3=>let ⟨a,b,c,_⟩:=o2 o ob b h1 h2 h3; ⟨a,b,c⟩
  stab:=hf.stab
  known:=fun c b hc=>by cases hc
  frame:=h.frame
  smono:=hf.smono
  sbd:=hf.sbd
  omono:=fun o v hv=>by rw [m1 o o (m13 o (hk o v hv))]; exact h.omono o v hv }⟩
end
/-! ### Trees grow with what labels do -/
theorem T.Run.mono {R R' : Nat→List D→List D→Prop} {L:Nat→T→Prop} (hR:∀ l ds r,R l ds r→R' l ds r):∀ (t:T) {ν r:List D},t.Run (RL.of (R) L) ν r→t.Run (RL.of (R') L) ν r
 | .fail _,ν,r,h=>h
 | .miss ..,ν,r,h=>h
 | .br c t f,ν,r,h=>by
  simp only [T.Run] at h ⊢
  split
  · rename_i hc; rw [if_pos hc] at h; exact T.Run.mono hR t h
  · rename_i hc; rw [if_neg hc] at h; exact T.Run.mono hR f h
 | .am c t f,ν,r,h=>⟨T.Run.mono hR f h.1,fun hc=>T.Run.mono hR t (h.2 hc)⟩
 | .ck c t,ν,r,h=>⟨h.1,T.Run.mono hR t h.2⟩
 | .call g n as t,ν,r,h=>by
  obtain ⟨rs,h1,h2,h3⟩:=h
  exact ⟨rs,h1,hR _ _ _ h2,T.Run.mono hR t h3⟩
 | .jump l as,ν,r,h=>hR _ _ _ h
 | .loop l as b,ν,r,h=>⟨h.1,T.Run.mono hR b h.2⟩
 | .ret xs,ν,r,h=>h
 | .leaf δ,ν,r,h=>h
/-! ### Code -/
def exOf:Ex→Exit
 | .normal=>.normal
 | .exit n=>.exit n
 | .ret=>.ret
section
variable {P:Program} {env:Env} {F:Nat→Nat→List D→List D→Prop} {L:Nat→T→Prop} {N:Nat} {me nk:Nat} {dat keep:List Nat}
def Cx.at (C:Cx) (R:Nat→List D→List D→Prop) (L:Nat→T→Prop):Cx:={ C with R:=(RL.of (R) L) }
def DrawOK (env:Env):Prop:=∀ {C:Cx} {σ:St} {ν:List D} {S:Nat→Prop} {ω:Nat→Option Value} {w:World} {r:List D} {a:Act} {Q:Exit→Act→World→Prop} {K:St→T} (id:Nat) (ops:Array Oper),
 env.ti=C.ti→TyOK C.P C.ti→(∀ t,t∈env.eqt→EqTy C.P C.ti t)→SigsOK C.P C.ti env.sigs C.R.R→C.P.follows .mixedOrders=true→σ.text→Sim C σ ν S ω a.tmps w→(sxDraw env ops σ K).Run C.R ν r→Next C K r a.defers (Q .normal)→(Code.region id ops true).wp C.P Q a w
theorem sx_sound {C:Cx} (hti:env.ti=C.ti) (hT:TyOK C.P C.ti) (hE:∀ t,t∈env.eqt→EqTy C.P C.ti t) (hD:DrawOK env) (hmx:C.P.follows .mixedOrders=true) (hA:∀ m,m≤N→SigsOK C.P C.ti env.sigs (F m))
 (hmono:∀ m l ds r,F m l ds r→F (m+1) l ds r) (hL:∀ l b,L l b→∀ m ds r,F m l ds r→∃ m',m=m'+1∧b.Run (RL.of (F m') L) ds r) (hk:∀ o v,C.ω0 o=some v→o < nk) :
 ∀ (c:Code) (m:Nat),m≤N→∀ {b:Nat} {σ:St} {ν:List D} {S:Nat→Prop} {ω:Nat→Option Value} {a:Act} {w:World} {r:List D} {Q:Exit→Act→World→Prop} {K' : Ex→St→T},
  σ.text→Sim (C.at (F m) L) σ ν S ω a.tmps w→(sx env me nk dat keep b c σ K').Run (RL.of (F m) L) ν r→(∀ ex,Next (C.at (F m) L) (K' ex) r a.defers (Q (exOf ex)))→c.wp C.P Q a w:=by
 have hmono' : ∀ m m',m≤m'→∀ l ds r,F m l ds r→F m' l ds r:=by
  intro m m' hle
  induction hle with
  | refl=>intro l ds r h; exact h
  | step _ ih=>intro l ds r h; exact hmono _ _ _ _ (ih l ds r h)
 intro c
 induction c with
 | skip =>
  intro m hm b σ ν S ω a w r Q K' ht h hr hQ
  exact wp_skip (hQ .normal σ ν S ω a w ht rfl h hr)
 | label l =>
  intro m hm b σ ν S ω a w r Q K' ht h hr hQ
  exact wp_label (hQ .normal σ ν S ω a w ht rfl h hr)
 | region id ops d =>
  intro m hm b σ ν S ω a w r Q K' ht h hr hQ
  unfold sx at hr
  cases d with
  | true=>exact hD (C:=C.at (F m) L) id ops hti hT hE (hA m hm) hmx ht h hr (hQ .normal)
  | false =>
   refine wp_region (sxOps_sound (C:=C.at (F m) L) hti hT hE (hA m hm) (List.range ops.size) ops.toList ?_ ht h hr (hQ .normal))
   refine All2.of_get (by simp) fun i x o hx ho=>?_
   have hlt:i < ops.size:=by
    have:=(List.getElem?_eq_some_iff.1 hx).1
    simpa using this
   rw [List.getElem?_range hlt] at hx
   cases hx
   simpa using ho
 | seq x y ihx ihy =>
  intro m hm b σ ν S ω a w r Q K' ht h hr hQ
  unfold sx at hr
  refine wp_seq (ihx m hm ht h hr fun ex σ' ν' S' ω' a' w' ht' hd h' hr'=>?_)
  cases ex with
  | normal=>exact ihy m hm ht' h' hr' (by rw [hd]; exact hQ)
  | exit n=>exact hQ (.exit n) σ' ν' S' ω' a' w' ht' hd h' hr'
  | ret=>exact hQ .ret σ' ν' S' ω' a' w' ht' hd h' hr'
 | cond x y z ihy ihz =>
  intro m hm b σ ν S ω a w r Q K' ht h hr hQ
  unfold sx evalCond at hr
  split at hr
  · rename_i c hc
    have hv:=look_sound h 0 x
    rw [hc] at hv
    have hb:=(Rd.bool_inv hv).2
    obtain ⟨kn,h1,h2,h3⟩:=decide1_sound (C:=C.at (F m) L) h hr
    refine wp_cond hb ?_
    cases hbb:(c.den ν).toBool with
    | true=>exact ihy m hm (σ:={ σ with known:=kn }) ht h1 (h2 hbb) hQ
    | false=>exact ihz m hm (σ:={ σ with known:=kn }) ht h1 (h3 hbb) hQ
  · exact hr.elim
 | block id c ih =>
  intro m hm b σ ν S ω a w r Q K' ht h hr hQ
  unfold sx at hr
  refine wp_block (ih m hm ht h hr fun ex σ' ν' S' ω' a' w' ht' hd h' hr'=>?_)
  split at hr'
  · rename_i he
    subst he
    simp only [exOf,Exit.inBlock,if_true]
    exact hQ .normal σ' ν' S' ω' a' w' ht' hd h' hr'
  · rename_i he
    have:=hQ ex σ' ν' S' ω' a' w' ht' hd h' hr'
    cases ex with
    | normal=>exact this
    | ret=>exact this
    | exit n =>
     have hne:n≠id:=fun hn=>he (by rw [hn])
     simp only [exOf,Exit.inBlock,if_neg hne]
     exact this
 | exit id =>
  intro m hm b σ ν S ω a w r Q K' ht h hr hQ
  exact wp_exit (hQ (.exit id) σ ν S ω a w ht rfl h hr)
 | ret =>
  intro m hm b σ ν S ω a w r Q K' ht h hr hQ
  exact wp_ret (hQ .ret σ ν S ω a w ht rfl h hr)
 | loop c ih =>
  intro m hm b σ ν S ω a w r Q K' ht h hr hQ
  unfold sx at hr
  generalize hhd:mkHead env.deepT env.ren nk dat σ keep c=hd at hr
  obtain ⟨hs,ho,n⟩:=hd
  simp only at hr
  split at hr
  · exact hr.elim
  · rename_i th rho lent hmt
    obtain ⟨hLb,hbody⟩:=hr
    rw [hti] at hmt
    obtain ⟨ω1,h1⟩:=head_sim (C:=C.at (F m) L) h hk hmt rfl ho.length n
    let J:Nat→Act→World→Prop:=fun k a' w'=>k≤m∧a'.defers=a.defers∧∃ ν' S' ω',Sim (C.at (F k) L) { slots:=hs,objs:=ho,nv:=n,known:=[],nb:=ho.length,vb:=n } ν' S' ω' a'.tmps w' ∧
     (sx env me nk dat keep b c { slots:=hs,objs:=ho,nv:=n,known:=[],nb:=ho.length,vb:=n } fun ex σ'=>match ex with
       | .normal=>(match mtch nk env.ti hs ho n σ'.slots σ'.objs with
        | some (th,_,_)=>.jump (me * 100+b+1) th
        | none=>.fail 131)
       | ex=>K' ex σ').Run (RL.of (F k) L) ν' r
    refine wp_loop_ind J (m:=m) ?_ ⟨Nat.le_refl _,rfl,_,_,ω1,h1,hbody⟩
    rintro k a1 w1 ⟨hkm,hd1,ν1,S1,ω2,h2,hr2⟩
    refine ih k (Nat.le_trans hkm hm) ⟨rfl,rfl⟩ h2 hr2 fun ex σ' ν' S' ω' a' w' ht' hd' h' hr'=>?_
    cases ex with
    | normal =>
     simp only at hr'
     split at hr'
     · rename_i th' rho' lent' hmt'
       rw [hti] at hmt'
       obtain ⟨ω3,h3⟩:=head_sim (C:=C.at (F k) L) h' hk hmt' rfl ho.length n
       obtain ⟨k',rfl,hb'⟩:=hL _ _ hLb k _ _ hr'
       exact ⟨k',by omega,by omega,by rw [hd',hd1],_,_,ω3,h3.reR _,hb'⟩
     · exact hr'.elim
    | exit e =>
     exact hQ (.exit e) σ' ν' S' ω' a' w' ht' (by rw [hd',hd1]) (h'.reR _) (T.Run.mono (hmono' k m hkm) _ hr')
    | ret =>
     exact hQ .ret σ' ν' S' ω' a' w' ht' (by rw [hd',hd1]) (h'.reR _) (T.Run.mono (hmono' k m hkm) _ hr')
 | _ =>
  intro m hm b σ ν S ω a w r Q K' ht h hr hQ
  exact hr.elim
end
end Go.SX
