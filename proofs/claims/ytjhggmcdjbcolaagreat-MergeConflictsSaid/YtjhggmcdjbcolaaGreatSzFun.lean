/-
Functions; the table of all; what a table proves.
-/
import Derived.Test.YtjhggmcdjbcolaaGreatSzCast
set_option linter.unusedVariables false
set_option linter.unusedSimpArgs false
set_option linter.unusedSectionVars false
namespace Go.SX
open Go.RowKit
theorem run_enter {P : Program} {f : FuncId} {fn : Func} {c : Code} (hf : P.funcs[f]? = some fn) (hname : (fn.name == "runtime.NumGoroutine") = false) (hb : fn.body = some c) (args : Array Value) (w : World) :
 (callFunc f args).run P w=.ok (.enter f args) w:=by
 have h1 : fn.name ≠ "runtime.NumGoroutine" := by simpa using hname
 simp [callFunc,hf,h1,hb]
section
variable {C:Cx} {σ:St} {ν:List D} {S:Nat→Prop} {ω:Nat→Option Value} {w:World}
def resRun (tm:Array Value):ResultVar→Sem Value
 | .tmp t=>pure (tm.getD t undef)
 | .cell a t=>do loadVar t (←asAddr (tm.getD a undef))
theorem resultOf_sound (hT:TyOK C.P C.ti) {tm:Array Value} (h:Sim C σ ν S ω tm w) {x:ResultVar} {v:SV} (hx:resultOf C.ti σ x=some v):∃ u,(resRun tm x).run C.P w=.ok u w∧SVR C.ti w S ω ν v u:=by
 cases x with
 | tmp t =>
  simp only [resultOf] at hx
  split at hx
  · rename_i v' hs
    cases hx
    exact ⟨_,rfl,h.slots t _ hs⟩
  · cases hx
 | cell a t =>
  simp only [resultOf] at hx
  split at hx
  · rename_i o hs
    split at hx
    · rename_i cs hob
      obtain ⟨b,hω,hv⟩:=h.slots a _ hs
      obtain ⟨b',t',vs,hω',hh,hcs⟩:=h.objs o _ hob
      rw [hω] at hω'
      cases hω'
      obtain ⟨u,hrun,hu⟩:=load_cells (b:=b) (off:=0) hT hx hcs (fun j u hj=>by
       rw [Nat.zero_add,cell_of_row w b j vs t' (0,0) hh]
       simpa using hj)
      refine ⟨u,?_,hu⟩
      have hrun' : (loadVar t ⟨b,0,none⟩).run C.P w=.ok u w:=by
       simpa [Instr.loadAt,Instr.sureAddr] using hrun
      simp [resRun,hv,asAddr,hrun']
    · cases hx
  · cases hx
theorem resultsOf_sound (hT:TyOK C.P C.ti) {tm:Array Value} (h:Sim C σ ν S ω tm w):∀ {l:List ResultVar} {vs:List SV},resultsOf C.ti σ l=some vs→∃ us,(l.mapM (resRun tm)).run C.P w=.ok us w∧All2 (SVR C.ti w S ω ν) vs us
 | [],vs,hl=>by
  simp only [resultsOf,Option.some.injEq] at hl
  subst hl
  exact ⟨[],rfl,.nil⟩
 | x::l,vs,hl=>by
  simp only [resultsOf] at hl
  split at hl
  · rename_i v vs' h1 h2
    cases hl
    obtain ⟨u,hu,hr⟩:=resultOf_sound hT h h1
    obtain ⟨us,hus,hrs⟩:=resultsOf_sound hT h h2
    refine ⟨u::us,?_,.cons hr hrs⟩
    simp [List.mapM_cons,hu,hus]
  · cases hl
theorem results_run {P:Program} {fn:Func} {tm:Array Value} {us:List Value} (h:(fn.results.toList.mapM (resRun tm)).run P w=.ok us w) :
 (results fn tm).run P w=.ok (if h:us.toArray.size=1 then us.toArray[0] else .tuple us.toArray) w:=by
 have he:results fn tm=(do let vs ←fn.results.mapM (resRun tm); pure (if h:vs.size=1 then vs[0] else .tuple vs)):=by
  unfold results
  congr 1
 rw [he,Array.mapM_eq_mapM_toList]
 simp [h]
end
theorem fun_sound {P:Program} {env:Env} {F:Nat→Nat→List D→List D→Prop} {L:Nat→T→Prop} {m:Nat} (hT:TyOK P env.ti) (hE:∀ t,t∈env.eqt→EqTy P env.ti t) (hD:∀ e:Env,DrawOK e) (hmx:P.follows .mixedOrders=true)
 (hA:∀ k,k≤m→SigsOK P env.ti env.sigs (F k)) (hmono:∀ m l ds r,F m l ds r→F (m+1) l ds r) (hL:∀ l b,L l b→∀ m ds r,F m l ds r→∃ m',m=m'+1∧b.Run (RL.of (F m') L) ds r)
 {i : Nat} {s : Sig} {fn : Func} (hs : env.sigs[i]? = some s) (hfe : env.funcs s.f = some fn) (hf : P.funcs[s.f]? = some fn) (hname : (fn.name == "runtime.NumGoroutine") = false) :
 SigOK P env.ti s fun ds r=>(sxFun env i).Run (RL.of (F m) L) ds r:=by
 intro ν rs vs w S Fo ω hR hEn
 unfold sxFun at hR
 simp only [hs,hfe] at hR
 split at hR
 · rename_i c hb
   refine ⟨.enter s.f vs.toArray,w,run_enter hf hname hb _ _,?_⟩
   refine calls_of_wp hf hb ?_
   let C:Cx:={ P:=P,ti:=env.ti,R:=(RL.of (F m) L),w0:=w,F:=Fo,S0:=S,ω0:=ω }
   have hvl:=hEn.vals.length
   have hsim:Sim C (enter s fn) ν S ω (vs.toArray++Array.replicate (fn.ntmps - vs.toArray.size) undef) w:={
    tsz:=by simp [enter,hvl]
    slots:=fun k x hx=>by
     simp only [enter] at hx
     by_cases hk:k < s.inS.length
     · rw [List.getElem?_append_left hk] at hx
       obtain ⟨v,hv,hr⟩:=hEn.vals.get hx
       have he:(vs.toArray++Array.replicate (fn.ntmps - vs.toArray.size) undef).getD k undef=v:=by
        have hk' : k < vs.length:=by omega
        rw [List.getElem?_eq_getElem hk'] at hv
        simp [hk',Option.some.inj hv,Array.getElem?_append]
       rw [he]
       exact hr
     · rw [List.getElem?_append_right (by omega)] at hx
       have:=List.mem_of_getElem? hx
       rw [List.mem_replicate] at this
       rw [this.2]
       trivial
    nv:=hEn.len
    dom:=hEn.dom
    objs:=hEn.objs
    sep:=hEn.sep
    own:=fun o ob b h1 h2 h3=>let ⟨x,y,z⟩:=hEn.own o ob b h1 h2 h3; ⟨x,y,.inr z⟩
    stab:=hEn.stab
    known:=fun c b hc=>by cases hc
    frame:=Fr.refl w Fo
    smono:=fun b hb=>hb
    sbd:=fun b hb=>.inl hb
    omono:=fun o v hv=>hv }
   have fin:∀ (σ' : St) (ν' : List D) (S' : Nat→Prop) (ω' : Nat→Option Value) (a' : Act) (w' : World),a'.defers=[]→Sim C σ' ν' S' ω' a'.tmps w'→(finish env s fn σ').Run (RL.of (F m) L) ν' rs →
    a'.defers=[]∧∃ v,(results fn a'.tmps).run P w'=.ok v w'∧∃ S2 ω2,Out env.ti s rs w S Fo ω v w' S2 ω2:=by
    intro σ' ν' S' ω' a' w' hd h hr
    refine ⟨hd,?_⟩
    unfold finish at hr
    split at hr
    · rename_i vs' hv'
      split at hr
      · rename_i th rho lent hm
        obtain ⟨us,hus,hvr⟩:=resultsOf_sound (C:=C) hT h hv'
        obtain ⟨ω2,m1,m2,m3,m4,m5,m6,m7,m8,m9,m10,m11,m12,m13⟩:=mtch_sound h.objs hm
        obtain ⟨o1,o2⟩:=match_own h m1 m2 m5 m7 m10 m11 m12
        have hf:=h.freeze lent m7
        have hvals:=m8 us (All2.mapL hvr)
        have hrs:rs=th.map (E.den ν'):=hr
        refine ⟨_,results_run hus,SL S' ω' lent,ω2,{
         frame:=h.frame
         smono:=fun b hb=>.inl (h.smono b hb)
         sbd:=fun b hb=>hf.sbd b hb
         stab:=hf.stab
         omono:=fun o v hv=>by rw [m1 o o (m13 o (hEn.dom o v hv))]; exact h.omono o v hv
         dom:=fun o v hv=>by
          rcases Nat.lt_or_ge o s.outO.length with hlt | hge
          · exact hlt
          · rw [m3 o (List.getElem?_eq_none (by rw [m5]; exact hge))] at hv; cases hv
         vals:=by
          rw [hrs]
          have hv2:All2 (SVR env.ti w' (SL S' ω' lent) ω2 (th.map (E.den ν'))) s.outS us:=(All2.of_map hvals).imp fun _ _ h=>h
          have hl2:=hv2.length
          unfold ResR
          split
          · rename_i x hx
            rw [hx] at hv2
            cases hv2 with
            | cons h1 h2 =>
             cases h2
             simpa using h1
          · rename_i hne
            refine ⟨us,?_,hv2⟩
            rw [dif_neg]
            intro h1
            rw [List.size_toArray,←hl2] at h1
            obtain ⟨x,hx⟩:=List.length_eq_one_iff.1 h1
            exact hne x hx
         objs:=by rw [hrs]; exact m9
         sep:=o1
         own:=fun o ob b h1 h2 h3=>let ⟨a,b,c,_⟩:=o2 o ob b h1 h2 h3; ⟨a,b,c⟩ }⟩
      · exact hr.elim
    · exact hr.elim
   refine sx_sound (C:=C) (N:=m) (env:={ env with deepT:=(env.deepF.filter fun p=>p.1 == s.f).map (·.2),ren:=(s.outO.take s.inO.length).zipIdx.filterMap fun (x,o)=>if x=.dead then some o else none }) rfl hT hE (hD _) hmx hA hmono hL hEn.dom c m (Nat.le_refl _) (a:={ tmps:=vs.toArray++Array.replicate (fn.ntmps - vs.toArray.size) undef,defers:=[] }) ⟨rfl,rfl⟩ hsim hR fun ex σ' ν' S' ω' a' w' ht' hd' h' hr'=>?_
   cases ex with
   | normal=>exact fin σ' ν' S' ω' a' w' hd' h' hr'
   | ret=>exact fin σ' ν' S' ω' a' w' hd' h' hr'
   | exit e=>exact hr'.elim
 · exact hR.elim
/-! ### Tables -/
def Fn (tbl:Nat→Option T) (prim:Nat→List D→List D→Prop):Nat→Nat→List D→List D→Prop
 | 0,_,_,_=>False
 | n+1,l,ds,r=>match tbl l with
  | some t=>t.Run (RL.of (Fn tbl prim n) fun _ _=>True) ds r
  | none=>prim l ds r
def Ev (tbl:Nat→Option T) (prim:Nat→List D→List D→Prop) (l:Nat) (ds r:List D):Prop:=∃ n,Fn tbl prim n l ds r
section
variable {tbl:Nat→Option T} {prim:Nat→List D→List D→Prop}
theorem Fn.mono:∀ (m l:Nat) (ds r:List D),Fn tbl prim m l ds r→Fn tbl prim (m+1) l ds r
 | 0,l,ds,r,h=>h.elim
 | m+1,l,ds,r,h=>by
  unfold Fn at h ⊢
  split at h
  · rename_i t ht
    exact T.Run.mono (fun l ds r h=>Fn.mono m l ds r h) t h
  · exact h
theorem Fn.mono' {m m' : Nat} (hle:m≤m'):∀ (l:Nat) (ds r:List D),Fn tbl prim m l ds r→Fn tbl prim m' l ds r:=by
 induction hle with
 | refl=>intro l ds r h; exact h
 | step _ ih=>intro l ds r h; exact Fn.mono _ _ _ _ (ih l ds r h)
def LoopsOK (tbl:Nat→Option T) (t:T):Prop:=∀ p,p∈loops t→tbl p.1=some p.2
def LL (tbl:Nat→Option T) (l:Nat) (b:T):Prop:=tbl l=some (strip b)∧LoopsOK tbl b
theorem strip_run {n:Nat}:∀ (t:T) {ν r:List D},LoopsOK tbl t→(strip t).Run (RL.of (Fn tbl prim n) fun _ _=>True) ν r→t.Run (RL.of (Fn tbl prim n) (LL tbl)) ν r
 | .fail _,ν,r,hl,h=>h
 | .miss ..,ν,r,hl,h=>h
 | .br c t f,ν,r,hl,h=>by
  simp only [strip,T.Run] at h ⊢
  split
  · rename_i hc; rw [if_pos hc] at h; exact strip_run t (fun p hp=>hl p (by simp [loops,hp])) h
  · rename_i hc; rw [if_neg hc] at h; exact strip_run f (fun p hp=>hl p (by simp [loops,hp])) h
 | .am c t f,ν,r,hl,h=>⟨strip_run f (fun p hp=>hl p (by simp [loops,hp])) h.1,fun hc=>strip_run t (fun p hp=>hl p (by simp [loops,hp])) (h.2 hc)⟩
 | .ck c t,ν,r,hl,h=>⟨h.1,strip_run t hl h.2⟩
 | .call g k as t,ν,r,hl,h=>by
  obtain ⟨rs,h1,h2,h3⟩:=h
  exact ⟨rs,h1,h2,strip_run t hl h3⟩
 | .jump l as,ν,r,hl,h=>h
 | .loop l as b,ν,r,hl,h=>by
  have h1:tbl l=some (strip b):=hl (l,strip b) (by simp [loops])
  have h2:LoopsOK tbl b:=fun p hp=>hl p (by simp [loops,hp])
  refine ⟨⟨h1,h2⟩,?_⟩
  have h3:Fn tbl prim n l (as.map (E.den ν)) r:=h
  cases n with
  | zero=>exact h3.elim
  | succ n =>
   unfold Fn at h3
   simp only [h1] at h3
   exact strip_run b h2 (T.Run.mono (fun l ds r h=>Fn.mono n l ds r h) _ h3)
 | .ret xs,ν,r,hl,h=>h
 | .leaf δ,ν,r,hl,h=>h
def TabOK (P:Program) (env:Env) (tbl:Nat→Option T) (prim:Nat→List D→List D→Prop):Prop:=∀ i s,env.sigs[i]?=some s →
 (tbl (i * 100) = some (strip (sxFun env i)) ∧ LoopsOK tbl (sxFun env i) ∧ ∃ fn, env.funcs s.f = some fn ∧ P.funcs[s.f]? = some fn ∧ (fn.name == "runtime.NumGoroutine") = false) ∨
 (tbl (i * 100)=none∧SigOK P env.ti s (prim (i * 100))) ∨
 (∃ j s',env.sigs[j]?=some s'∧castB s s'=true∧tbl (i * 100)=some (castT j s))
theorem table_sound {P:Program} {env:Env} (hT:TyOK P env.ti) (hE:∀ t,t∈env.eqt→EqTy P env.ti t) (hD:∀ e:Env,DrawOK e) (hmx:P.follows .mixedOrders=true) (hTab:TabOK P env tbl prim):∀ N,SigsOK P env.ti env.sigs (Fn tbl prim N):=by
 intro N
 induction N using Nat.strongRecOn with
 | _ N ih =>
  intro i s hs
  cases N with
  | zero=>intro ν rs vs w S F ω hR; exact hR.elim
  | succ n =>
   rcases hTab i s hs with ⟨h1,h2,fn,h3,h4,h5⟩ | ⟨h1,h2⟩ | ⟨j,s',g1,g2,g3⟩
   · have key:=fun_sound (F:=Fn tbl prim) (L:=LL tbl) (m:=n) hT hE hD hmx (fun k hk=>ih k (by omega)) Fn.mono (fun l b hLb m ds r hr=>by
      cases m with
      | zero=>exact hr.elim
      | succ m =>
       unfold Fn at hr
       simp only [hLb.1] at hr
       exact ⟨m,rfl,strip_run b hLb.2 hr⟩) hs h3 h4 h5
     intro ν rs vs w S F ω hR hEn
     refine key ν rs vs w S F ω ?_ hEn
     unfold Fn at hR
     simp only [h1] at hR
     exact strip_run _ h2 hR
   · intro ν rs vs w S F ω hR hEn
     refine h2 ν rs vs w S F ω ?_ hEn
     unfold Fn at hR
     simp only [h1] at hR
     exact hR
   · refine cast_sound g2 (ih n (by omega) j s' g1) fun ν rs hν hR=>?_
     unfold Fn at hR
     simp only [g3] at hR
     exact castT_run hν hR
theorem sig_sound {P:Program} {env:Env} (hT:TyOK P env.ti) (hE:∀ t,t∈env.eqt→EqTy P env.ti t) (hD:∀ e:Env,DrawOK e) (hmx:P.follows .mixedOrders=true) (hTab:TabOK P env tbl prim) {i:Nat} {s:Sig} (hs:env.sigs[i]?=some s):SigOK P env.ti s (Ev tbl prim (i * 100)) :=
 fun ν rs vs w S F ω ⟨n,hn⟩ hEn=>table_sound hT hE hD hmx hTab n i s hs ν rs vs w S F ω hn hEn
theorem Ev.intro {l:Nat} {t:T} (ht:tbl l=some t) {ds r:List D} (h:∃ n,t.Run (RL.of (Fn tbl prim n) fun _ _=>True) ds r):Ev tbl prim l ds r:=by
 obtain ⟨n,h⟩:=h
 refine ⟨n+1,?_⟩
 unfold Fn
 simp only [ht]
 exact h
end
end Go.SX
