/-
Calls: what a function at a shape promises; how a call is taken into a state.
-/
import Derived.Test.YtjhggmcdjbcolaaGreatSzClear
set_option linter.unusedVariables false
set_option linter.unusedSimpArgs false
set_option linter.unusedSectionVars false
namespace Go.SX
open Go.RowKit
/-! ### Known variables -/
theorem E.low_den {x:E} {n:Nat} (h:x.low n=true) {ν:List D} (hn:ν.length=n) (μ:List D):x.den (ν++μ)=x.den ν:=by
 induction x with
 | v j =>
  simp only [E.low,decide_eq_true_eq] at h
  simp only [E.den]
  rw [List.getD_eq_getElem?_getD,List.getD_eq_getElem?_getD,List.getElem?_append_left (by omega)]
 | o1 o x ih=>simp only [E.low] at h; simp only [E.den,ih h]
 | o2 o x y ih1 ih2=>simp only [E.low,Bool.and_eq_true] at h; simp only [E.den,ih1 h.1,ih2 h.2]
 | o3 o x y z ih1 ih2 ih3=>simp only [E.low,Bool.and_eq_true] at h; simp only [E.den,ih1 h.1.1,ih2 h.1.2,ih3 h.2]
 | _=>rfl
section
variable {ti:TypeId→TI} {w:World} {S:Nat→Prop} {ω:Nat→Option Value} {ν:List D} {n:Nat}
theorem RdP.low {ks:List (K × E)} {v:Value} (h:RdP ti w S ν ks v) (hl:(ks.all fun p=>p.2.low n)=true) (hn:ν.length=n) (μ:List D):RdP ti w S (ν++μ) ks v:=by
 obtain ⟨b,off,rfl,hb,hc⟩:=h
 refine ⟨b,off,rfl,hb,fun c k x hx=>?_⟩
 obtain ⟨u,hu,hr⟩:=hc c k x hx
 have:=List.all_eq_true.1 hl (k,x) (List.mem_of_getElem? hx)
 exact ⟨u,hu,by rw [E.low_den this hn]; exact hr⟩
theorem CapR.low {c:Cap} {v:Value} (h:CapR ti w S ω ν c v) (hl:c.low n=true) (hn:ν.length=n) (μ:List D):CapR ti w S ω (ν++μ) c v:=by
 cases c with
 | p o=>exact h
 | r ks=>exact RdP.low h hl hn μ
theorem All2.imp_mem {α β:Type} {R R' : α→β→Prop} {l:List α} {m:List β} (h:All2 R l m) (hR:∀ a b,a∈l→R a b→R' a b):All2 R' l m:=by
 induction h with
 | nil=>exact .nil
 | cons h _ ih=>exact .cons (hR _ _ (by simp) h) (ih fun a b ha hr=>hR a b (by simp [ha]) hr)
theorem SR.low {a:SV1} {v:Value} (h:SR ti w S ω ν a v) (hl:a.low n=true) (hn:ν.length=n) (μ:List D):SR ti w S ω (ν++μ) a v:=by
 cases a with
 | e k x=>show Rd _ _ _ _ _ _; rw [E.low_den hl hn]; exact h
 | po o sz i off =>
  obtain ⟨g,m,cap,h1,h2,h3⟩:=h
  simp only [SV1.low] at hl
  exact ⟨g,m,cap,h1,by rw [E.low_den hl hn]; exact h2,by rw [E.low_den hl hn]; exact h3⟩
 | r ks=>exact RdP.low h hl hn μ
 | ow o sz lo =>
  simp only [SV1.low] at hl
  simp only [SR,E.low_den hl hn]
  exact h
 | pd o sz i off =>
  simp only [SV1.low] at hl
  simp only [SR,E.low_den hl hn]
  exact h
 | nst o ts i c t =>
  simp only [SV1.low] at hl
  simp only [SR,E.low_den hl hn]
  exact h
 | pn o ts i c t k =>
  simp only [SV1.low,Bool.and_eq_true] at hl
  simp only [SR,E.low_den hl.1 hn,E.low_den hl.2 hn]
  exact h
 | fn g cs =>
  obtain ⟨cv,rfl,hc⟩:=h
  exact ⟨cv,rfl,hc.imp_mem fun c v hm hr=>CapR.low hr (List.all_eq_true.1 hl c hm) hn μ⟩
 | _=>exact h
theorem SVR.low {a:SV} {v:Value} (h:SVR ti w S ω ν a v) (hl:a.low n=true) (hn:ν.length=n) (μ:List D):SVR ti w S ω (ν++μ) a v:=by
 cases a with
 | c a=>exact SR.low h hl hn μ
 | ag l =>
  obtain ⟨cs,rfl,hc⟩:=h
  exact ⟨cs,rfl,hc.imp_mem fun c v hm hr=>SR.low hr (List.all_eq_true.1 hl c hm) hn μ⟩
theorem SlotR.low {a:Slot} {v:Value} (h:SlotR ti w S ω ν a v) (hl:a.low n=true) (hn:ν.length=n) (μ:List D):SlotR ti w S ω (ν++μ) a v:=by
 cases a with
 | v a=>exact SVR.low h hl hn μ
 | tup l =>
  obtain ⟨cs,rfl,hc⟩:=h
  exact ⟨cs,rfl,hc.imp_mem fun c v hm hr=>SVR.low hr (List.all_eq_true.1 hl c hm) hn μ⟩
 | _=>exact h
theorem ObjR.low {o:Nat} {ob:SObj} (h:ObjR ti w S ω ν o ob) (hl:ob.low n=true) (hn:ν.length=n) (μ:List D):ObjR ti w S ω (ν++μ) o ob:=by
 cases ob with
 | box cs =>
  obtain ⟨b,t,vs,h1,h2,h3⟩:=h
  exact ⟨b,t,vs,h1,h2,h3.imp_mem fun c v hm hr=>SR.low hr (List.all_eq_true.1 hl c hm) hn μ⟩
 | row t x =>
  obtain ⟨v,e,agg,lv,ds,vs,h1,h2,h3,h4,h5⟩:=h
  simp only [SObj.low] at hl
  exact ⟨v,e,agg,lv,ds,vs,h1,h2,by rw [E.low_den hl hn]; exact h3,h4,h5⟩
 | fro t x =>
  obtain ⟨v,h1,h2⟩:=h
  simp only [SObj.low] at hl
  exact ⟨v,h1,by rw [E.low_den hl hn]; exact h2⟩
 | dead=>trivial
 | deep t x =>
  obtain ⟨u,e,lv,ds,h1,h2,h3,h4⟩:=h
  simp only [SObj.low] at hl
  exact ⟨u,e,lv,ds,h1,h2,by rw [E.low_den hl hn]; exact h3,h4⟩
 | fbox ks =>
  obtain ⟨b,h1,h2⟩:=h
  exact ⟨b,h1,RdP.low h2 hl hn μ⟩
end
theorem Sim.more {C:Cx} {σ:St} {ν:List D} {S:Nat→Prop} {ω:Nat→Option Value} {tm:Array Value} {w:World} (h:Sim C σ ν S ω tm w) (hl:σ.low=true) (μ:List D) (k:Nat) (hk:μ.length=k) :
 Sim C { σ with nv:=σ.nv+k } (ν++μ) S ω tm w:=by
 unfold St.low at hl
 simp only [Bool.and_eq_true,List.all_eq_true] at hl
 obtain ⟨⟨h1,h2⟩,h3⟩:=hl
 exact {
  tsz:=h.tsz
  slots:=fun i s hs=>(h.slots i s hs).low (h1 s (List.mem_of_getElem? hs)) h.nv μ
  nv:=by rw [List.length_append,h.nv,hk]
  dom:=h.dom
  objs:=fun o ob ho=>(h.objs o ob ho).low (h2 ob (List.mem_of_getElem? ho)) h.nv μ
  sep:=h.sep
  own:=h.own
  stab:=h.stab
  known:=fun c b hc=>by rw [E.low_den (h3 _ hc) h.nv]; exact h.known c b hc
  frame:=h.frame
  smono:=h.smono
  sbd:=h.sbd
  omono:=h.omono }
/-! ### What a function promises -/
structure Entry (ti:TypeId→TI) (s:Sig) (ν:List D) (vs:List Value) (w:World) (S F:Nat→Prop) (ω:Nat→Option Value):Prop where
 len:ν.length=s.nIn
 vals:All2 (SlotR ti w S ω ν) s.inS vs
 dom:∀ o v,ω o=some v→o < s.inO.length
 objs:∀ o ob,s.inO[o]?=some ob→ObjR ti w S ω ν o ob
 sep:∀ o o' ob ob' b,s.inO[o]?=some ob→s.inO[o']?=some ob'→ob.live=true→ob'.live=true→OwnB (ω o) b→OwnB (ω o') b→o=o'
 own:∀ o ob b,s.inO[o]?=some ob→ob.live=true→OwnB (ω o) b→¬ S b∧b < w.heap.size∧F b
 stab:∀ b,S b→b < w.heap.size
def ResR (ti:TypeId→TI) (w:World) (S:Nat→Prop) (ω:Nat→Option Value) (ν:List D) (l:List SV) (v:Value):Prop:=match l with
 | [a]=>SVR ti w S ω ν a v
 | l=>∃ us:List Value,v=.tuple us.toArray∧All2 (SVR ti w S ω ν) l us
structure Out (ti:TypeId→TI) (s:Sig) (rs:List D) (w:World) (S F:Nat→Prop) (ω:Nat→Option Value) (v:Value) (w' : World) (S' : Nat→Prop) (ω' : Nat→Option Value):Prop where
 frame:Fr w F w'
 smono:∀ b,S b→S' b
 sbd:∀ b,S' b→S b ∨ w.heap.size≤b ∨ F b
 stab:∀ b,S' b→b < w'.heap.size
 omono:∀ o v,ω o=some v→ω' o=some v
 dom:∀ o v,ω' o=some v→o < s.outO.length
 vals:ResR ti w' S' ω' rs s.outS v
 objs:∀ o ob,s.outO[o]?=some ob→ObjR ti w' S' ω' rs o ob
 sep:∀ o o' ob ob' b,s.outO[o]?=some ob→s.outO[o']?=some ob'→ob.live=true→ob'.live=true→OwnB (ω' o) b→OwnB (ω' o') b→o=o'
 own:∀ o ob b,s.outO[o]?=some ob→ob.live=true→OwnB (ω' o) b→¬ S' b∧b < w'.heap.size∧(w.heap.size≤b ∨ F b)
def Goes (P:Program) (f:FuncId) (args:Array Value) (w:World) (R:Value→World→Prop):Prop :=
 ∃ nx w1,(callFunc f args).run P w=.ok nx w1∧match nx with
  | .value v=>R v w1
  | .enter f' args'=>Calls P f' args' w1 fun | .returned v,w'=>R v w' | _,_=>False
  | _=>False
def SigOK (P:Program) (ti:TypeId→TI) (s:Sig) (R:List D→List D→Prop):Prop :=
 ∀ ν rs vs w S F ω,R ν rs→Entry ti s ν vs w S F ω→Goes P s.f vs.toArray w fun v w'=>∃ S' ω',Out ti s rs w S F ω v w' S' ω'
/-! ### Renaming -/
section
variable {ti:TypeId→TI} {w:World} {S:Nat→Prop} {ω ω2:Nat→Option Value} {rs ν:List D} {n:Nat} {ob:Nat→Nat}
theorem E.up_den (x:E) (n:Nat) (ν rs:List D) (h:∀ j,ν.getD (n+j) default=rs.getD j default):(x.up n).den ν=x.den rs:=by
 induction x with
 | v j=>simp only [E.up,E.den]; exact h j
 | o1 o x ih=>simp only [E.up,E.den,ih]
 | o2 o x y ih1 ih2=>simp only [E.up,E.den,ih1,ih2]
 | o3 o x y z ih1 ih2 ih3=>simp only [E.up,E.den,ih1,ih2,ih3]
 | _=>rfl
variable (hν:∀ j,ν.getD (n+j) default=rs.getD j default) (hω:∀ o v,ω o=some v→ω2 (ob o)=some v)
include hν hω
theorem RdP.back {ks:List (K × E)} {v:Value} (h:RdP ti w S rs ks v):RdP ti w S ν (ks.map fun (k,x)=>(k,x.up n)) v:=by
 obtain ⟨b,off,rfl,hb,hc⟩:=h
 refine ⟨b,off,rfl,fun hk=>hb fun he=>hk (by rw [he]; rfl),fun c k x hx=>?_⟩
 rw [List.getElem?_map] at hx
 obtain ⟨⟨k',x'⟩,hq,he⟩:=Option.map_eq_some_iff.1 hx
 simp only [Prod.mk.injEq] at he
 obtain ⟨rfl,rfl⟩:=he
 obtain ⟨u,hu,hr⟩:=hc c k' x' hq
 exact ⟨u,hu,by rw [E.up_den x' n ν rs hν]; exact hr⟩
theorem CapR.back {c:Cap} {v:Value} (h:CapR ti w S ω rs c v):CapR ti w S ω2 ν (c.back n ob) v:=by
 cases c with
 | p o=>obtain ⟨b,h1,h2⟩:=h; exact ⟨b,hω _ _ h1,h2⟩
 | r ks=>exact RdP.back hν hω h
theorem SR.back {a:SV1} {v:Value} (h:SR ti w S ω rs a v):SR ti w S ω2 ν (a.back n ob) v:=by
 cases a with
 | e k x=>show Rd _ _ _ _ _ _; rw [E.up_den x n ν rs hν]; exact h
 | nil t=>exact h
 | p o off=>obtain ⟨b,h1,h2⟩:=h; exact ⟨b,hω _ _ h1,h2⟩
 | own o=>exact ⟨hω _ _ h.1,h.2⟩
 | fn g cs =>
  obtain ⟨cv,rfl,hc⟩:=h
  exact ⟨cv,rfl,All2.mapL (hc.imp fun _ _ h=>CapR.back hν hω h)⟩
 | po o sz i off=>exact SR.one h
 | dp o =>
  obtain ⟨u,h1,h2⟩:=h
  exact ⟨u,hω _ _ h1,h2⟩
 | ow o sz lo=>exact SR.one (a:=.ow o sz lo) h
 | pd o sz i off=>exact SR.one (a:=.pd o sz i off) h
 | nst o ts i c t=>exact SR.one (a:=.nst o ts i c t) h
 | pn o ts i c t k=>exact SR.one (a:=.pn o ts i c t k) h
 | r ks=>exact SR.one (a:=.r ks) (ω:=ω) h
 | u=>exact h
theorem SVR.back {a:SV} {v:Value} (h:SVR ti w S ω rs a v):SVR ti w S ω2 ν (a.back n ob) v:=by
 cases a with
 | c a=>exact SR.back hν hω h
 | ag l =>
  obtain ⟨cs,rfl,hc⟩:=h
  exact ⟨cs,rfl,All2.mapL (hc.imp fun _ _ h=>SR.back hν hω h)⟩
theorem ObjR.back {o:Nat} {x:SObj} (h:ObjR ti w S ω rs o x):ObjR ti w S ω2 ν (ob o) (x.back n ob):=by
 cases x with
 | box cs =>
  obtain ⟨b,t,vs,h1,h2,h3⟩:=h
  exact ⟨b,t,vs,hω _ _ h1,h2,All2.mapL (h3.imp fun _ _ h=>SR.back hν hω h)⟩
 | row t x =>
  obtain ⟨v,e,agg,lv,ds,vs,h1,h2,h3,h4,h5⟩:=h
  exact ⟨v,e,agg,lv,ds,vs,hω _ _ h1,h2,by rw [E.up_den x n ν rs hν]; exact h3,h4,h5⟩
 | fro t x =>
  obtain ⟨v,h1,h2⟩:=h
  exact ⟨v,hω _ _ h1,by rw [E.up_den x n ν rs hν]; exact h2⟩
 | dead=>trivial
 | deep t x =>
  obtain ⟨u,e,lv,ds,h1,h2,h3,h4⟩:=h
  exact ⟨u,e,lv,ds,hω _ _ h1,h2,by rw [E.up_den x n ν rs hν]; exact h3,h4⟩
 | fbox ks =>
  obtain ⟨b,h1,h2⟩:=h
  exact ⟨b,hω _ _ h1,RdP.back hν hω h2⟩
end
theorem SObj.back_live (x:SObj) (n:Nat) (ob:Nat→Nat):(x.back n ob).live=x.live:=by cases x <;> rfl
/-! ### Flat results -/
section
variable {ti:TypeId→TI} {w:World} {S S' : Nat→Prop} {ω:Nat→Option Value} {ν:List D}
theorem K.flat_ne {k:K} (h:k.flat=true):∀ t,k≠.sl t:=by rintro t rfl; cases h
theorem SR.flat {a:SV1} {v:Value} (h:SR ti w S ω ν a v) (hf:a.flat=true):SR ti w S' ω ν a v:=by
 cases a with
 | e k x=>exact Rd.flat h (K.flat_ne hf)
 | r ks=>cases hf
 | fn g cs=>cases hf
 | _=>exact h
theorem SVR.flat {a:SV} {v:Value} (h:SVR ti w S ω ν a v) (hf:a.flat=true):SVR ti w S' ω ν a v:=by
 cases a with
 | c a=>exact SR.flat h hf
 | ag l =>
  obtain ⟨cs,rfl,hc⟩:=h
  exact ⟨cs,rfl,hc.imp_mem fun c v hm hr=>SR.flat hr (List.all_eq_true.1 hf c hm)⟩
theorem ObjR.flat {o:Nat} {x:SObj} (h:ObjR ti w S ω ν o x) (hf:x.flat ti=true):ObjR ti w S' ω ν o x:=by
 cases x with
 | box cs =>
  obtain ⟨b,t,vs,h1,h2,h3⟩:=h
  exact ⟨b,t,vs,h1,h2,h3.imp_mem fun c v hm hr=>SR.flat hr (List.all_eq_true.1 hf c hm)⟩
 | row t x =>
  obtain ⟨v,e,agg,lv,ds,vs,h1,h2,h3,h4,h5⟩:=h
  simp only [SObj.flat,h2] at hf
  exact ⟨v,e,agg,lv,ds,vs,h1,h2,h3,h4,fun j c k hj hk=>(h5 j c k hj hk).flat (K.flat_ne (List.all_eq_true.1 hf k (List.mem_of_getElem? hk)))⟩
 | fro t x=>cases hf
 | dead=>trivial
 | deep t x=>cases hf
 | fbox ks=>cases hf
theorem ResR.flat {l:List SV} {v:Value} (h:ResR ti w S ω ν l v) (hf:l.all SV.flat=true):ResR ti w S' ω ν l v:=by
 have hm:∀ a,a∈l→a.flat=true:=fun a ha=>List.all_eq_true.1 hf a ha
 have tup:∀ {l:List SV},(∀ a,a∈l→a.flat=true)→(∃ us:List Value,v=.tuple us.toArray∧All2 (SVR ti w S ω ν) l us)→∃ us:List Value,v=.tuple us.toArray∧All2 (SVR ti w S' ω ν) l us:=by
  rintro l hm ⟨us,rfl,hc⟩
  exact ⟨us,rfl,hc.imp_mem fun a v ha hr=>SVR.flat hr (hm a ha)⟩
 rcases l with _ | ⟨a,_ | ⟨b,l⟩⟩
 · exact tup hm h
 · exact SVR.flat h (hm _ (by simp))
 · exact tup hm h
theorem ResR.back {ω2:Nat→Option Value} {rs:List D} {n:Nat} {ob:Nat→Nat} (hν:∀ j,ν.getD (n+j) default=rs.getD j default) (hω:∀ o v,ω o=some v→ω2 (ob o)=some v) {l:List SV} {v:Value} (h:ResR ti w S ω rs l v) :
 SlotR ti w S ω2 ν (resSlot n ob l) v:=by
 have tup:∀ {l:List SV},(∃ us:List Value,v=.tuple us.toArray∧All2 (SVR ti w S ω rs) l us)→SlotR ti w S ω2 ν (.tup (l.map (SV.back n ob))) v:=by
  rintro l ⟨us,rfl,hc⟩
  exact ⟨us,rfl,All2.mapL (hc.imp fun a v hr=>SVR.back hν hω hr)⟩
 rcases l with _ | ⟨a,_ | ⟨b,l⟩⟩
 · exact tup (l:=[]) h
 · exact SVR.back hν hω h
 · exact tup (l:=a::b::l) h
theorem ResR.low {n:Nat} {l:List SV} {v:Value} (h:ResR ti w S ω ν l v) (hl:l.all (SV.low n)=true) (hn:ν.length=n) (μ:List D):ResR ti w S ω (ν++μ) l v:=by
 have hm:∀ a,a∈l→a.low n=true:=fun a ha=>List.all_eq_true.1 hl a ha
 have tup:∀ {l:List SV},(∀ a,a∈l→a.low n=true)→(∃ us:List Value,v=.tuple us.toArray∧All2 (SVR ti w S ω ν) l us)→∃ us:List Value,v=.tuple us.toArray∧All2 (SVR ti w S ω (ν++μ)) l us:=by
  rintro l hm ⟨us,rfl,hc⟩
  exact ⟨us,rfl,hc.imp_mem fun a v ha hr=>SVR.low hr (hm a ha) hn μ⟩
 rcases l with _ | ⟨a,_ | ⟨b,l⟩⟩
 · exact tup hm h
 · exact SVR.low h (hm _ (by simp)) hn μ
 · exact tup hm h
end
/-! ### A call is taken in -/
theorem upds_length (objs:List SObj) (L:List (Nat × SObj)):(upds objs L).length=objs.length:=by
 induction L generalizing objs with
 | nil=>rfl
 | cons p L ih=>rw [upds,ih]; simp
theorem upds_none:∀ (L:List (Nat × SObj)) (objs:List SObj) (o:Nat),(∀ p,p∈L→p.1≠o)→(upds objs L)[o]?=objs[o]?
 | [],objs,o,h=>rfl
 | p::L,objs,o,h=>by
  rw [upds,upds_none L _ o fun q hq=>h q (by simp [hq]),List.getElem?_set_ne (h p (by simp))]
theorem upds_some:∀ (L:List (Nat × SObj)) (objs:List SObj),(L.map (·.1)).Nodup→∀ p,p∈L→p.1 < objs.length→(upds objs L)[p.1]?=some p.2
 | [],objs,hn,p,hp,hl=>by simp at hp
 | q::L,objs,hn,p,hp,hl=>by
  simp only [List.map_cons,List.nodup_cons] at hn
  rw [upds]
  rcases List.mem_cons.1 hp with rfl | hp
  · rw [upds_none L _ _ fun q hq he=>hn.1 (List.mem_map.2 ⟨q,hq,he⟩)]
    simp [hl]
  · exact upds_some L _ hn.2 p hp (by simpa using hl)
section
variable {C:Cx} {σ:St} {ν:List D} {S S2:Nat→Prop} {ω ω1 ω' : Nat→Option Value} {tm:Array Value} {w w' : World} {s:Sig} {rho:List (Option Nat)} {rs:List D}
def F1 (s:Sig) (rho:List (Option Nat)) (ω:Nat→Option Value) (b:Nat):Prop:=∃ (o a:Nat),o < s.inO.length∧rho[o]?=some (some a)∧OwnB (ω a) b
def upd2 (s:Sig) (nb:Nat) (ω ω' : Nat→Option Value) (o:Nat):Option Value:=if nb≤o∧o < nb+(s.outO.length - s.inO.length) then ω' (o - nb+s.inO.length) else ω o
theorem backO_in {o a nb:Nat} (ho:o < s.inO.length) (h:rho[o]?=some (some a)):backO s rho nb o=a:=by simp [backO,ho,h]
theorem backO_new {o nb:Nat} (ho:¬ o < s.inO.length):backO s rho nb o=nb+(o - s.inO.length):=by simp [backO,ho]
theorem call_sim (h:Sim C σ ν S ω tm w) (hnb:NbOK σ ω (s.outO.length - s.inO.length)) (hlen:s.inO.length≤s.outO.length)
 (hall:∀ o,o < s.inO.length→∃ a,rho[o]?=some (some a)∧a < σ.objs.length∧(a < σ.nb ∨ σ.nb+(s.outO.length - s.inO.length)≤a)) (hrl:rho.length=s.inO.length)
 (hω1:∀ (o a:Nat),rho[o]?=some (some a)→ω1 o=ω a) (hlive1:∀ o,o < s.inO.length→∃ v,ω1 o=some v)
 (hlive:∀ (o a:Nat),rho[o]?=some (some a)→∃ ob:SObj,σ.objs[a]?=some ob∧ob.live=true)
 (hinj:∀ (i j a:Nat),rho[i]?=some (some a)→rho[j]?=some (some a)→i=j)
 (hν:∀ j,ν.getD (σ.vb+j) default=rs.getD j default)
 (fr:Fr w (F1 s rho ω) w') (hS:∀ b,S b→S2 b) (hS2:∀ b,S2 b→S b ∨ w.heap.size≤b ∨ F1 s rho ω b) (hst:∀ b,S2 b→b < w'.heap.size)
 (om:∀ o v,ω1 o=some v→ω' o=some v) (dom' : ∀ o v,ω' o=some v→o < s.outO.length)
 (objs' : ∀ o ob,s.outO[o]?=some ob→ObjR C.ti w' S2 ω' rs o ob)
 (sep' : ∀ o o' ob ob' b,s.outO[o]?=some ob→s.outO[o']?=some ob'→ob.live=true→ob'.live=true→OwnB (ω' o) b→OwnB (ω' o') b→o=o')
 (own' : ∀ o ob b,s.outO[o]?=some ob→ob.live=true→OwnB (ω' o) b→¬ S2 b∧b < w'.heap.size∧(w.heap.size≤b ∨ F1 s rho ω b)) :
 Sim C { σ with objs:=place (upds σ.objs ((s.outO.take s.inO.length).zipIdx.map fun (x,o)=>(backO s rho σ.nb o,x.back σ.vb (backO s rho σ.nb)))) σ.nb ((s.outO.drop s.inO.length).map (SObj.back σ.vb (backO s rho σ.nb))) }
  ν S2 (upd2 s σ.nb ω ω') tm w'∧(∀ o v,ω' o=some v→upd2 s σ.nb ω ω' (backO s rho σ.nb o)=some v)∧NewAt σ ω (upd2 s σ.nb ω ω') (s.outO.length - s.inO.length):=by
 -- handles
 have hob:∀ o,o < s.outO.length→upd2 s σ.nb ω ω' (backO s rho σ.nb o)=ω' o:=by
  intro o ho
  by_cases hi:o < s.inO.length
  · obtain ⟨a,h1,h2,h3⟩:=hall o hi
    obtain ⟨v,hv⟩:=hlive1 o hi
    rw [backO_in hi h1,om o v hv,←hv,hω1 o a h1]
    unfold upd2
    rw [if_neg (by omega)]
  · rw [backO_new hi]
    unfold upd2
    rw [if_pos (by omega)]
    congr 1
    omega
 have hω2:∀ o v,ω' o=some v→upd2 s σ.nb ω ω' (backO s rho σ.nb o)=some v:=fun o v hv=>by rw [hob o (dom' o v hv)]; exact hv
 have hle:∀ o v,ω o=some v→upd2 s σ.nb ω ω' o=some v:=by
  intro o v hv
  unfold upd2
  split
  · rename_i hr
    have:=(hnb.2 (o - σ.nb) (by omega)).1
    rw [show σ.nb+(o - σ.nb)=o by omega,hv] at this
    cases this
  · exact hv
 have hF1:∀ b,F1 s rho ω b→∃ (a:Nat) (ob:SObj),(∃ o:Nat,rho[o]?=some (some a))∧σ.objs[a]?=some ob∧ob.live=true∧OwnB (ω a) b:=by
  rintro b ⟨o,a,_,h1,h2⟩
  obtain ⟨ob,h3,h4⟩:=hlive o a h1
  exact ⟨a,ob,⟨o,h1⟩,h3,h4,h2⟩
 have hnS:∀ b,S b→¬ F1 s rho ω b:=by
  intro b hb hf
  obtain ⟨a,ob,_,h1,h2,h3⟩:=hF1 b hf
  exact (h.own a ob b h1 h2 h3).1 hb
 have hstab:∀ b,S b→w'.heap[b]?=w.heap[b]?:=fun b hb=>fr.block b (h.stab b hb) (hnS b hb)
 -- the objects
 generalize hL:((s.outO.take s.inO.length).zipIdx.map fun (x,o)=>(backO s rho σ.nb o,x.back σ.vb (backO s rho σ.nb)))=L
 generalize hN:(s.outO.drop s.inO.length).map (SObj.back σ.vb (backO s rho σ.nb))=N
 have hNl:N.length=s.outO.length - s.inO.length:=by rw [←hN]; simp
 have hLmem:∀ p,p∈L→∃ (o:Nat) (x:SObj),o < s.inO.length∧s.outO[o]?=some x∧p=(backO s rho σ.nb o,x.back σ.vb (backO s rho σ.nb)):=by
  intro p hp
  rw [←hL] at hp
  obtain ⟨⟨x,o⟩,hx,rfl⟩:=List.mem_map.1 hp
  have:=List.mem_zipIdx_iff_getElem?.1 hx
  simp only at this
  rw [List.getElem?_take] at this
  split at this
  · rename_i hlt; exact ⟨o,x,hlt,this,rfl⟩
  · cases this
 have hLin:∀ (o:Nat) (x:SObj),o < s.inO.length→s.outO[o]?=some x→(backO s rho σ.nb o,x.back σ.vb (backO s rho σ.nb))∈L:=by
  intro o x hi hx
  rw [←hL]
  refine List.mem_map.2 ⟨(x,o),List.mem_zipIdx_iff_getElem?.2 ?_,rfl⟩
  rw [List.getElem?_take,if_pos hi]
  exact hx
 have hnd:(L.map (·.1)).Nodup:=by
  rw [←hL,List.map_map]
  have:((s.outO.take s.inO.length).zipIdx.map ((fun x=>x.1) ∘ fun (x,o)=>(backO s rho σ.nb o,x.back σ.vb (backO s rho σ.nb))))=(List.range (s.outO.take s.inO.length).length).map (backO s rho σ.nb):=by
   apply List.ext_getElem?
   intro i
   rw [List.getElem?_map,List.getElem?_map,List.getElem?_zipIdx]
   by_cases hi:i < (s.outO.take s.inO.length).length
   · rw [List.getElem?_range hi,List.getElem?_eq_getElem hi]
     simp
   · rw [List.getElem?_eq_none (by omega),List.getElem?_eq_none (by rw [List.length_range]; omega)]
     rfl
  rw [this]
  have hll:(s.outO.take s.inO.length).length=s.inO.length:=by rw [List.length_take]; omega
  rw [hll]
  refine List.pairwise_map.2 (List.Pairwise.imp_of_mem ?_ List.nodup_range)
  intro i j hi hj hne hij
  apply hne
  have hi':=List.mem_range.1 hi
  have hj':=List.mem_range.1 hj
  obtain ⟨a,ha,_⟩:=hall i hi'
  obtain ⟨b,hb,_⟩:=hall j hj'
  rw [backO_in hi' ha,backO_in hj' hb] at hij
  subst hij
  exact hinj i j a ha hb
 have hlenU:=upds_length σ.objs L
 have hle' : σ.nb≤(upds σ.objs L).length:=by rw [hlenU]; exact hnb.1
 have cases' : ∀ {o2:Nat} {x:SObj},(place (upds σ.objs L) σ.nb N)[o2]?=some x →
  (∃ (o:Nat) (y:SObj),s.outO[o]?=some y∧x=y.back σ.vb (backO s rho σ.nb)∧o2=backO s rho σ.nb o) ∨
  (σ.objs[o2]?=some x∧(∀ o:Nat,rho[o]?≠some (some o2))∧upd2 s σ.nb ω ω' o2=ω o2):=by
  intro o2 x hx
  rw [place_get _ _ _ _ hle'] at hx
  split at hx
  · rename_i hr
    left
    rw [←hN,List.getElem?_map,List.getElem?_drop] at hx
    obtain ⟨y,hy,rfl⟩:=Option.map_eq_some_iff.1 hx
    exact ⟨_,y,hy,rfl,by rw [backO_new (by omega)]; omega⟩
  · rename_i hr
    by_cases hex:∃ o:Nat,rho[o]?=some (some o2)
    · left
      obtain ⟨o,ho⟩:=hex
      have hi:o < s.inO.length:=by rw [←hrl]; exact (List.getElem?_eq_some_iff.1 ho).1
      obtain ⟨a,h1,h2,h3⟩:=hall o hi
      rw [ho] at h1
      cases h1
      have hio:o < s.outO.length:=by omega
      have:=upds_some L σ.objs hnd _ (hLin o _ hi (List.getElem?_eq_getElem hio)) (by simp only [backO_in hi ho]; exact h2)
      simp only [backO_in hi ho] at this
      rw [this] at hx
      exact ⟨o,_,List.getElem?_eq_getElem hio,(Option.some.inj hx).symm,(backO_in hi ho).symm⟩
    · right
      have hno:∀ o:Nat,rho[o]?≠some (some o2):=fun o ho=>hex ⟨o,ho⟩
      rw [upds_none L σ.objs o2 (fun p hp he=>by
       obtain ⟨o,y,hi,hy,rfl⟩:=hLmem p hp
       obtain ⟨a,h1,_⟩:=hall o hi
       simp only [backO_in hi h1] at he
       subst he
       exact hno o h1)] at hx
      refine ⟨hx,hno,?_⟩
      unfold upd2
      rw [if_neg (by omega)]
 have notF1:∀ {o2:Nat} {x:SObj} {b:Nat},σ.objs[o2]?=some x→x.live=true→(∀ o:Nat,rho[o]?≠some (some o2))→OwnB (ω o2) b→¬ F1 s rho ω b:=by
  intro o2 x b hx hl hno hb hf
  obtain ⟨a,ob,⟨o,ho⟩,h1,h2,h3⟩:=hF1 b hf
  have:=h.sep a o2 ob x b h1 hx h2 hl h3 hb
  subst this
  exact hno o ho
 refine ⟨?_,hω2,?_⟩
 · exact {
    tsz:=h.tsz
    slots:=fun i x hx=>(h.slots i x hx).mono hstab hS hle
    nv:=h.nv
    dom:=fun o v hv=>by
     show o < (place (upds σ.objs L) σ.nb N).length
     rw [place_length _ _ _ hle',hlenU,hNl]
     unfold upd2 at hv
     split at hv
     · omega
     · have:=h.dom o v hv; omega
    objs:=fun o2 x hx=>by
     rcases cases' hx with ⟨o,y,hy,rfl,rfl⟩ | ⟨h1,h2,h3⟩
     · exact ObjR.back hν hω2 (objs' o y hy)
     · exact (h.objs o2 x h1).mono hstab hS hle fun hl b hb=>fr.block b (h.own o2 x b h1 hl hb).2.1 (notF1 h1 hl h2 hb)
    sep:=fun o o' x x' b g1 g2 g3 g4 g5 g6=>by
     have mix:∀ {p:Nat} {y:SObj} {o2:Nat} {z:SObj},s.outO[p]?=some y→y.live=true→upd2 s σ.nb ω ω' (backO s rho σ.nb p)=ω' p→OwnB (ω' p) b→σ.objs[o2]?=some z→z.live=true→(∀ o:Nat,rho[o]?≠some (some o2))→OwnB (ω o2) b→False:=by
      intro p y o2 z hy hyl _ hb1 hz hzl hno hb2
      rcases (own' p y b hy hyl hb1).2.2 with hge | hf
      · exact Nat.lt_irrefl _ (Nat.lt_of_lt_of_le (h.own o2 z b hz hzl hb2).2.1 hge)
      · exact notF1 hz hzl hno hb2 hf
     rcases cases' g1 with ⟨p,y,hy,rfl,rfl⟩ | ⟨h1,h2,h3⟩ <;> rcases cases' g2 with ⟨p',y',hy',rfl,rfl⟩ | ⟨k1,k2,k3⟩
     · rw [SObj.back_live] at g3 g4
       have hp:=hob p (List.getElem?_eq_some_iff.1 hy).1
       have hp':=hob p' (List.getElem?_eq_some_iff.1 hy').1
       rw [hp] at g5
       rw [hp'] at g6
       rw [sep' p p' y y' b hy hy' g3 g4 g5 g6]
     · rw [SObj.back_live] at g3
       have hp:=hob p (List.getElem?_eq_some_iff.1 hy).1
       rw [hp] at g5
       rw [k3] at g6
       exact (mix hy g3 hp g5 k1 g4 k2 g6).elim
     · rw [SObj.back_live] at g4
       have hp':=hob p' (List.getElem?_eq_some_iff.1 hy').1
       rw [h3] at g5
       rw [hp'] at g6
       exact (mix hy' g4 hp' g6 h1 g3 h2 g5).elim
     · rw [h3] at g5
       rw [k3] at g6
       exact h.sep o o' x x' b h1 k1 g3 g4 g5 g6
    own:=fun o2 x b g1 g2 g3=>by
     rcases cases' g1 with ⟨p,y,hy,rfl,rfl⟩ | ⟨h1,h2,h3⟩
     · rw [SObj.back_live] at g2
       rw [hob p (List.getElem?_eq_some_iff.1 hy).1] at g3
       obtain ⟨q1,q2,q3⟩:=own' p y b hy g2 g3
       refine ⟨q1,q2,?_⟩
       rcases q3 with q3 | q3
       · exact .inl (Nat.le_trans h.frame.size q3)
       · obtain ⟨a,ob,_,r1,r2,r3⟩:=hF1 b q3
         exact (h.own a ob b r1 r2 r3).2.2
     · rw [h3] at g3
       obtain ⟨q1,q2,q3⟩:=h.own o2 x b h1 g2 g3
       refine ⟨fun hs2=>?_,Nat.lt_of_lt_of_le q2 fr.size,q3⟩
       rcases hS2 b hs2 with hs | hs | hs
       · exact q1 hs
       · omega
       · exact notF1 h1 g2 h2 g3 hs
    stab:=hst
    known:=h.known
    frame:=h.frame.step fr fun b hb hf=>by
     obtain ⟨a,ob,_,r1,r2,r3⟩:=hF1 b hf
     exact (h.own a ob b r1 r2 r3).2.2.resolve_left (by omega)
    smono:=fun b hb=>hS b (h.smono b hb)
    sbd:=fun b hb=>by
     rcases hS2 b hb with hs | hs | hs
     · exact h.sbd b hs
     · exact .inr (.inl (Nat.le_trans h.frame.size hs))
     · obtain ⟨a,ob,_,r1,r2,r3⟩:=hF1 b hs
       exact .inr (h.own a ob b r1 r2 r3).2.2
    omono:=fun o v hv=>hle o v (h.omono o v hv) }
 · intro o ho
   unfold upd2 at ho
   split at ho
   · rename_i hr; exact .inr hr
   · exact .inl ho
end
end Go.SX
