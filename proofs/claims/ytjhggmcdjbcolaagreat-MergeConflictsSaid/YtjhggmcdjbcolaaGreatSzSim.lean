/-
How a state's relation to the world is carried over one step: a slot is filled, a row is frozen, memory is made, an object is written.
-/
import Derived.Test.YtjhggmcdjbcolaaGreatSzMatch
set_option linter.unusedVariables false
set_option linter.unusedSimpArgs false
set_option linter.unusedSectionVars false
namespace Go.SX
open Go.RowKit
def putT (tm:Array Value) (d:Option Tmp) (v:Value):Array Value:=match d with
 | some d=>tm.setIfInBounds d v
 | none=>tm
theorem put_tmps (a:Act) (d:Option Tmp) (v:Value):(a.put d v).tmps=putT a.tmps d v:=by cases d <;> rfl
def setS (l:List Slot) (d:Option Tmp) (s:Slot):List Slot:=match d with
 | some t=>l.set t s
 | none=>l
section
variable {C:Cx} {σ:St} {ν:List D} {S S' : Nat→Prop} {ω ω' : Nat→Option Value} {tm:Array Value} {w w' : World}
theorem Sim.slot (h:Sim C σ ν S ω tm w) (d:Option Tmp) {v:Value} {s:Slot} (hs:SlotR C.ti w S ω ν s v) :
 Sim C { σ with slots:=setS σ.slots d s } ν S ω (putT tm d v) w:=by
 cases d with
 | none=>exact h
 | some d =>
  refine { h with tsz:=?_,slots:=?_ }
  · simp [putT,setS,h.tsz]
  · intro i x hx
    simp only [setS] at hx
    simp only [putT]
    by_cases hd:d=i
    · subst hd
      have hlt:d < σ.slots.length:=by
       have:=(List.getElem?_eq_some_iff.1 hx).1
       simpa using this
      simp [hlt] at hx
      subst hx
      have:(tm.setIfInBounds d v).getD d undef=v:=by simp [h.tsz,hlt]
      rw [this]
      exact hs
    · rw [List.getElem?_set_ne hd] at hx
      have:(tm.setIfInBounds d v).getD i undef=tm.getD i undef:=by simp [Array.getElem?_setIfInBounds_ne hd]
      rw [this]
      exact h.slots i x hx
theorem Sim.learn (h:Sim C σ ν S ω tm w) {kn:List (E × Bool)} (hk:∀ c b,(c,b)∈kn→(c.den ν).toBool=b):Sim C { σ with known:=kn } ν S ω tm w :=
 { h with known:=hk }
theorem freeze_get (objs:List SObj) (l:List Nat) (o:Nat):(freeze objs l)[o]?=(objs[o]?).map fun ob=>if l.contains o then ob.frozen else ob:=by
 unfold freeze
 rw [List.getElem?_map,List.getElem?_zipIdx]
 cases objs[o]? <;> simp
theorem freeze_length (objs:List SObj) (l:List Nat):(freeze objs l).length=objs.length:=by simp [freeze]
theorem Rd.slN {ti:TypeId→TI} {k:K} {d:D} {v:Value} (hw:∀ b,S b→w'.heap[b]?=w.heap[b]?) (hS:∀ b,S b→S' b) (h:Rd ti w S k d v):Rd ti w' S' k d v:=h.mono hw hS
theorem NCell.mono {ti:TypeId→TI} {k:K} {d:D} {v:Value} (h:NCell ti w k d v) (hb:∀ b,nblk v b→w'.heap[b]?=w.heap[b]?):NCell ti w' k d v:=by
 cases k with
 | sl t =>
  obtain ⟨e,k',ns,hti,hf,rfl,⟨a,cap,rfl⟩,hn⟩:=h
  refine ⟨e,k',ns,hti,hf,rfl,⟨a,cap,rfl⟩,fun h0=>?_⟩
  obtain ⟨us,hown,hr⟩:=hn h0
  refine ⟨us,⟨hown.1,?_⟩,fun j hj=>(hr j hj).mono (fun _ h=>h.elim) fun _ h=>h⟩
  rcases hown.2 with h4 | ⟨g,cap',cur,h8,hb0,hh,hr⟩
  · exact .inl h4
  · exact .inr ⟨g,cap',cur,h8,hb0,by rw [hb g (by rw [h8]; exact ⟨fun h=>h0 (List.eq_nil_of_length_eq_zero h),rfl⟩)]; exact hh,hr⟩
 | _=>exact Rd.mono h (fun _ h=>h.elim) fun _ h=>h
theorem ObjR.mono {ti:TypeId→TI} {o:Nat} {ob:SObj} (h:ObjR ti w S ω ν o ob) (hw:∀ b,S b→w'.heap[b]?=w.heap[b]?) (hS:∀ b,S b→S' b) (hω:∀ o v,ω o=some v→ω' o=some v)
 (hb:ob.live=true→∀ b,OwnB (ω o) b→w'.heap[b]?=w.heap[b]?):ObjR ti w' S' ω' ν o ob:=by
 cases ob with
 | box cs =>
  obtain ⟨b,t,vs,h1,h2,h3⟩:=h
  exact ⟨b,t,vs,hω _ _ h1,by rw [hb rfl b (by rw [h1]; rfl)]; exact h2,h3.imp fun _ _ h=>h.mono hw hS hω⟩
 | row t x =>
  obtain ⟨v,e,agg,lv,ds,vs,h1,h2,h3,h4,h5⟩:=h
  refine ⟨v,e,agg,lv,ds,vs,hω _ _ h1,h2,h3,?_,h5.mono hw hS⟩
  refine ⟨h4.1,?_⟩
  rcases h4.2 with h4 | ⟨g,cap,cur,rfl,hb0,hh,hr⟩
  · exact .inl h4
  · exact .inr ⟨g,cap,cur,rfl,hb0,by rw [hb rfl g (by rw [h1]; rfl)]; exact hh,hr⟩
 | fro t x =>
  obtain ⟨v,h1,h2⟩:=h
  exact ⟨v,hω _ _ h1,h2.mono hw hS⟩
 | dead=>trivial
 | fbox ks =>
  obtain ⟨b,h1,h2⟩:=h
  exact ⟨b,hω _ _ h1,h2.mono hw hS⟩
 | deep t x =>
  obtain ⟨u,e,lv,ds,h1,h2,h3,h4,h5,h6,h7⟩:=h
  refine ⟨u,e,lv,ds,hω _ _ h1,h2,h3,?_,fun j c k hj hk=>?_,h6,h7⟩
  · refine ⟨h4.1,?_⟩
    rcases h4.2 with h4 | ⟨g,cap,cur,h8,hb0,hh,hr⟩
    · exact .inl h4
    · exact .inr ⟨g,cap,cur,h8,hb0,by rw [hb rfl g (by rw [h1]; exact (Blk_iff _ _).2 (.inl (by rw [h8]; rfl)))]; exact hh,hr⟩
  · refine (h5 j c k hj hk).mono fun b hn=>hb rfl b ?_
    rw [h1]
    have hlt:j * lv.length+c < (tlV u).length:=by rw [h4.1]; exact cellIdx_lt hj (List.getElem?_eq_some_iff.1 hk).1
    exact (Blk_iff _ _).2 (.inr ⟨_,mem_getD_of hlt,hn⟩)
theorem Sim.obj_blk (h:Sim C σ ν S ω tm w) {o:Nat} {ob:SObj} (ho:σ.objs[o]?=some ob) (hl:ob.live=true) {b:Nat} (hb:OwnB (ω o) b):¬ S b∧b < w.heap.size∧(C.w0.heap.size≤b ∨ C.F b) :=
 h.own o ob b ho hl hb
theorem frozen_live (ob:SObj):ob.frozen.live=false:=by
 cases ob with
 | box cs =>
  simp only [SObj.frozen]
  split <;> rfl
 | _=>rfl
theorem plainKE_eq:∀ {cs:List SV1} {ks:List (K × E)},plainKE cs=some ks→cs=ks.map ofKE
 | [],ks,h=>by
  simp only [plainKE,Option.some.injEq] at h
  subst h
  rfl
 | .e k x::r,ks,h=>by
  simp only [plainKE] at h
  obtain ⟨l,h1,rfl⟩:=Option.map_eq_some_iff.1 h
  rw [plainKE_eq h1]
  rfl
 | .nil _::_,_,h=>by simp [plainKE] at h
 | .p ..::_,_,h=>by simp [plainKE] at h
 | .po ..::_,_,h=>by simp [plainKE] at h
 | .ow ..::_,_,h=>by simp [plainKE] at h
 | .r _::_,_,h=>by simp [plainKE] at h
 | .own _::_,_,h=>by simp [plainKE] at h
 | .dp _::_,_,h=>by simp [plainKE] at h
 | .pd ..::_,_,h=>by simp [plainKE] at h
 | .nst ..::_,_,h=>by simp [plainKE] at h
 | .pn ..::_,_,h=>by simp [plainKE] at h
 | .fn ..::_,_,h=>by simp [plainKE] at h
 | .u::_,_,h=>by simp [plainKE] at h
theorem Sim.freeze (h:Sim C σ ν S ω tm w) (l:List Nat) (hl:LiveL σ.objs l):Sim C { σ with objs:=freeze σ.objs l } ν (SL S ω l) ω tm w:=by
 have hS:∀ b,S b→SL S ω l b:=fun b hb=>.inl hb
 have hbk:∀ b,SL S ω l b→b < w.heap.size∧(C.S0 b ∨ C.w0.heap.size≤b ∨ C.F b):=by
  rintro b (hb | ⟨o,ho,hb⟩)
  · exact ⟨h.stab b hb,h.sbd b hb⟩
  · obtain ⟨ob,h1,h2⟩:=hl o ho
    have:=h.own o ob b h1 h2 hb
    exact ⟨this.2.1,.inr this.2.2⟩
 have live:∀ (o:Nat) (ob:SObj),(Go.SX.freeze σ.objs l)[o]?=some ob→ob.live=true→σ.objs[o]?=some ob∧o ∉ l:=by
  intro o ob ho hlv
  rw [freeze_get] at ho
  obtain ⟨ob0,h0,h1⟩:=Option.map_eq_some_iff.1 ho
  split at h1
  · subst h1; rw [frozen_live] at hlv; cases hlv
  · rename_i hc; subst h1; exact ⟨h0,by simpa using hc⟩
 exact {
  tsz:=h.tsz
  slots:=fun i s hs=>(h.slots i s hs).mono (fun _ _=>rfl) hS fun _ _ h=>h
  nv:=h.nv
  dom:=fun o v hv=>by rw [freeze_length]; exact h.dom o v hv
  objs:=fun o ob ho=>by
   rw [freeze_get] at ho
   obtain ⟨ob0,h0,h1⟩:=Option.map_eq_some_iff.1 ho
   split at h1
   · rename_i hc
     have hol:o∈l:=by simpa using hc
     subst h1
     cases ob0 with
     | row t x =>
      obtain ⟨v,h2,h3⟩:=row_data (h.objs o _ h0)
      exact ⟨v,h2,h3.sub (SL.mono fun o' ho'=>by simp at ho'; subst ho'; exact hol)⟩
     | box cs =>
      simp only [SObj.frozen]
      split
      · rename_i ks hks
        obtain ⟨b,t,vs,h2,h3,h4⟩:=h.objs o _ h0
        rw [plainKE_eq hks] at h4
        refine ⟨b,h2,b,0,rfl,fun _=>.inr ⟨o,hol,by rw [h2]; rfl⟩,fun c k x hx=>?_⟩
        obtain ⟨u,hu,hr⟩:=h4.get (i:=c) (a:=SV1.e k x) (by rw [List.getElem?_map,hx]; rfl)
        refine ⟨u,?_,Rd.sub hr hS⟩
        rw [Nat.zero_add,cell_of_row w b c vs t (0,0) h3]
        simpa using hu
      · trivial
     | deep t x=>trivial
     | fbox ks =>
      obtain ⟨b,h2,h3⟩:=h.objs o _ h0
      exact ⟨b,h2,RdP.mono h3 (fun _ _=>rfl) hS⟩
     | fro t x =>
      obtain ⟨v,h2,h3⟩:=h.objs o _ h0
      exact ⟨v,h2,h3.sub hS⟩
     | dead=>trivial
   · subst h1
     exact (h.objs o _ h0).mono (fun _ _=>rfl) hS (fun _ _ h=>h) fun _ _ _=>rfl
  sep:=fun o o' ob ob' b h1 h2 h3 h4 h5 h6=>h.sep o o' ob ob' b (live o ob h1 h3).1 (live o' ob' h2 h4).1 h3 h4 h5 h6
  own:=fun o ob b h1 h2 h3=>by
   obtain ⟨h4,h5⟩:=live o ob h1 h2
   have:=h.own o ob b h4 h2 h3
   refine ⟨?_,this.2⟩
   rintro (hb | ⟨o',ho',hb⟩)
   · exact this.1 hb
   · obtain ⟨ob',h6,h7⟩:=hl o' ho'
     have:=h.sep o o' ob ob' b h4 h6 h2 h7 h3 hb
     subst this
     exact h5 ho'
  stab:=fun b hb=>(hbk b hb).1
  known:=h.known
  frame:=h.frame
  smono:=fun b hb=>.inl (h.smono b hb)
  sbd:=fun b hb=>(hbk b hb).2
  omono:=h.omono }
theorem Sim.grow (h:Sim C σ ν S ω tm w) (hf:Fr w (fun _=>False) w'):Sim C σ ν S ω tm w':=by
 have hold:∀ b,b < w.heap.size→w'.heap[b]?=w.heap[b]?:=fun b hb=>hf.block b hb (fun h=>h)
 exact {
  tsz:=h.tsz
  slots:=fun i s hs=>(h.slots i s hs).mono (fun b hb=>hold b (h.stab b hb)) (fun _ h=>h) fun _ _ h=>h
  nv:=h.nv
  dom:=h.dom
  objs:=fun o ob ho=>(h.objs o ob ho).mono (fun b hb=>hold b (h.stab b hb)) (fun _ h=>h) (fun _ _ h=>h) fun hl b hb=>hold b (h.own o ob b ho hl hb).2.1
  sep:=h.sep
  own:=fun o ob b h1 h2 h3=>let ⟨a,b,c⟩:=h.own o ob b h1 h2 h3; ⟨a,Nat.lt_of_lt_of_le b hf.size,c⟩
  stab:=fun b hb=>Nat.lt_of_lt_of_le (h.stab b hb) hf.size
  known:=h.known
  frame:=h.frame.step hf fun _ _ h=>h.elim
  smono:=h.smono
  sbd:=h.sbd
  omono:=h.omono }
def upd1 (ω:Nat→Option Value) (n:Nat) (v:Value) (o:Nat):Option Value:=if o=n then some v else ω o
theorem upd1_le {n:Nat} (h:ω n=none) (v:Value):∀ o u,ω o=some u→upd1 ω n v o=some u:=by
 intro o u hu
 unfold upd1
 split
 · rename_i he; subst he; rw [h] at hu; cases hu
 · exact hu
theorem place_get (objs new:List SObj) (n o:Nat) (hn:n≤objs.length):(place objs n new)[o]?=if n≤o∧o < n+new.length then new[o - n]? else objs[o]?:=by
 unfold place
 have hp:(objs.take n).length=n:=by rw [List.length_take]; omega
 by_cases h1:o < n
 · rw [if_neg (by omega),List.append_assoc,List.getElem?_append_left (by omega),List.getElem?_take,if_pos h1]
 · by_cases h2:o < n+new.length
   · rw [if_pos ⟨by omega,h2⟩,List.append_assoc,List.getElem?_append_right (by omega),hp,List.getElem?_append_left (by omega)]
   · rw [if_neg (by omega),List.getElem?_append_right (by rw [List.length_append,hp]; omega),List.length_append,hp,List.getElem?_drop]
     congr 1
     omega
theorem place_length (objs new:List SObj) (n:Nat) (hn:n≤objs.length):(place objs n new).length=max objs.length (n+new.length):=by
 unfold place
 simp only [List.length_append,List.length_take,List.length_drop]
 omega
theorem place_nil (objs:List SObj) (n:Nat):place objs n []=objs:=by simp [place]
def NbOK (σ:St) (ω:Nat→Option Value) (k:Nat):Prop:=σ.nb≤σ.objs.length∧∀ i,i < k→ω (σ.nb+i)=none∧∀ x,σ.objs[σ.nb+i]?=some x→x=.dead
theorem Sim.fresh (h:Sim C σ ν S ω tm w):ω σ.objs.length=none:=by
 cases hq:ω σ.objs.length with
 | none=>rfl
 | some u=>exact absurd (h.dom _ _ hq) (Nat.lt_irrefl _)
theorem NbOK.one (h:Sim C σ ν S ω tm w) (hn:NbOK σ ω 1):ω σ.nb=none∧σ.nb≤σ.objs.length∧∀ x,σ.objs[σ.nb]?=some x→x=.dead:=by
 obtain ⟨h1,h2⟩:=hn.2 0 (by omega)
 exact ⟨h1,hn.1,h2⟩
theorem NbOK.text (h:Sim C σ ν S ω tm w) (hn:σ.nb=σ.objs.length) (k:Nat):NbOK σ ω k:=by
 refine ⟨by omega,fun i hi=>⟨?_,fun x hx=>?_⟩⟩
 · cases hq:ω (σ.nb+i) with
   | none=>rfl
   | some u=>exact absurd (h.dom _ _ hq) (by omega)
 · rw [List.getElem?_eq_none (by omega)] at hx; cases hx
theorem Sim.renb (h:Sim C σ ν S ω tm w) (a b:Nat):Sim C { σ with nb:=a,vb:=b } ν S ω tm w :=
 ⟨h.tsz,h.slots,h.nv,h.dom,h.objs,h.sep,h.own,h.stab,h.known,h.frame,h.smono,h.sbd,h.omono⟩
theorem Sim.new (h:Sim C σ ν S ω tm w) {n:Nat} (hn:ω n=none) (hle' : n≤σ.objs.length) {ob:SObj} {v:Value} (hv:∀ b,ob.live=true→Blk v b→¬ S b∧b < w.heap.size∧(C.w0.heap.size≤b ∨ C.F b)∧∀ o x,σ.objs[o]?=some x→x.live=true→¬ OwnB (ω o) b)
 (ho:ObjR C.ti w S (upd1 ω n v) ν n ob):Sim C { σ with objs:=place σ.objs n [ob] } ν S (upd1 ω n v) tm w:=by
 have hle:=upd1_le hn v
 have hlt:∀ (o:Nat),o≠n→upd1 ω n v o=ω o:=fun o ho=>by unfold upd1; rw [if_neg ho]
 have hself:upd1 ω n v n=some v:=by simp [upd1]
 have cases' : ∀ {o:Nat} {x:SObj},(place σ.objs n [ob])[o]?=some x→(o≠n∧σ.objs[o]?=some x) ∨ (o=n∧x=ob):=by
  intro o x hx
  rw [place_get _ _ _ _ hle'] at hx
  by_cases heq:o=n
  · subst heq
    simp at hx
    exact .inr ⟨rfl,hx.symm⟩
  · rw [if_neg (by simp; omega)] at hx
    exact .inl ⟨heq,hx⟩
 exact {
  tsz:=h.tsz
  slots:=fun i s hs=>(h.slots i s hs).mono (fun _ _=>rfl) (fun _ h=>h) hle
  nv:=h.nv
  dom:=fun o u hu=>by
   show o < (place σ.objs n [ob]).length
   rw [place_length _ _ _ hle']
   unfold upd1 at hu
   split at hu
   · subst_vars; simp; omega
   · have:=h.dom o u hu; omega
  objs:=fun o x hx=>by
   rcases cases' hx with ⟨h1,h2⟩ | ⟨rfl,rfl⟩
   · exact (h.objs o x h2).mono (fun _ _=>rfl) (fun _ h=>h) hle fun _ _ _=>rfl
   · exact ho
  sep:=fun o o' x x' b h1 h2 h3 h4 h5 h6=>by
   rcases cases' h1 with ⟨g1,g2⟩ | ⟨rfl,rfl⟩ <;> rcases cases' h2 with ⟨k1,k2⟩ | ⟨rfl,rfl⟩
   · rw [hlt o g1] at h5; rw [hlt o' k1] at h6; exact h.sep o o' x x' b g2 k2 h3 h4 h5 h6
   · rw [hlt o g1] at h5; rw [hself] at h6; exact absurd h5 ((hv b h4 h6).2.2.2 o x g2 h3)
   · rw [hlt o' k1] at h6; rw [hself] at h5; exact absurd h6 ((hv b h3 h5).2.2.2 o' x' k2 h4)
   · rfl
  own:=fun o x b h1 h2 h3=>by
   rcases cases' h1 with ⟨g1,g2⟩ | ⟨rfl,rfl⟩
   · rw [hlt o g1] at h3; exact h.own o x b g2 h2 h3
   · rw [hself] at h3; have:=hv b h2 h3; exact ⟨this.1,this.2.1,this.2.2.1⟩
  stab:=h.stab
  known:=h.known
  frame:=h.frame
  smono:=h.smono
  sbd:=h.sbd
  omono:=fun o u hu=>hle o u (h.omono o u hu) }
theorem Sim.setObj (h:Sim C σ ν S ω tm w) {o:Nat} {ob ob' : SObj} (ho:σ.objs[o]?=some ob) (hl:ob.live=true) {v:Value} (hv:ω o=some v)
 (hf:Fr w (fun b=>Blk v b) w') (ho' : ObjR C.ti w' S ω ν o ob'):Sim C { σ with objs:=σ.objs.set o ob' } ν S ω tm w':=by
 have hob:∀ b,Blk v b→¬ S b∧b < w.heap.size∧(C.w0.heap.size≤b ∨ C.F b):=fun b hb=>h.own o ob b ho hl (by rw [hv]; exact hb)
 have hstab:∀ b,S b→w'.heap[b]?=w.heap[b]?:=fun b hb=>hf.block b (h.stab b hb) fun hx=>(hob b hx).1 hb
 have cases' : ∀ {o1:Nat} {x:SObj},(σ.objs.set o ob')[o1]?=some x→(o1≠o∧σ.objs[o1]?=some x) ∨ (o1=o∧x=ob'):=by
  intro o1 x hx
  by_cases he:o=o1
  · subst he
    have:o < σ.objs.length:=(List.getElem?_eq_some_iff.1 ho).1
    simp [this] at hx
    exact .inr ⟨rfl,hx.symm⟩
  · rw [List.getElem?_set_ne he] at hx; exact .inl ⟨fun h=>he h.symm,hx⟩
 have other:∀ (o1:Nat) (x:SObj) (b:Nat),o1≠o→σ.objs[o1]?=some x→x.live=true→OwnB (ω o1) b→w'.heap[b]?=w.heap[b]?:=fun o1 x b hne h1 h2 h3 =>
  hf.block b (h.own o1 x b h1 h2 h3).2.1 fun hx=>hne (h.sep o1 o x ob b h1 ho h2 hl h3 (by rw [hv]; exact hx))
 exact {
  tsz:=h.tsz
  slots:=fun i s hs=>(h.slots i s hs).mono hstab (fun _ h=>h) fun _ _ h=>h
  nv:=h.nv
  dom:=fun o u hu=>by simp; exact h.dom o u hu
  objs:=fun o1 x hx=>by
   rcases cases' hx with ⟨g1,g2⟩ | ⟨rfl,rfl⟩
   · exact (h.objs o1 x g2).mono hstab (fun _ h=>h) (fun _ _ h=>h) fun hl' b hb=>other o1 x b g1 g2 hl' hb
   · exact ho'
  sep:=fun o1 o2 x x' b h1 h2 h3 h4 h5 h6=>by
   have e1:∀ {o1:Nat} {x:SObj},(σ.objs.set o ob')[o1]?=some x→x.live=true→∃ y,σ.objs[o1]?=some y∧y.live=true:=by
    intro o1 x hx hlx
    rcases cases' hx with ⟨_,g2⟩ | ⟨rfl,rfl⟩
    · exact ⟨x,g2,hlx⟩
    · exact ⟨ob,ho,hl⟩
   obtain ⟨y,y1,y2⟩:=e1 h1 h3
   obtain ⟨z,z1,z2⟩:=e1 h2 h4
   exact h.sep o1 o2 y z b y1 z1 y2 z2 h5 h6
  own:=fun o1 x b h1 h2 h3=>by
   rcases cases' h1 with ⟨_,g2⟩ | ⟨rfl,rfl⟩
   · have:=h.own o1 x b g2 h2 h3; exact ⟨this.1,Nat.lt_of_lt_of_le this.2.1 hf.size,this.2.2⟩
   · have:=h.own o1 ob b ho hl h3; exact ⟨this.1,Nat.lt_of_lt_of_le this.2.1 hf.size,this.2.2⟩
  stab:=fun b hb=>Nat.lt_of_lt_of_le (h.stab b hb) hf.size
  known:=h.known
  frame:=h.frame.step hf fun b hb hx=>(hob b hx).2.2.resolve_left (by omega)
  smono:=h.smono
  sbd:=h.sbd
  omono:=h.omono }
theorem Sim.kill (h:Sim C σ ν S ω tm w) (o:Nat):Sim C { σ with objs:=σ.objs.set o .dead } ν S ω tm w:=by
 have cases' : ∀ {o1:Nat} {x:SObj},(σ.objs.set o .dead)[o1]?=some x→σ.objs[o1]?=some x ∨ x=.dead:=by
  intro o1 x hx
  by_cases he:o=o1
  · subst he
    have:o < σ.objs.length:=by have:=(List.getElem?_eq_some_iff.1 hx).1; simpa using this
    simp [this] at hx
    exact .inr hx.symm
  · rw [List.getElem?_set_ne he] at hx; exact .inl hx
 exact { h with
  dom:=fun o u hu=>by simp; exact h.dom o u hu
  objs:=fun o1 x hx=>by
   rcases cases' hx with g | rfl
   · exact h.objs o1 x g
   · trivial
  sep:=fun o1 o2 x x' b h1 h2 h3 h4 h5 h6=>by
   rcases cases' h1 with g | rfl
   · rcases cases' h2 with k | rfl
     · exact h.sep o1 o2 x x' b g k h3 h4 h5 h6
     · simp [SObj.live] at h4
   · simp [SObj.live] at h3
  own:=fun o1 x b h1 h2 h3=>by
   rcases cases' h1 with g | rfl
   · exact h.own o1 x b g h2 h3
   · simp [SObj.live] at h2 }
end
end Go.SX
