/-
Matching a shape is sound: what is related to some symbolic values is related to the shape, under the variables and the objects that the match has found.
-/
import Derived.Test.YtjhggmcdjbcolaaGreatSzRel
set_option linter.unusedVariables false
set_option linter.unusedSimpArgs false
set_option linter.unusedSectionVars false
namespace Go.SX
open Go.RowKit
def Lent (ω:Nat→Option Value) (l:List Nat) (b:Nat):Prop:=∃ o,o∈l∧OwnB (ω o) b
def SL (S:Nat→Prop) (ω:Nat→Option Value) (l:List Nat) (b:Nat):Prop:=S b ∨ Lent ω l b
def nuF (ν:List D) (m:M):List D:=m.th.map fun x=>(x.getD default).den ν
def omF (ω:Nat→Option Value) (rho:List (Option (Option Nat))) (o:Nat):Option Value:=match rho[o]? with
 | some (some (some a))=>ω a
 | some (some none)=>some (.slice none 0 0)
 | _=>none
structure M.Le (m m' : M):Prop where
 th:∀ (i:Nat) (x:E),m.th[i]?=some (some x)→m'.th[i]?=some (some x)
 rho:∀ (i:Nat) (x:Option Nat),m.rho[i]?=some (some x)→m'.rho[i]?=some (some x)
 lent:∀ (o:Nat),o∈m.lent→o∈m'.lent
 lth:m'.th.length=m.th.length
 lrho:m'.rho.length=m.rho.length
theorem M.Le.refl (m:M):m.Le m:=⟨fun _ _ h=>h,fun _ _ h=>h,fun _ h=>h,rfl,rfl⟩
theorem M.Le.trans {a b c:M} (h:a.Le b) (k:b.Le c):a.Le c :=
 ⟨fun i x hx=>k.th i x (h.th i x hx),fun i x hx=>k.rho i x (h.rho i x hx),fun o ho=>k.lent o (h.lent o ho),k.lth.trans h.lth,k.lrho.trans h.lrho⟩
section
variable {ti:TypeId→TI} {w:World} {S:Nat→Prop} {ω:Nat→Option Value} {ν:List D} {objs:List SObj}
theorem isLit_den {x:E} (h:isLit x=true) (ν ν' : List D):x.den ν=x.den ν':=by
 cases x <;> simp [isLit] at h <;> rfl
theorem mE_sound {h a:E} {m m' : M} (hm:mE h a m=some m'):m.Le m'∧∀ mF,m'.Le mF→h.den (nuF ν mF)=a.den ν:=by
 have lit:isLit h=true∧h=a→m'=m→(m.Le m'∧∀ mF,m'.Le mF→h.den (nuF ν mF)=a.den ν):=by
  rintro ⟨h1,rfl⟩ rfl
  exact ⟨M.Le.refl _,fun mF _=>isLit_den h1 _ _⟩
 cases h with
 | v i =>
  simp only [mE] at hm
  have fin:∀ mF:M,mF.th[i]?=some (some a)→(E.v i).den (nuF ν mF)=a.den ν:=by
   intro mF hF
   simp [E.den,nuF,List.getD_eq_getElem?_getD,hF]
  split at hm
  · rename_i h0
    simp only [Option.some.injEq] at hm
    subst hm
    have hi:i < m.th.length:=(List.getElem?_eq_some_iff.1 h0).1
    refine ⟨⟨fun j x hj=>?_,fun _ _ h=>h,fun _ h=>h,by simp,rfl⟩,fun mF hF=>fin mF (hF.th i a (by simp [hi]))⟩
    by_cases hij:i=j
    · subst hij; rw [h0] at hj; simp at hj
    · simp only [List.getElem?_set_ne hij]; exact hj
  · rename_i x h0
    split at hm
    · rename_i hx
      simp only [Option.some.injEq] at hm
      subst hm; subst hx
      exact ⟨M.Le.refl _,fun mF hF=>fin mF (hF.th i x h0)⟩
    · simp at hm
  · simp at hm
 | _ =>
  simp only [mE] at hm
  split at hm
  · rename_i hx
    simp only [Option.some.injEq] at hm
    exact lit hx hm.symm
  · simp at hm
theorem mO_sound {o:Nat} {a:Option Nat} {m m' : M} (hm:mO o a m=some m'):m.Le m'∧m'.rho[o]?=some (some a):=by
 unfold mO at hm
 split at hm
 · rename_i h0
   simp only [Option.some.injEq] at hm
   subst hm
   have hi:o < m.rho.length:=(List.getElem?_eq_some_iff.1 h0).1
   refine ⟨⟨fun _ _ h=>h,fun j x hj=>?_,fun _ h=>h,rfl,by simp⟩,by simp [hi]⟩
   by_cases hij:o=j
   · subst hij; rw [h0] at hj; simp at hj
   · simp only [List.getElem?_set_ne hij]; exact hj
 · rename_i x h0
   split at hm
   · rename_i hx
     simp only [Option.some.injEq] at hm
     subst hm; subst hx
     exact ⟨M.Le.refl _,h0⟩
   · simp at hm
 · simp at hm
/-! ### Data out of values -/
theorem row_data {o:Nat} {t:TypeId} {x:E} (h:ObjR ti w S ω ν o (.row t x)):∃ v,ω o=some v∧Rd ti w (SL S ω [o]) (.sl t) (x.den ν) v:=by
 obtain ⟨v,e,agg,lv,ds,vs,hω,hti,hx,hown,hcells⟩:=h
 refine ⟨v,hω,?_⟩
 rw [hx]
 rcases hown.2 with ⟨hv,hn⟩ | ⟨g,cap,cur,hv,_,hg,hnc,_,_,htake⟩
 · have:ds=[]:=List.eq_nil_of_length_eq_zero hn
   subst this
   rw [hv]
   exact .sl0 t none 0
 · rw [hv]
   refine .sl t e agg lv ds g 0 cap (fun j c=>vs.getD (j * lv.length+c) undef) hti hnc (.inr ⟨o,by simp,by rw [hω,hv]; rfl⟩) (fun j c hj hc=>?_) (fun j c k hj hk=>(hcells j c k hj hk).sub fun b hb=>.inl hb)
   have hlt:j * lv.length+c < vs.length:=by
    rw [hown.1]
    calc j * lv.length+c < j * lv.length+lv.length:=by omega
     _=(j+1) * lv.length:=by rw [Nat.add_mul]; simp
     _≤ds.length * lv.length:=Nat.mul_le_mul_right _ hj
   have:=hown.cells (g:=g) (by rw [hv]; rfl) (j * lv.length+c) (vs.getD (j * lv.length+c) undef) (by rw [List.getD_eq_getElem?_getD,List.getElem?_eq_getElem hlt]; rfl)
   have hadd:(⟨g,0,none⟩ : Addr).add (j * lv.length+c)=⟨g,0+(j * lv.length+c),none⟩:=by unfold Addr.add; split <;> simp_all
   rw [hadd] at this
   exact this
theorem Blk_iff (u:Value) (b:Nat):Blk u b ↔ blk (hdV u)=some b ∨ ∃ v,v∈tlV u∧nblk v b:=by
 cases u with
 | agg l =>
  unfold Blk hdV tlV
  cases hl:l.toList with
  | nil=>simp [hl,undef,blk]
  | cons h r=>simp [hl]
 | _=>simp [Blk,hdV,tlV]
theorem mem_getD_of {l:List Value} {p:Nat} (h:p < l.length):l.getD p undef∈l:=by
 rw [List.getD_eq_getElem?_getD,List.getElem?_eq_getElem h]
 exact List.getElem_mem h
theorem cellIdx_lt {j n c k:Nat} (hj:j < n) (hc:c < k):j * k+c < n * k:=by
 calc j * k+c < j * k+k:=by omega
  _=(j+1) * k:=by rw [Nat.add_mul]; simp
  _≤n * k:=Nat.mul_le_mul_right _ hj
theorem NCell.rd {S' : Nat→Prop} {k:K} {d:D} {v:Value} (h:NCell ti w k d v) (hS:∀ b,nblk v b→S' b):Rd ti w S' k d v:=by
 cases k with
 | sl t =>
  obtain ⟨e,k',ns,hti,hf,rfl,⟨a,cap,rfl⟩,hn⟩:=h
  by_cases h0:ns=[]
  · subst h0
    exact .sl0 t a cap
  · obtain ⟨us,hown,hr⟩:=hn h0
    have hne:ns.length≠0:=fun h=>h0 (List.eq_nil_of_length_eq_zero h)
    rcases hown.2 with ⟨_,hn'⟩ | ⟨g,cap',cur,hv,_,hg,hnc,_,_,htake⟩
    · exact absurd hn' hne
    · rw [hv]
      refine .sl t e false [k'] ns g 0 cap' (fun j c=>us.getD (j * 1+c) undef) hti hnc (hS g (by rw [hv]; exact ⟨hne,rfl⟩)) (fun j c hj hc=>?_) (fun j c k2 hj hk=>?_)
      · have hc0:c=0:=by simp at hc; exact hc
        subst hc0
        have hlt:j * 1+0 < us.length:=by rw [hown.1]; omega
        have:=hown.cells (g:=g) (by rw [hv]; rfl) (j * 1+0) (us.getD (j * 1+0) undef) (by rw [List.getD_eq_getElem?_getD,List.getElem?_eq_getElem hlt]; rfl)
        have hadd:(⟨g,0,none⟩ : Addr).add (j * 1+0)=⟨g,0+(j * [k'].length+0),none⟩:=by unfold Addr.add; split <;> simp_all
        rw [hadd] at this
        exact this
      · have hc0:c=0∧k2=k':=by
         cases c with
         | zero=>simp at hk; exact ⟨rfl,hk.symm⟩
         | succ c=>simp at hk
        obtain ⟨rfl,rfl⟩:=hc0
        have:=hr j hj
        rw [show j * 1+0=j by omega]
        exact this.sub fun _ h=>h.elim
 | _=>exact Rd.sub h fun _ h=>h.elim
theorem deep_data {o:Nat} {t:TypeId} {x:E} (h:ObjR ti w S ω ν o (.deep t x)):∃ u,ω o=some u∧Rd ti w (SL S ω [o]) (.sl t) (x.den ν) (hdV u):=by
 obtain ⟨u,e,lv,ds,hω,hti,hx,hown,hcells,_,_⟩:=h
 refine ⟨u,hω,?_⟩
 rw [hx]
 rcases hown.2 with ⟨hv,hn⟩ | ⟨g,cap,cur,hv,_,hg,hnc,_,_,htake⟩
 · have:ds=[]:=List.eq_nil_of_length_eq_zero hn
   subst this
   rw [hv]
   exact .sl0 t none 0
 · rw [hv]
   refine .sl t e true lv ds g 0 cap (fun j c=>(tlV u).getD (j * lv.length+c) undef) hti hnc (.inr ⟨o,by simp,by rw [hω]; exact (Blk_iff _ _).2 (.inl (by rw [hv]; rfl))⟩) (fun j c hj hc=>?_) (fun j c k hj hk=>?_)
   · have hlt:j * lv.length+c < (tlV u).length:=by rw [hown.1]; exact cellIdx_lt hj hc
     have:=hown.cells (g:=g) (by rw [hv]; rfl) (j * lv.length+c) ((tlV u).getD (j * lv.length+c) undef) (by rw [List.getD_eq_getElem?_getD,List.getElem?_eq_getElem hlt]; rfl)
     have hadd:(⟨g,0,none⟩ : Addr).add (j * lv.length+c)=⟨g,0+(j * lv.length+c),none⟩:=by unfold Addr.add; split <;> simp_all
     rw [hadd] at this
     exact this
   · refine (hcells j c k hj hk).rd fun b hb=>.inr ⟨o,by simp,?_⟩
     rw [hω]
     have hlt:j * lv.length+c < (tlV u).length:=by rw [hown.1]; exact cellIdx_lt hj (List.getElem?_eq_some_iff.1 hk).1
     exact (Blk_iff _ _).2 (.inr ⟨_,mem_getD_of hlt,hb⟩)
theorem deep_nest {o c:Nat} {t t' : TypeId} {x i:E} {v:Value} (h:ObjR ti w S ω ν o (.deep t x)) (hv:SR ti w S ω ν (.nst o t i c t') v) :
 NCell ti w (.sl t') ((E.o1 (.cell c) (.o2 .idx x i)).den ν) v∧∀ b,nblk v b→OwnB (ω o) b:=by
 obtain ⟨u,e',lv',ds,hω,hti',hx,hown,hcells,_,_⟩:=h
 obtain ⟨u',g,n,cap,e,lv,hti,hc,hω',hh,h0,h1,hv,_⟩:=hv
 rw [hω] at hω'
 obtain rfl:=Option.some.inj hω'
 rw [hti] at hti'
 cases hti'
 have hn:n=ds.length:=by
  rcases hown.2 with ⟨hv',hn'⟩ | ⟨g',cap',cur,hv',_⟩
  · rw [hh] at hv'; cases hv'
  · rw [hh] at hv'; cases hv'; rfl
 have hj:(i.den ν).toInt.toNat < ds.length:=by omega
 refine ⟨?_,fun b hb=>?_⟩
 · have:=hcells _ c _ hj hc
   rw [←hv] at this
   simp only [E.den,O1.den,O2.den,hx,D.toList]
   exact this
 · rw [hω]
   have hlt:(i.den ν).toInt.toNat * lv'.length+c < (tlV u).length:=by rw [hown.1]; exact cellIdx_lt hj (List.getElem?_eq_some_iff.1 hc).1
   refine (Blk_iff _ _).2 (.inr ⟨_,mem_getD_of hlt,?_⟩)
   rw [←hv]
   exact hb
theorem SL.mono {l l' : List Nat} (h:∀ o,o∈l→o∈l') (b:Nat) (hb:SL S ω l b):SL S ω l' b:=by
 rcases hb with hb | ⟨o,ho,hb⟩
 · exact .inl hb
 · exact .inr ⟨o,h o ho,hb⟩
theorem dataOf_sound {a:SV1} {k:K} {x:E} {l:List Nat} {v:Value} (hO:∀ (o:Nat) ob,objs[o]?=some ob→ObjR ti w S ω ν o ob) (h:dataOf objs a=some ((k,x),l)) (hv:SR ti w S ω ν a v) :
 Rd ti w (SL S ω l) k (x.den ν) v∧∀ o,o∈l→∃ ob,objs[o]?=some ob∧ob.live=true:=by
 cases a with
 | e k' x' =>
  simp only [dataOf,Option.some.injEq,Prod.mk.injEq] at h
  obtain ⟨⟨rfl,rfl⟩,rfl⟩:=h
  exact ⟨Rd.sub hv fun b hb=>.inl hb,by simp⟩
 | nil t =>
  simp only [dataOf,Option.some.injEq,Prod.mk.injEq] at h
  obtain ⟨⟨rfl,rfl⟩,rfl⟩:=h
  obtain rfl:=hv
  exact ⟨.sl0 t none 0,by simp⟩
 | own o =>
  obtain ⟨hω,_⟩:=hv
  simp only [dataOf] at h
  split at h
  · rename_i t y ho
    simp only [Option.some.injEq,Prod.mk.injEq] at h
    obtain ⟨⟨rfl,rfl⟩,rfl⟩:=h
    obtain ⟨v',hv',hr⟩:=row_data (hO o _ ho)
    rw [hω] at hv'
    cases hv'
    exact ⟨hr,fun o' ho'=>by simp at ho'; subst ho'; exact ⟨_,ho,rfl⟩⟩
  · rename_i t y ho
    simp only [Option.some.injEq,Prod.mk.injEq] at h
    obtain ⟨⟨rfl,rfl⟩,rfl⟩:=h
    obtain ⟨v',hv',hr⟩:=hO o _ ho
    rw [hω] at hv'
    cases hv'
    exact ⟨Rd.sub hr fun b hb=>.inl hb,by simp⟩
  · simp at h
 | dp o =>
  obtain ⟨u,hω,rfl,_⟩:=hv
  simp only [dataOf] at h
  split at h
  · rename_i t y ho
    simp only [Option.some.injEq,Prod.mk.injEq] at h
    obtain ⟨⟨rfl,rfl⟩,rfl⟩:=h
    obtain ⟨v',hv',hr⟩:=deep_data (hO o _ ho)
    rw [hω] at hv'
    cases hv'
    exact ⟨hr,fun o' ho'=>by simp at ho'; subst ho'; exact ⟨_,ho,rfl⟩⟩
  · simp at h
 | nst o ts i c t' =>
  simp only [dataOf] at h
  split at h
  · rename_i t y ho
    split at h
    · rename_i he
      subst he
      simp only [Option.some.injEq,Prod.mk.injEq] at h
      obtain ⟨⟨rfl,rfl⟩,rfl⟩:=h
      obtain ⟨h1,h2⟩:=deep_nest (hO o _ ho) hv
      exact ⟨h1.rd fun b hb=>.inr ⟨o,by simp,h2 b hb⟩,fun o' ho'=>by simp at ho'; subst ho'; exact ⟨_,ho,rfl⟩⟩
    · simp at h
  · simp at h
 | _=>simp [dataOf] at h
theorem datasOf_sound {l:List SV1}:∀ {ks:List (K × E)} {n:List Nat} {vs:List Value},(∀ (o:Nat) ob,objs[o]?=some ob→ObjR ti w S ω ν o ob)→datasOf objs l=some (ks,n)→All2 (SR ti w S ω ν) l vs →
 All2 (fun p v=>Rd ti w (SL S ω n) p.1 (p.2.den ν) v) ks vs∧(∀ o,o∈n→∃ ob,objs[o]?=some ob∧ob.live=true):=by
 induction l with
 | nil =>
  intro ks n vs hO h hv
  simp only [datasOf,Option.some.injEq,Prod.mk.injEq] at h
  obtain ⟨rfl,rfl⟩:=h
  cases hv
  exact ⟨.nil,by simp⟩
 | cons a r ih =>
  intro ks n vs hO h hv
  simp only [datasOf] at h
  split at h
  · rename_i p l1 ks1 l2 h1 h2
    simp only [Option.some.injEq,Prod.mk.injEq] at h
    obtain ⟨rfl,rfl⟩:=h
    cases hv with
    | cons ha hr =>
     obtain ⟨k,x⟩:=p
     obtain ⟨g1,g2⟩:=dataOf_sound hO h1 ha
     obtain ⟨g3,g4⟩:=ih hO h2 hr
     refine ⟨.cons (g1.sub (SL.mono (by simp; intro o h; exact .inl h))) (g3.imp fun p v h=>h.sub (SL.mono (by simp; intro o h; exact .inr h))),fun o ho=>?_⟩
     rcases List.mem_append.1 ho with ho | ho
     · exact g2 o ho
     · exact g4 o ho
  · simp at h
/-! ### The match -/
theorem mKE_sound:∀ {ks ys:List (K × E)} {m m' : M},mKE ks ys m=some m'→m.Le m'∧∀ mF,m'.Le mF→ks.map (fun p=>(p.1,p.2.den (nuF ν mF)))=ys.map fun p=>(p.1,p.2.den ν)
 | [],[],m,m',h=>by simp [mKE] at h; subst h; exact ⟨M.Le.refl _,fun _ _=>rfl⟩
 | (k,x)::r,(k',y)::r',m,m',h=>by
  simp only [mKE] at h
  split at h
  · rename_i hk
    subst hk
    obtain ⟨m1,h1,h2⟩:=Option.bind_eq_some_iff.1 h
    obtain ⟨g1,g2⟩:=mE_sound (ν:=ν) h1
    obtain ⟨g3,g4⟩:=mKE_sound h2
    exact ⟨g1.trans g3,fun mF hF=>by simp [g4 mF hF,g2 mF (g3.trans hF)]⟩
  · simp at h
 | [],_::_,_,_,h=>by simp [mKE] at h
 | _::_,[],_,_,h=>by simp [mKE] at h
theorem RdP_of_map {S' : Nat→Prop} {ν' : List D} {ks ys:List (K × E)} {v:Value} (h:RdP ti w S' ν ys v) (he:ks.map (fun p=>(p.1,p.2.den ν'))=ys.map fun p=>(p.1,p.2.den ν)):RdP ti w S' ν' ks v:=by
 obtain ⟨b,off,rfl,hb,hc⟩:=h
 have hlen:ks.length=ys.length:=by have:=congrArg List.length he; simpa using this
 refine ⟨b,off,rfl,fun hk=>hb (fun hy=>hk (by cases ks with | nil=>rfl | cons=>simp [hy] at hlen)),fun c k x hx=>?_⟩
 have h1:=congrArg (fun l=>l[c]?) he
 simp only [List.getElem?_map,hx,Option.map_some] at h1
 cases hy:ys[c]? with
 | none=>rw [hy] at h1; simp at h1
 | some p =>
  obtain ⟨k',y⟩:=p
  rw [hy] at h1
  simp only [Option.map_some,Option.some.injEq,Prod.mk.injEq] at h1
  obtain ⟨rfl,h2⟩:=h1
  obtain ⟨u,hu,hr⟩:=hc c k y hy
  exact ⟨u,hu,by rw [h2]; exact hr⟩
theorem mBox_sound {ks:List (K × E)} {o:Nat} {m m' : M} (hO:∀ (o:Nat) ob,objs[o]?=some ob→ObjR ti w S ω ν o ob) (h:mBox objs ks o m=some m')
 (hm:∀ o,o∈m.lent→∃ ob,objs[o]?=some ob∧ob.live=true) :
 m.Le m'∧(∀ o,o∈m'.lent→∃ ob,objs[o]?=some ob∧ob.live=true)∧∀ mF,m'.Le mF→∀ b,ω o=some (.pointer (some ⟨b,0,none⟩))→RdP ti w (SL S ω mF.lent) (nuF ν mF) ks (.pointer (some ⟨b,0,none⟩)):=by
 unfold mBox at h
 split at h
 · rename_i cs ho
   split at h
   · rename_i ys l hd
     obtain ⟨m1,h1,rfl⟩:=Option.map_eq_some_iff.1 h
     obtain ⟨g1,g2⟩:=mKE_sound (ν:=ν) h1
     obtain ⟨b,t,vs,hω,hh,hcs⟩:=hO o _ ho
     obtain ⟨d1,d2⟩:=datasOf_sound hO hd hcs
     have hle:m.Le { m1 with lent:=o::l++m1.lent }:=⟨g1.th,g1.rho,fun o' h'=>by simp; exact .inr (.inr (g1.lent o' h')),g1.lth,g1.lrho⟩
     have hlm:∀ o,o∈m1.lent ↔ o∈m.lent:=by
      intro o'
      have key:∀ {ks ys:List (K × E)} {m m' : M},mKE ks ys m=some m'→m'.lent=m.lent:=by
       intro ks
       induction ks with
       | nil=>intro ys m m' h; cases ys with
        | nil=>simp [mKE] at h; subst h; rfl
        | cons=>simp [mKE] at h
       | cons p r ih=>intro ys m m' h; cases ys with
        | nil=>simp [mKE] at h
        | cons q r' =>
         simp only [mKE] at h
         split at h
         · obtain ⟨m1,h1,h2⟩:=Option.bind_eq_some_iff.1 h
           rw [ih h2]
           cases hp:p.2 <;> simp only [hp,mE] at h1 <;> (repeat' split at h1) <;> simp at h1 <;> subst h1 <;> rfl
         · simp at h
      rw [key h1]
     refine ⟨hle,fun o' ho'=>?_,fun mF hF b' hb'=>?_⟩
     · simp only [List.cons_append,List.mem_cons,List.mem_append] at ho'
       rcases ho' with rfl | ho' | ho'
       · exact ⟨_,ho,rfl⟩
       · exact d2 o' ho'
       · exact hm o' ((hlm o').1 ho')
     · rw [hω] at hb'
       simp only [Value.pointer.injEq,Option.some.injEq,Addr.mk.injEq,and_true] at hb'
       subst hb'
       have hF' : m1.Le mF:=⟨hF.th,hF.rho,fun o' h'=>hF.lent o' (by simp; exact .inr (.inr h')),hF.lth,hF.lrho⟩
       refine RdP_of_map (ν:=ν) (ys:=ys) ⟨b,0,rfl,fun _=>.inr ⟨o,hF.lent o (by simp),by rw [hω]; rfl⟩,fun c k x hx=>?_⟩ (g2 mF hF')
       obtain ⟨u,hu,hr⟩:=d1.get hx
       refine ⟨u,?_,hr.sub (SL.mono fun o' ho'=>hF.lent o' (by simp; exact .inr (.inl ho')))⟩
       rw [Nat.zero_add,cell_of_row w b c vs t (0,0) hh]
       simpa using hu
   · simp at h
 · rename_i ys ho
   obtain ⟨g1,g2⟩:=mKE_sound (ν:=ν) h
   have hl:m'.lent=m.lent:=by
    have key:∀ {ks ys:List (K × E)} {m m' : M},mKE ks ys m=some m'→m'.lent=m.lent:=by
     intro ks
     induction ks with
     | nil=>intro ys m m' h; cases ys with
      | nil=>simp [mKE] at h; subst h; rfl
      | cons=>simp [mKE] at h
     | cons p r ih=>intro ys m m' h; cases ys with
      | nil=>simp [mKE] at h
      | cons q r' =>
       simp only [mKE] at h
       split at h
       · obtain ⟨m1,h1,h2⟩:=Option.bind_eq_some_iff.1 h
         rw [ih h2]
         cases hp:p.2 <;> simp only [hp,mE] at h1 <;> (repeat' split at h1) <;> simp at h1 <;> subst h1 <;> rfl
       · simp at h
    exact key h
   refine ⟨g1,fun o' ho'=>hm o' (by rw [←hl]; exact ho'),fun mF hF b' hb'=>?_⟩
   obtain ⟨b,hω,hr⟩:=hO o _ ho
   rw [hω] at hb'
   simp only [Value.pointer.injEq,Option.some.injEq,Addr.mk.injEq,and_true] at hb'
   subst hb'
   exact RdP_of_map (RdP.mono hr (fun _ _=>rfl) fun b hb=>.inl hb) (g2 mF hF)
 · simp at h
def LiveL (objs:List SObj) (l:List Nat):Prop:=∀ o,o∈l→∃ ob,objs[o]?=some ob∧ob.live=true
theorem mE_lent {h a:E} {m m' : M} (hm:mE h a m=some m'):m'.lent=m.lent:=by
 cases h <;> simp only [mE] at hm <;> (repeat' split at hm) <;> simp at hm <;> subst hm <;> rfl
theorem mKE_lent:∀ {ks ys:List (K × E)} {m m' : M},mKE ks ys m=some m'→m'.lent=m.lent
 | [],[],m,m',h=>by simp [mKE] at h; subst h; rfl
 | (k,x)::r,(k',y)::r',m,m',h=>by
  simp only [mKE] at h
  split at h
  · obtain ⟨m1,h1,h2⟩:=Option.bind_eq_some_iff.1 h
    rw [mKE_lent h2,mE_lent h1]
  · simp at h
 | [],_::_,_,_,h=>by simp [mKE] at h
 | _::_,[],_,_,h=>by simp [mKE] at h
theorem mO_lent {o:Nat} {a:Option Nat} {m m' : M} (hm:mO o a m=some m'):m'.lent=m.lent:=by
 unfold mO at hm
 (repeat' split at hm) <;> simp at hm <;> subst hm <;> rfl
theorem omF_some {mF:M} {o a:Nat} (h:mF.rho[o]?=some (some (some a))):omF ω mF.rho o=ω a:=by simp [omF,h]
theorem omF_none {mF:M} {o:Nat} (h:mF.rho[o]?=some (some none)):omF ω mF.rho o=some (.slice none 0 0):=by simp [omF,h]
def MS (ti:TypeId→TI) (w:World) (S:Nat→Prop) (ω:Nat→Option Value) (ν:List D) (objs:List SObj) (m m' : M) (A H:Nat→(Nat→Prop)→(Nat→Value)→List D→Prop):Prop:=True
theorem mCaps_sound (hO:∀ (o:Nat) ob,objs[o]?=some ob→ObjR ti w S ω ν o ob):∀ {hs as:List Cap} {m m' : M},mCaps objs hs as m=some m'→LiveL objs m.lent →
 m.Le m'∧LiveL objs m'.lent∧∀ mF,m'.Le mF→∀ cv,All2 (CapR ti w S ω ν) as cv→All2 (CapR ti w (SL S ω mF.lent) (omF ω mF.rho) (nuF ν mF)) hs cv
 | [],[],m,m',h,hl=>by
  simp [mCaps] at h; subst h
  exact ⟨M.Le.refl _,hl,fun mF _ cv hc=>by cases hc; exact .nil⟩
 | .p o::r,.p a::r',m,m',h,hl=>by
  simp only [mCaps] at h
  obtain ⟨m1,h1,h2⟩:=Option.bind_eq_some_iff.1 h
  obtain ⟨g1,g2⟩:=mO_sound h1
  obtain ⟨g3,g4,g5⟩:=mCaps_sound hO h2 (by rw [mO_lent h1]; exact hl)
  refine ⟨g1.trans g3,g4,fun mF hF cv hc=>?_⟩
  cases hc with
  | cons hc hr =>
   obtain ⟨b,hb,rfl⟩:=hc
   exact .cons ⟨b,by rw [omF_some (hF.rho o _ (g3.rho o _ g2))]; exact hb,rfl⟩ (g5 mF hF _ hr)
 | .r ks::r,.r ys::r',m,m',h,hl=>by
  simp only [mCaps] at h
  obtain ⟨m1,h1,h2⟩:=Option.bind_eq_some_iff.1 h
  obtain ⟨g1,g2⟩:=mKE_sound (ν:=ν) h1
  obtain ⟨g3,g4,g5⟩:=mCaps_sound hO h2 (by rw [mKE_lent h1]; exact hl)
  refine ⟨g1.trans g3,g4,fun mF hF cv hc=>?_⟩
  cases hc with
  | cons hc hr=>exact .cons (RdP_of_map (RdP.mono hc (fun _ _=>rfl) fun b hb=>.inl hb) (g2 mF (g3.trans hF))) (g5 mF hF _ hr)
 | .r ks::r,.p a::r',m,m',h,hl=>by
  simp only [mCaps] at h
  obtain ⟨m1,h1,h2⟩:=Option.bind_eq_some_iff.1 h
  obtain ⟨g1,gl,g2⟩:=mBox_sound hO h1 hl
  obtain ⟨g3,g4,g5⟩:=mCaps_sound hO h2 gl
  refine ⟨g1.trans g3,g4,fun mF hF cv hc=>?_⟩
  cases hc with
  | cons hc hr =>
   obtain ⟨b,hb,rfl⟩:=hc
   exact .cons (g2 mF (g3.trans hF) b hb) (g5 mF hF _ hr)
 | [],_::_,_,_,h,_=>by simp [mCaps] at h
 | .p _::_,[],_,_,h,_=>by simp [mCaps] at h
 | .r _::_,[],_,_,h,_=>by simp [mCaps] at h
 | .p _::_,.r _::_,_,_,h,_=>by simp [mCaps] at h
theorem m1_sound (hO:∀ (o:Nat) ob,objs[o]?=some ob→ObjR ti w S ω ν o ob) {h a:SV1} {m m' : M} (hm:m1 objs h a m=some m') (hl:LiveL objs m.lent) :
 m.Le m'∧LiveL objs m'.lent∧∀ mF,m'.Le mF→∀ v,SR ti w S ω ν a v→SR ti w (SL S ω mF.lent) (omF ω mF.rho) (nuF ν mF) h v:=by
 cases h with
 | u =>
  have:m'=m:=by cases a <;> simp [m1] at hm <;> exact hm.symm
  subst this
  exact ⟨M.Le.refl _,hl,fun mF _ v hv=>hv.one⟩
 | nil t =>
  cases a <;> simp only [m1] at hm <;> try (simp at hm; done)
  split at hm
  · simp at hm; subst hm
    exact ⟨M.Le.refl _,hl,fun mF _ v hv=>hv⟩
  · simp at hm
 | own o =>
  cases a <;> simp only [m1] at hm <;> try (simp at hm; done)
  · obtain ⟨g1,g2⟩:=mO_sound hm
    refine ⟨g1,by rw [mO_lent hm]; exact hl,fun mF hF v hv=>?_⟩
    obtain rfl:=hv
    exact ⟨omF_none (hF.rho o _ g2),none,0,0,rfl⟩
  · obtain ⟨g1,g2⟩:=mO_sound hm
    refine ⟨g1,by rw [mO_lent hm]; exact hl,fun mF hF v hv=>?_⟩
    exact ⟨(omF_some (hF.rho o _ g2)).trans hv.1,hv.2⟩
 | p o off =>
  cases a <;> simp only [m1] at hm <;> try (simp at hm; done)
  split at hm
  · rename_i he
    subst he
    obtain ⟨g1,g2⟩:=mO_sound hm
    refine ⟨g1,by rw [mO_lent hm]; exact hl,fun mF hF v hv=>?_⟩
    obtain ⟨b,hb,rfl⟩:=hv
    exact ⟨b,by rw [omF_some (hF.rho o _ g2)]; exact hb,rfl⟩
  · simp at hm
 | dp o =>
  cases a <;> simp only [m1] at hm <;> try (simp at hm; done)
  · obtain ⟨g1,g2⟩:=mO_sound hm
    refine ⟨g1,by rw [mO_lent hm]; exact hl,fun mF hF v hv=>?_⟩
    obtain rfl:=hv
    exact ⟨_,omF_none (hF.rho o _ g2),rfl,none,0,0,rfl⟩
  · obtain ⟨g1,g2⟩:=mO_sound hm
    refine ⟨g1,by rw [mO_lent hm]; exact hl,fun mF hF v hv=>?_⟩
    obtain ⟨u,hu,hv⟩:=hv
    exact ⟨u,(omF_some (hF.rho o _ g2)).trans hu,hv⟩
 | ow o sz lo =>
  cases a <;> simp only [m1] at hm <;> try (simp at hm; done)
  split at hm
  · rename_i he
    subst he
    obtain ⟨m1',h1,h2⟩:=Option.bind_eq_some_iff.1 hm
    obtain ⟨g1,g2⟩:=mO_sound h1
    obtain ⟨k1,k2⟩:=mE_sound (ν:=ν) h2
    refine ⟨g1.trans k1,by rw [mE_lent h2,mO_lent h1]; exact hl,fun mF hF v hv=>?_⟩
    obtain ⟨b,n,cap,q1,q2,q3,q4⟩:=hv
    refine ⟨b,n,cap,(omF_some ((k1.trans hF).rho o _ g2)).trans q1,?_⟩
    rw [k2 mF hF]
    exact ⟨q2,q3,q4⟩
  · simp at hm
 | po o sz i off=>cases a <;> simp [m1] at hm
 | pd o sz i off=>cases a <;> simp [m1] at hm
 | nst o ts i c t=>cases a <;> simp [m1] at hm
 | pn o ts i c t k=>cases a <;> simp [m1] at hm
 | r ks =>
  cases a with
  | r ys =>
   simp only [m1] at hm
   obtain ⟨g1,g2⟩:=mKE_sound (ν:=ν) hm
   exact ⟨g1,by rw [mKE_lent hm]; exact hl,fun mF hF v hv=>RdP_of_map (RdP.mono hv (fun _ _=>rfl) fun b hb=>.inl hb) (g2 mF hF)⟩
  | p a off =>
   cases off with
   | zero =>
    simp only [m1] at hm
    obtain ⟨g1,gl,g2⟩:=mBox_sound hO hm hl
    refine ⟨g1,gl,fun mF hF v hv=>?_⟩
    obtain ⟨b,hb,rfl⟩:=hv
    exact g2 mF hF b hb
   | succ off=>simp [m1] at hm
  | _=>simp [m1] at hm
 | fn g cs =>
  cases a <;> simp only [m1] at hm <;> try (simp at hm; done)
  split at hm
  · rename_i he
    subst he
    obtain ⟨g1,g2,g3⟩:=mCaps_sound hO hm hl
    refine ⟨g1,g2,fun mF hF v hv=>?_⟩
    obtain ⟨cv,rfl,hc⟩:=hv
    exact ⟨cv,rfl,g3 mF hF cv hc⟩
  · simp at hm
 | e k x =>
  have hm2:mData objs k x a m=some m':=by cases a <;> exact hm
  unfold mData at hm2
  split at hm2
  · rename_i k' y l hd
    split at hm2
    · rename_i he
      subst he
      obtain ⟨m1',h1,rfl⟩:=Option.map_eq_some_iff.1 hm2
      obtain ⟨g1,g2⟩:=mE_sound (ν:=ν) h1
      have hle:m.Le { m1' with lent:=l++m1'.lent }:=⟨g1.th,g1.rho,fun o' h'=>by simp; exact .inr (g1.lent o' h'),g1.lth,g1.lrho⟩
      refine ⟨hle,fun o ho=>?_,fun mF hF v hv=>?_⟩
      · rcases List.mem_append.1 ho with ho | ho
        · have:∃ v:Value,SR ti w S ω ν a v ∨ True:=⟨undef,.inr trivial⟩
          cases a <;> simp only [dataOf] at hd
          case own q =>
           split at hd <;> simp at hd
           · rename_i hq
             obtain ⟨_,rfl⟩:=hd
             simp at ho; subst ho
             exact ⟨_,hq,rfl⟩
           · obtain ⟨_,rfl⟩:=hd; simp at ho
          case dp q =>
           split at hd <;> simp at hd
           rename_i hq
           obtain ⟨_,rfl⟩:=hd
           simp at ho; subst ho
           exact ⟨_,hq,rfl⟩
          case nst q ts i c t' =>
           split at hd
           · rename_i hq
             split at hd <;> simp at hd
             obtain ⟨_,rfl⟩:=hd
             simp at ho; subst ho
             exact ⟨_,hq,rfl⟩
           · simp at hd
          all_goals (simp at hd; try (obtain ⟨_,rfl⟩:=hd; simp at ho))
        · rw [mE_lent h1] at ho; exact hl o ho
      · obtain ⟨d1,_⟩:=dataOf_sound hO hd hv
        show Rd _ _ _ k (x.den _) v
        have hF' : m1'.Le mF:=⟨hF.th,hF.rho,fun o' h'=>hF.lent o' (by simp; exact .inr h'),hF.lth,hF.lrho⟩
        rw [g2 mF hF']
        exact d1.sub (SL.mono fun o' ho'=>hF.lent o' (by simp; exact .inl ho'))
    · simp at hm2
  · simp at hm2
theorem m1s_sound (hO:∀ (o:Nat) ob,objs[o]?=some ob→ObjR ti w S ω ν o ob):∀ {hs as:List SV1} {m m' : M},m1s objs hs as m=some m'→LiveL objs m.lent →
 m.Le m'∧LiveL objs m'.lent∧∀ mF,m'.Le mF→∀ vs,All2 (SR ti w S ω ν) as vs→All2 (SR ti w (SL S ω mF.lent) (omF ω mF.rho) (nuF ν mF)) hs vs
 | [],[],m,m',h,hl=>by
  simp [m1s] at h; subst h
  exact ⟨M.Le.refl _,hl,fun mF _ cv hc=>by cases hc; exact .nil⟩
 | x::r,a::r',m,m',h,hl=>by
  simp only [m1s] at h
  obtain ⟨m1,h1,h2⟩:=Option.bind_eq_some_iff.1 h
  obtain ⟨g1,gl,g2⟩:=m1_sound hO h1 hl
  obtain ⟨g3,g4,g5⟩:=m1s_sound hO h2 gl
  refine ⟨g1.trans g3,g4,fun mF hF cv hc=>?_⟩
  cases hc with
  | cons hc hr=>exact .cons (g2 mF (g3.trans hF) _ hc) (g5 mF hF _ hr)
 | [],_::_,_,_,h,_=>by simp [m1s] at h
 | _::_,[],_,_,h,_=>by simp [m1s] at h
theorem mSV_sound (hO:∀ (o:Nat) ob,objs[o]?=some ob→ObjR ti w S ω ν o ob) {h a:SV} {m m' : M} (hm:mSV objs h a m=some m') (hl:LiveL objs m.lent) :
 m.Le m'∧LiveL objs m'.lent∧∀ mF,m'.Le mF→∀ v,SVR ti w S ω ν a v→SVR ti w (SL S ω mF.lent) (omF ω mF.rho) (nuF ν mF) h v:=by
 cases h <;> cases a <;> simp only [mSV] at hm <;> try (simp at hm; done)
 · exact m1_sound hO hm hl
 · obtain ⟨g1,g2,g3⟩:=m1s_sound hO hm hl
   exact ⟨g1,g2,fun mF hF v ⟨cs,hv,hc⟩=>⟨cs,hv,g3 mF hF cs hc⟩⟩
theorem mSVs_sound (hO:∀ (o:Nat) ob,objs[o]?=some ob→ObjR ti w S ω ν o ob):∀ {hs as:List SV} {m m' : M},mSVs objs hs as m=some m'→LiveL objs m.lent →
 m.Le m'∧LiveL objs m'.lent∧∀ mF,m'.Le mF→∀ vs,All2 (SVR ti w S ω ν) as vs→All2 (SVR ti w (SL S ω mF.lent) (omF ω mF.rho) (nuF ν mF)) hs vs
 | [],[],m,m',h,hl=>by
  simp [mSVs] at h; subst h
  exact ⟨M.Le.refl _,hl,fun mF _ cv hc=>by cases hc; exact .nil⟩
 | x::r,a::r',m,m',h,hl=>by
  simp only [mSVs] at h
  obtain ⟨m1,h1,h2⟩:=Option.bind_eq_some_iff.1 h
  obtain ⟨g1,gl,g2⟩:=mSV_sound hO h1 hl
  obtain ⟨g3,g4,g5⟩:=mSVs_sound hO h2 gl
  refine ⟨g1.trans g3,g4,fun mF hF cv hc=>?_⟩
  cases hc with
  | cons hc hr=>exact .cons (g2 mF (g3.trans hF) _ hc) (g5 mF hF _ hr)
 | [],_::_,_,_,h,_=>by simp [mSVs] at h
 | _::_,[],_,_,h,_=>by simp [mSVs] at h
theorem mSlot_sound (hO:∀ (o:Nat) ob,objs[o]?=some ob→ObjR ti w S ω ν o ob) {h a:Slot} {m m' : M} (hm:mSlot objs h a m=some m') (hl:LiveL objs m.lent) :
 m.Le m'∧LiveL objs m'.lent∧∀ mF,m'.Le mF→∀ v,SlotR ti w S ω ν a v→SlotR ti w (SL S ω mF.lent) (omF ω mF.rho) (nuF ν mF) h v:=by
 cases h with
 | no =>
  have:m'=m:=by cases a <;> simp [mSlot] at hm <;> exact hm.symm
  subst this
  exact ⟨M.Le.refl _,hl,fun mF _ v hv=>trivial⟩
 | v h =>
  cases a <;> simp only [mSlot] at hm <;> try (simp at hm; done)
  exact mSV_sound hO hm hl
 | tup h =>
  cases a <;> simp only [mSlot] at hm <;> try (simp at hm; done)
  obtain ⟨g1,g2,g3⟩:=mSVs_sound hO hm hl
  exact ⟨g1,g2,fun mF hF v ⟨cs,hv,hc⟩=>⟨cs,hv,g3 mF hF cs hc⟩⟩
 | un=>cases a <;> simp [mSlot] at hm
theorem mSlots_sound (hO:∀ (o:Nat) ob,objs[o]?=some ob→ObjR ti w S ω ν o ob):∀ {hs as:List Slot} {m m' : M},mSlots objs hs as m=some m'→LiveL objs m.lent →
 m.Le m'∧LiveL objs m'.lent∧hs.length=as.length∧∀ mF,m'.Le mF→∀ vs,All2 (SlotR ti w S ω ν) as vs→All2 (SlotR ti w (SL S ω mF.lent) (omF ω mF.rho) (nuF ν mF)) hs vs
 | [],[],m,m',h,hl=>by
  simp [mSlots] at h; subst h
  exact ⟨M.Le.refl _,hl,rfl,fun mF _ cv hc=>by cases hc; exact .nil⟩
 | x::r,a::r',m,m',h,hl=>by
  simp only [mSlots] at h
  obtain ⟨m1,h1,h2⟩:=Option.bind_eq_some_iff.1 h
  obtain ⟨g1,gl,g2⟩:=mSlot_sound hO h1 hl
  obtain ⟨g3,g4,g6,g5⟩:=mSlots_sound hO h2 gl
  refine ⟨g1.trans g3,g4,by simp [g6],fun mF hF cv hc=>?_⟩
  cases hc with
  | cons hc hr=>exact .cons (g2 mF (g3.trans hF) _ hc) (g5 mF hF _ hr)
 | [],_::_,_,_,h,_=>by simp [mSlots] at h
 | _::_,[],_,_,h,_=>by simp [mSlots] at h
theorem mObj_sound (hO:∀ (o:Nat) ob,objs[o]?=some ob→ObjR ti w S ω ν o ob) {h:SObj} {a:Option Nat} {o' : Nat} {m m' : M} (hm:mObj ti objs h a m=some m') (hr:m.rho[o']?=some (some a)) (hl:LiveL objs m.lent) :
 m.Le m'∧LiveL objs m'.lent∧(h.live=true→∀ o,a=some o→∃ ob,objs[o]?=some ob∧ob.live=true)∧∀ mF,m'.Le mF→ObjR ti w (SL S ω mF.lent) (omF ω mF.rho) (nuF ν mF) o' h:=by
 cases h with
 | row t x =>
  cases a with
  | none =>
   simp only [mObj] at hm
   split at hm
   · rename_i e agg lv hti
     obtain ⟨g1,g2⟩:=mE_sound (ν:=ν) hm
     refine ⟨g1,by rw [mE_lent hm]; exact hl,fun _ o ho=>(by cases ho),fun mF hF=>⟨_,e,agg,lv,[],[],omF_none (hF.rho o' _ (g1.rho o' _ hr)),hti,g2 mF hF,World.ownsRow_nil _ _ _ _,fun j c k hj=>by simp at hj⟩⟩
   · simp at hm
  | some o =>
   simp only [mObj] at hm
   split at hm
   · rename_i t' y ho
     split at hm
     · rename_i he
       subst he
       obtain ⟨g1,g2⟩:=mE_sound (ν:=ν) hm
       refine ⟨g1,by rw [mE_lent hm]; exact hl,fun _ o1 ho1=>by cases ho1; exact ⟨_,ho,rfl⟩,fun mF hF=>?_⟩
       obtain ⟨v,e,agg,lv,ds,vs,hω,hti,hx,hown,hc⟩:=hO o _ ho
       exact ⟨v,e,agg,lv,ds,vs,(omF_some (hF.rho o' _ (g1.rho o' _ hr))).trans hω,hti,(g2 mF hF).trans hx,hown,hc.mono (fun _ _=>rfl) fun b hb=>.inl hb⟩
     · simp at hm
   · simp at hm
 | box cs =>
  cases a with
  | none=>simp [mObj] at hm
  | some o =>
   simp only [mObj] at hm
   split at hm
   · rename_i ds ho
     obtain ⟨g1,g2,g3⟩:=m1s_sound hO hm hl
     refine ⟨g1,g2,fun _ o1 ho1=>by cases ho1; exact ⟨_,ho,rfl⟩,fun mF hF=>?_⟩
     obtain ⟨b,t,vs,hω,hh,hc⟩:=hO o _ ho
     exact ⟨b,t,vs,by rw [omF_some (hF.rho o' _ (g1.rho o' _ hr))]; exact hω,hh,g3 mF hF _ hc⟩
   · simp at hm
 | fro t x=>cases a <;> simp [mObj] at hm
 | fbox ks=>cases a <;> simp [mObj] at hm
 | deep t x =>
  cases a with
  | none =>
   simp only [mObj] at hm
   split at hm
   · rename_i e lv hti
     obtain ⟨g1,g2⟩:=mE_sound (ν:=ν) hm
     refine ⟨g1,by rw [mE_lent hm]; exact hl,fun _ o ho=>(by cases ho),fun mF hF=>⟨_,e,lv,[],omF_none (hF.rho o' _ (g1.rho o' _ hr)),hti,g2 mF hF,World.ownsRow_nil _ _ _ _,fun j c k hj=>by simp at hj,fun p q b hp=>?_,fun p b hp=>?_⟩⟩
     · simp [tlV,undef,nblk] at hp
     · simp [tlV,undef,nblk] at hp
   · simp at hm
  | some o =>
   simp only [mObj] at hm
   split at hm
   · rename_i t' y ho
     split at hm
     · rename_i he
       subst he
       obtain ⟨g1,g2⟩:=mE_sound (ν:=ν) hm
       refine ⟨g1,by rw [mE_lent hm]; exact hl,fun _ o1 ho1=>by cases ho1; exact ⟨_,ho,rfl⟩,fun mF hF=>?_⟩
       obtain ⟨u,e,lv,ds,hω,hti,hx,hrest⟩:=hO o _ ho
       exact ⟨u,e,lv,ds,(omF_some (hF.rho o' _ (g1.rho o' _ hr))).trans hω,hti,(g2 mF hF).trans hx,hrest⟩
     · simp at hm
   · simp at hm
 | dead =>
  have hm' : m=m':=by cases a <;> simpa [mObj] using hm
  subst hm'
  exact ⟨M.Le.refl _,hl,fun h=>by simp [SObj.live] at h,fun _ _=>trivial⟩
theorem mObjs_sound (hO:∀ (o:Nat) ob,objs[o]?=some ob→ObjR ti w S ω ν o ob):∀ {hs:List SObj} {i:Nat} {m m' : M},mObjs ti objs hs i m=some m'→LiveL objs m.lent →
 m.Le m'∧LiveL objs m'.lent∧∀ (j:Nat) (h:SObj),hs[j]?=some h→(∀ mF,m'.Le mF→ObjR ti w (SL S ω mF.lent) (omF ω mF.rho) (nuF ν mF) (i+j) h) ∧
  (h.live=true→∃ a,m'.rho[i+j]?=some (some a)∧∀ o,a=some o→∃ ob,objs[o]?=some ob∧ob.live=true)
 | [],i,m,m',h,hl=>by
  simp [mObjs] at h; subst h
  exact ⟨M.Le.refl _,hl,fun j h hj=>by simp at hj⟩
 | x::r,i,m,m',h,hl=>by
  simp only [mObjs] at h
  split at h
  · rename_i a ha
    obtain ⟨m1,h1,h2⟩:=Option.bind_eq_some_iff.1 h
    obtain ⟨g1,gl,gv,g2⟩:=mObj_sound (o':=i) hO h1 ha hl
    obtain ⟨g3,g4,g5⟩:=mObjs_sound hO h2 gl
    refine ⟨g1.trans g3,g4,fun j y hj=>?_⟩
    cases j with
    | zero =>
     simp at hj; subst hj
     exact ⟨fun mF hF=>g2 mF (g3.trans hF),fun hlv=>⟨a,(g1.trans g3).rho i _ ha,gv hlv⟩⟩
    | succ j =>
     have:=g5 j y (by simpa using hj)
     rw [show i+(j+1)=i+1+j by omega]
     exact this
  · split at h
    · rename_i hd
      subst hd
      obtain ⟨g3,g4,g5⟩:=mObjs_sound hO h hl
      refine ⟨g3,g4,fun j y hj=>?_⟩
      cases j with
      | zero=>simp at hj; subst hj; exact ⟨fun _ _=>trivial,fun h=>by simp [SObj.live] at h⟩
      | succ j =>
       have:=g5 j y (by simpa using hj)
       rw [show i+(j+1)=i+1+j by omega]
       exact this
    · simp at h
end
theorem distinct_spec:∀ {l:List Nat},distinct l=true→∀ (i j a:Nat),l[i]?=some a→l[j]?=some a→i=j
 | [],_,i,j,a,hi,_=>by simp at hi
 | x::r,h,i,j,a,hi,hj=>by
  simp only [distinct,Bool.and_eq_true,Bool.not_eq_true',List.contains_eq_mem] at h
  obtain ⟨h1,h2⟩:=h
  have h1' : x ∉ r:=by simpa using h1
  cases i with
  | zero=>cases j with
   | zero=>rfl
   | succ j=>simp at hi hj; subst hi; exact absurd (List.mem_of_getElem? hj) h1'
  | succ i=>cases j with
   | zero=>simp at hi hj; subst hj; exact absurd (List.mem_of_getElem? hi) h1'
   | succ j=>simp at hi hj; rw [distinct_spec h2 i j a hi hj]
theorem distinct_rho {l:List (Option Nat)} (h:distinct (l.filterMap id)=true):∀ (i j a:Nat),l[i]?=some (some a)→l[j]?=some (some a)→i=j:=by
 induction l with
 | nil=>intro i j a hi; simp at hi
 | cons x r ih =>
  intro i j a hi hj
  cases x with
  | none =>
   simp at h
   cases i with
   | zero=>simp at hi
   | succ i=>cases j with
    | zero=>simp at hj
    | succ j=>simp at hi hj; rw [ih (by simpa using h) i j a hi hj]
  | some y =>
   simp only [List.filterMap_cons,id,distinct,Bool.and_eq_true,Bool.not_eq_true',List.contains_eq_mem] at h
   obtain ⟨h1,h2⟩:=h
   have h1' : y ∉ r.filterMap id:=by simpa using h1
   have nin:∀ k:Nat,r[k]?=some (some y)→False:=fun k hk=>h1' (List.mem_filterMap.2 ⟨some y,List.mem_of_getElem? hk,rfl⟩)
   cases i with
   | zero=>cases j with
    | zero=>rfl
    | succ j=>simp at hi hj; subst hi; exact (nin j hj).elim
   | succ i=>cases j with
    | zero=>simp at hi hj; subst hj; exact (nin i hi).elim
    | succ j=>simp at hi hj; rw [ih h2 i j a hi hj]
theorem liveOf_get:∀ {l:List (Option Nat)} {ho:List SObj} {i:Nat} {a:Option Nat} {x:SObj},l[i]?=some a→ho[i]?=some x→x.live=true→(liveOf l ho)[i]?=some a
 | [],_,i,a,x,h,_,_=>by simp at h
 | _::_,[],i,a,x,_,h,_=>by simp at h
 | y::r,h::q,i,a,x,h1,h2,h3=>by
  cases i with
  | zero =>
   simp at h1 h2
   subst h1; subst h2
   simp [liveOf,h3]
  | succ i =>
   simp only [liveOf,List.getElem?_cons_succ]
   exact liveOf_get (by simpa using h1) (by simpa using h2) h3
theorem mtch_sound {ti:TypeId→TI} {w:World} {S:Nat→Prop} {ω:Nat→Option Value} {ν:List D} {objs:List SObj} (hO:∀ (o:Nat) ob,objs[o]?=some ob→ObjR ti w S ω ν o ob)
 {hs as:List Slot} {ho:List SObj} {k n:Nat} {th:List E} {rho:List (Option Nat)} {lent:List Nat} (h:mtch k ti hs ho n as objs=some (th,rho,lent)) :
 ∃ ω',(∀ o a,rho[o]?=some (some a)→ω' o=ω a)∧(∀ o,rho[o]?=some none→∀ v,ω' o=some v→∀ b,¬ Blk v b)∧(∀ o,rho[o]?=none→ω' o=none)∧hs.length=as.length∧rho.length=ho.length∧th.length=n∧LiveL objs lent ∧
  (∀ vs,All2 (SlotR ti w S ω ν) as vs→All2 (SlotR ti w (SL S ω lent) ω' (th.map (E.den ν))) hs vs) ∧
  (∀ (o:Nat) (x:SObj),ho[o]?=some x→ObjR ti w (SL S ω lent) ω' (th.map (E.den ν)) o x) ∧
  (∀ (o:Nat) (x:SObj),ho[o]?=some x→x.live=true→∀ a,rho[o]?=some (some a)→∃ ob,objs[a]?=some ob∧ob.live=true) ∧
  (∀ (i j a:Nat) (x y:SObj),ho[i]?=some x→x.live=true→ho[j]?=some y→y.live=true→rho[i]?=some (some a)→rho[j]?=some (some a)→i=j)∧(∀ (i a:Nat) (x:SObj),ho[i]?=some x→x.live=true→rho[i]?=some (some a)→a ∉ lent)∧(∀ o,o < k→rho[o]?=some (some o)):=by
 unfold mtch at h
 split at h
 case isFalse=>cases h
 rename_i hkl
 obtain ⟨m1,h1,h2⟩:=Option.bind_eq_some_iff.1 h
 obtain ⟨m2,h3,h4⟩:=Option.bind_eq_some_iff.1 h2
 obtain ⟨g1,gl,glen,g2⟩:=mSlots_sound hO h1 (fun o ho=>by simp at ho)
 obtain ⟨k1,kl,k2⟩:=mObjs_sound hO h3 gl
 unfold M.ends at h4
 simp only [Bool.and_eq_true,decide_eq_true_eq,List.all_eq_true,Bool.not_eq_true'] at h4
 split at h4
 · rename_i hc
   obtain ⟨⟨c1,c2⟩,c3⟩:=hc
   simp only [Option.some.injEq,Prod.mk.injEq] at h4
   obtain ⟨rfl,rfl,rfl⟩:=h4
   have hth:m2.th=(m2.th.filterMap id).map some:=by
    have key:∀ l:List (Option E),(l.filterMap id).length=l.length→l=(l.filterMap id).map some:=by
     intro l
     induction l with
     | nil=>intro _; rfl
     | cons x r ih =>
      intro hl
      cases x with
      | none =>
       have:=List.length_filterMap_le id r
       simp at hl
       omega
      | some y =>
       simp only [List.filterMap_cons,id,List.length_cons,Nat.add_right_cancel_iff] at hl
       simp only [List.filterMap_cons,id,List.map_cons]
       rw [←ih hl]
    exact key _ c1
   have hnu:nuF ν m2=(m2.th.filterMap id).map (E.den ν):=by
    unfold nuF
    conv=>lhs; rw [hth]
    simp [List.map_map,Function.comp_def]
   have hle:=(M.Le.refl m2)
   refine ⟨omF ω m2.rho,fun o a ha=>?_,fun o ha v hv=>?_,fun o ha=>?_,glen,?_,?_,kl,fun vs hv=>?_,fun o x hx=>?_,fun o x hx hlv a ha=>?_,fun i j a x y hx hlx hy hly hi hj=>distinct_rho c2 i j a (liveOf_get hi hx hlx) (liveOf_get hj hy hly),fun i a x hx hlx hi hin=>?_,fun o hok=>?_⟩
   · rw [List.getElem?_map] at ha
     unfold omF
     cases hr:m2.rho[o]? with
     | none=>rw [hr] at ha; simp at ha
     | some y=>rw [hr] at ha; cases y <;> simp at ha; subst ha; rfl
   · rw [List.getElem?_map] at ha
     unfold omF at hv
     cases hr:m2.rho[o]? with
     | none=>rw [hr] at ha; simp at ha
     | some y=>rw [hr] at ha; cases y with
      | none=>rw [hr] at hv; simp at hv
      | some z=>cases z with
       | none=>rw [hr] at hv; simp at hv; subst hv; intro b hb; cases hb
       | some q=>simp at ha
   · rw [List.getElem?_map] at ha
     unfold omF
     cases hr:m2.rho[o]? with
     | none=>rfl
     | some y=>rw [hr] at ha; simp at ha
   · rw [List.length_map,k1.lrho,g1.lrho]; simp [seed]; omega
   · rw [c1,k1.lth,g1.lth]; simp
   · rw [←hnu]; exact g2 m2 k1 vs hv
   · rw [←hnu]; have:=(k2 o x hx).1 m2 hle; rwa [Nat.zero_add] at this
   · obtain ⟨b,hb,hb2⟩:=(k2 o x hx).2 hlv
     rw [List.getElem?_map] at ha
     rw [Nat.zero_add] at hb
     rw [hb] at ha
     simp at ha
     exact hb2 a ha
   · have:=c3 a (List.mem_filterMap.2 ⟨some a,List.mem_of_getElem? (liveOf_get hi hx hlx),rfl⟩)
     simp at this
     exact this hin
   · have h0:(seed k ho.length)[o]?=some (some (some o)):=by
      unfold seed
      rw [List.getElem?_append_left (by simpa using hok),List.getElem?_map,List.getElem?_range hok]
      rfl
     have:=k1.rho o _ (g1.rho o _ h0)
     rw [List.getElem?_map,this]
     rfl
 · simp at h4
end Go.SX
