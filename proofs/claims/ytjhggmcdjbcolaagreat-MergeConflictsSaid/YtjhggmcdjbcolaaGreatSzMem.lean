/-
Memory: loads, stores, variables that are made, addresses.
-/
import Derived.Test.YtjhggmcdjbcolaaGreatSzBin
import Derived.Laws.Tables
import Derived.Laws.Slices
import Derived.Great.BuildSlice
import Derived.Deep.Upon
import Derived.Laws.Small
set_option linter.unusedVariables false
set_option linter.unusedSimpArgs false
set_option linter.unusedSectionVars false
namespace Go.SX
open Go.RowKit
section
variable {C:Cx} {σ:St} {ν:List D} {S:Nat→Prop} {ω:Nat→Option Value} {w:World} {r:List D} {a:Act} {o:Oper} {Q:Exit→Act→World→Prop} {K' : Delta→T}
theorem All2.map_right {α β γ:Type} {R:α→γ→Prop} {f:β→γ} {l:List α} {m:List β} (h:All2 (fun x y=>R x (f y)) l m):All2 R l (m.map f):=by
 induction h with
 | nil=>exact .nil
 | cons h _ ih=>exact .cons h ih
theorem All2.of_map {α β γ:Type} {R:γ→β→Prop} {f:α→γ} {l:List α} {m:List β} (h:All2 R (l.map f) m):All2 (fun x y=>R (f x) y) l m:=by
 induction l generalizing m with
 | nil=>cases h; exact .nil
 | cons x l ih=>cases h with
  | cons h1 h2=>exact .cons h1 (ih h2)
/-! ### Loads -/
theorem load_exec {t:TypeId} {x:Operand} (ho:o.op=.load t x) {v:Value} (h:(Instr.loadAt t (a.eval x)).run C.P w=.ok v w):(execOp a.eval o).run C.P w=.ok (.value v) w:=by
 unfold execOp
 simp [ho,h]
theorem rdp_cells {ti:TypeId→TI} {ks:List (K × E)} {b off:Nat} (h:∀ (c:Nat) k x,ks[c]?=some (k,x)→∃ u,w.cell? ⟨b,off+c,none⟩=some u∧Rd ti w S k (x.den ν) u) (n:Nat) :
 ∃ vs,All2 (SR ti w S ω ν) ((ks.take n).map ofKE) vs∧∀ (j:Nat) u,vs[j]?=some u→w.cell? ⟨b,off+j,none⟩=some u:=by
 induction ks generalizing n off with
 | nil=>exact ⟨[],by simpa using .nil,by simp⟩
 | cons p r ih =>
  cases n with
  | zero=>exact ⟨[],by simpa using .nil,by simp⟩
  | succ n =>
   obtain ⟨k,x⟩:=p
   obtain ⟨u,hu,hr⟩:=h 0 k x rfl
   obtain ⟨vs,h1,h2⟩:=ih (off:=off+1) (fun c k x hx=>by
    obtain ⟨u,hu,hr⟩:=h (c+1) k x (by simpa using hx)
    exact ⟨u,by rw [show off+1+c=off+(c+1) by omega]; exact hu,hr⟩) n
   refine ⟨u::vs,.cons hr h1,fun j u' hj=>?_⟩
   cases j with
   | zero=>simp at hj; subst hj; exact hu
   | succ j=>rw [show off+(j+1)=off+1+j by omega]; exact h2 j u' (by simpa using hj)
theorem elemCells_get {agg:Bool} {lv:List K} {x:E} {c:Nat} {k:K} {y:E} (h:(elemCells agg lv x)[c]?=some (k,y)):lv[c]?=some k∧∀ ν,y.den ν=cellD agg c (x.den ν):=by
 unfold elemCells at h
 cases agg with
 | true =>
  simp only [if_true,List.getElem?_map,List.getElem?_zipIdx] at h
  cases hc:lv[c]? with
  | none=>rw [hc] at h; simp at h
  | some k' =>
   rw [hc] at h
   simp at h
   obtain ⟨rfl,rfl⟩:=h
   exact ⟨rfl,fun ν=>rfl⟩
 | false =>
  simp only [Bool.false_eq_true,if_false,List.getElem?_map] at h
  cases hc:lv[c]? with
  | none=>rw [hc] at h; simp at h
  | some k' =>
   rw [hc] at h
   simp at h
   obtain ⟨rfl,rfl⟩:=h
   exact ⟨rfl,fun ν=>rfl⟩
theorem row_cells {ob:Nat} {t:TypeId} {x:E} (h:ObjR C.ti w S ω ν ob (.row t x)) {g n cap:Nat} (hω:ω ob=some (.slice (some ⟨g,0,none⟩) n cap)) {e:TypeId} {agg:Bool} {lv:List K} (hti:C.ti t=.sl e agg lv)
 {i:Int} (h0:0≤i) (hi:i < n) {ie:E} (hie:(ie.den ν).toInt=i):∀ (c:Nat) k y,(elemCells agg lv (.o2 .idx x ie))[c]?=some (k,y)→∃ u,w.cell? ⟨g,i.toNat * lv.length+c,none⟩=some u∧Rd C.ti w S k (y.den ν) u:=by
 intro c k y hy
 obtain ⟨hk,hd⟩:=elemCells_get hy
 obtain ⟨v,e',agg',lv',ds,vs,hv,hti',hx,hown,hc⟩:=h
 rw [hω] at hv
 cases hv
 rw [hti] at hti'
 cases hti'
 have hn:n=ds.length:=by
  rcases hown.2 with ⟨hv,_⟩ | ⟨g',cap',cur,hv,_⟩
  · simp at hv
  · simp at hv; omega
 subst hn
 have hj:i.toNat < ds.length:=by omega
 have hcl:c < lv.length:=(List.getElem?_eq_some_iff.1 hk).1
 have hlt:i.toNat * lv.length+c < vs.length:=by
  rw [hown.1]
  calc i.toNat * lv.length+c < i.toNat * lv.length+lv.length:=by omega
   _=(i.toNat+1) * lv.length:=by rw [Nat.add_mul]; simp
   _≤ds.length * lv.length:=Nat.mul_le_mul_right _ hj
 have h2:=hown.cells (g:=g) rfl (i.toNat * lv.length+c) (vs.getD (i.toNat * lv.length+c) undef) (by rw [List.getD_eq_getElem?_getD,List.getElem?_eq_getElem hlt]; rfl)
 rw [Addr.add_mid,Nat.zero_add] at h2
 refine ⟨_,h2,?_⟩
 rw [hd ν]
 have:=hc i.toNat c k hj hk
 simpa [E.den,O2.den,hx,D.toList,hie] using this
theorem data_cells {t:TypeId} {d:D} {v:Value} (h:Rd C.ti w S (.sl t) d v) {e:TypeId} {agg:Bool} {lv:List K} (hti:C.ti t=.sl e agg lv) {i:Int} (h0:0≤i) (hi:i < d.toList.length) :
 ∃ b off cap,v=.slice (some ⟨b,off,none⟩) d.toList.length cap∧S b∧∀ {x ie:E},x.den ν=d→(ie.den ν).toInt=i→∀ (c:Nat) k y,(elemCells agg lv (.o2 .idx x ie))[c]?=some (k,y)→∃ u,w.cell? ⟨b,off+(i.toNat * lv.length+c),none⟩=some u∧Rd C.ti w S k (y.den ν) u:=by
 cases h with
 | sl0 _ _ cap=>simp [D.toList] at hi; omega
 | sl _ e' agg' lv' xs b off cap u hti' hcap hS hc hr =>
  rw [hti] at hti'
  cases hti'
  refine ⟨b,off,cap,rfl,hS,fun {x ie} hx hie c k y hy=>?_⟩
  obtain ⟨hk,hd⟩:=elemCells_get hy
  have hj:i.toNat < xs.length:=by simp [D.toList] at hi; omega
  have hcl:c < lv.length:=(List.getElem?_eq_some_iff.1 hk).1
  refine ⟨_,hc i.toNat c hj hcl,?_⟩
  rw [hd ν]
  have:=hr i.toNat c k hj hk
  simpa [E.den,O2.den,hx,D.toList,hie] using this
theorem drop_get {α:Type} (l:List α) (n i:Nat):(l.drop n)[i]?=l[n+i]?:=by rw [List.getElem?_drop]
theorem Rd.len {ti:TypeId→TI} {t:TypeId} {d:D} {a:Option Addr} {n cap:Nat} (h:Rd ti w S (.sl t) d (.slice a n cap)):d.toList.length=n:=by
 cases h <;> rfl
theorem loadE_inv {ti:TypeId→TI} {t ts:TypeId} {sz off:Nat} {x i:E} {R:RL} (hr:(stepLoadE ti t ts sz x i off σ K').Run R ν r) :
 ∃ e agg lv sv,ti ts=.sl e agg lv∧sz=lv.length∧mkSV ti t ((((elemCells agg lv (.o2 .idx x i)).drop off).take (ti t).size).map ofKE)=some sv∧(okDst K' σ (.v sv)).Run R ν r:=by
 unfold stepLoadE at hr
 split at hr
 · rename_i e agg lv hti
   split at hr
   · rename_i hsz
     split at hr
     · rename_i sv hm
       exact ⟨e,agg,lv,sv,hti,hsz,hm,hr⟩
     · exact hr.elim
   · exact hr.elim
 · exact hr.elim
theorem sv_cells {b:Nat}:∀ (l:List SV1) (off n:Nat),(∀ (c:Nat) s,l[c]?=some s→∃ u,w.cell? ⟨b,off+c,none⟩=some u∧SR C.ti w S ω ν s u) →
 ∃ vs,All2 (SR C.ti w S ω ν) (l.take n) vs∧∀ (j:Nat) u,vs[j]?=some u→w.cell? ⟨b,off+j,none⟩=some u
 | [],off,n,_=>⟨[],by simp; exact .nil,fun j u hj=>by simp at hj⟩
 | s::l,off,0,_=>⟨[],.nil,fun j u hj=>by simp at hj⟩
 | s::l,off,n+1,hc=>by
  obtain ⟨u,h1,h2⟩:=hc 0 s rfl
  obtain ⟨vs,h3,h4⟩:=sv_cells l (off+1) n fun c s' hs'=>by
   obtain ⟨u,h1,h2⟩:=hc (c+1) s' (by simpa using hs')
   exact ⟨u,by rw [show off+1+c=off+(c+1) by omega]; exact h1,h2⟩
  refine ⟨u::vs,.cons h2 h3,fun j v hj=>?_⟩
  cases j with
  | zero=>simp at hj; subst hj; exact h1
  | succ j=>rw [show off+(j+1)=off+1+j by omega]; exact h4 j v (by simpa using hj)
theorem NCell.flat {ti:TypeId→TI} {S' : Nat→Prop} {k:K} {d:D} {v:Value} (h:NCell ti w k d v) (hk:∀ t,k≠.sl t):Rd ti w S' k d v:=by
 cases k with
 | sl t=>exact absurd rfl (hk t)
 | _=>exact Rd.sub h fun _ h=>h.elim
theorem deep_cells {ob:Nat} {ts:TypeId} {x:E} (h:ObjR C.ti w S ω ν ob (.deep ts x)) {u:Value} {g n cap:Nat} (hω:ω ob=some u) (hh:hdV u=.slice (some ⟨g,0,none⟩) n cap) {e:TypeId} {lv:List K} (hti:C.ti ts=.sl e true lv)
 {i:E} (h0:0≤(i.den ν).toInt) (hi:(i.den ν).toInt < n):∀ (c:Nat) s,(deepCells ts lv ob x i)[c]?=some s→∃ v,w.cell? ⟨g,(i.den ν).toInt.toNat * lv.length+c,none⟩=some v∧SR C.ti w S ω ν s v:=by
 intro c s hs
 obtain ⟨u',e',lv',ds,hω',hti',hx,hown,hcells,_,_⟩:=h
 rw [hω] at hω'
 obtain rfl:=Option.some.inj hω'
 rw [hti] at hti'
 cases hti'
 have hn:n=ds.length:=by
  rcases hown.2 with ⟨hv',hn'⟩ | ⟨g',cap',cur,hv',_⟩
  · rw [hh] at hv'; cases hv'
  · rw [hh] at hv'; cases hv'; rfl
 have hj:(i.den ν).toInt.toNat < ds.length:=by omega
 unfold deepCells at hs
 rw [List.getElem?_map,List.getElem?_zipIdx] at hs
 cases hk:lv[c]? with
 | none=>rw [hk] at hs; simp at hs
 | some k =>
  rw [hk] at hs
  simp only [Option.map_some,Nat.zero_add,Option.some.injEq] at hs
  have hcl:c < lv.length:=(List.getElem?_eq_some_iff.1 hk).1
  have hlt:(i.den ν).toInt.toNat * lv.length+c < (tlV u).length:=by rw [hown.1]; exact cellIdx_lt hj hcl
  have h2:=hown.cells (g:=g) (by rw [hh]; rfl) ((i.den ν).toInt.toNat * lv.length+c) ((tlV u).getD ((i.den ν).toInt.toNat * lv.length+c) undef) (by rw [List.getD_eq_getElem?_getD,List.getElem?_eq_getElem hlt]; rfl)
  rw [Addr.add_mid,Nat.zero_add] at h2
  refine ⟨_,h2,?_⟩
  have hc:=hcells (i.den ν).toInt.toNat c k hj hk
  cases k with
  | sl t' =>
   subst hs
   have hc':=hc
   obtain ⟨_,_,ns,_,_,_,⟨a,cap',hv⟩,_⟩:=hc
   exact ⟨u,g,n,cap,e,lv,hti,hk,hω,hh,h0,hi,rfl,a,ns.length,cap',hv⟩
  | _ =>
   subst hs
   show Rd C.ti w S _ _ _
   have:=NCell.flat (S':=S) hc (by intro t h; cases h)
   simpa [E.den,O1.den,O2.den,hx,D.toList,cellD] using this
theorem loadD_inv {ti:TypeId→TI} {t ts:TypeId} {ob sz off:Nat} {x i:E} {R:RL} (hr:(stepLoadD ti t ts ob sz x i off σ K').Run R ν r) :
 ∃ e lv sv,ti ts=.sl e true lv∧sz=lv.length∧mkSV ti t (((deepCells ts lv ob x i).drop off).take (ti t).size)=some sv∧(okDst K' σ (.v sv)).Run R ν r:=by
 unfold stepLoadD at hr
 split at hr
 · rename_i e lv hti
   split at hr
   · rename_i hsz
     split at hr
     · rename_i sv hm
       exact ⟨e,lv,sv,hti,hsz,hm,hr⟩
     · exact hr.elim
   · exact hr.elim
 · exact hr.elim
theorem nest_cell {ob c:Nat} {ts tn:TypeId} {x i k:E} {v:Value} (h:ObjR C.ti w S ω ν ob (.deep ts x)) (hv:SR C.ti w S ω ν (.pn ob ts i c tn k) v) {e:TypeId} {kk:K} (hti:C.ti tn=.sl e false [kk]) :
 ∃ u,v=.pointer (some ⟨u,(k.den ν).toInt.toNat,none⟩)∧∃ z,w.cell? ⟨u,(k.den ν).toInt.toNat,none⟩=some z∧Rd C.ti w S kk ((E.o2 .idx (nestE x i c) k).den ν) z:=by
 obtain ⟨u,g,n,cap,g',m,q,e1,lv,hts,hc,hω,hh,h0,h1,hcell,hv,k0,k1⟩:=hv
 obtain ⟨hN,_⟩:=deep_nest (v:=.slice (some ⟨g',0,none⟩) m q) h (i:=i) (c:=c) (t':=tn) ⟨u,g,n,cap,e1,lv,hts,hc,hω,hh,h0,h1,hcell.symm,_,_,_,rfl⟩
 obtain ⟨e2,k2,ns,hti2,hfl,hns,⟨a,cap',hv'⟩,hne⟩:=hN
 rw [hti] at hti2
 cases hti2
 simp only [Value.slice.injEq] at hv'
 obtain ⟨_,rfl,_⟩:=hv'
 have hne0:ns≠[]:=by rintro rfl; simp at k1; omega
 obtain ⟨us,hown,hr⟩:=hne hne0
 have hj:(k.den ν).toInt.toNat < ns.length:=by omega
 have hlt:(k.den ν).toInt.toNat < us.length:=by rw [hown.1]; omega
 have h2:=hown.cells (g:=g') rfl (k.den ν).toInt.toNat (us.getD (k.den ν).toInt.toNat undef) (by rw [List.getD_eq_getElem?_getD,List.getElem?_eq_getElem hlt]; rfl)
 rw [Addr.add_lit,Nat.zero_add] at h2
 refine ⟨g',hv,_,h2,?_⟩
 have:=(hr _ hj).sub (S':=S) fun _ h=>h.elim
 have hd:(E.o2 .idx (nestE x i c) k).den ν=ns.getD (k.den ν).toInt.toNat default:=by
  show ((nestE x i c).den ν).toList.getD _ _=_
  have:(nestE x i c).den ν=.list ns:=hns
  rw [this]
  rfl
 rw [hd]
 exact this
theorem stepLoad_sound (hT:TyOK C.P C.ti) (h:Sim C σ ν S ω a.tmps w) {t:TypeId} {x:Operand} (ho:o.op=.load t x) {s:SV1} (hx:SR C.ti w S ω ν s (a.eval x)) (hr:(stepLoad C.ti t s σ K').Run C.R ν r) :
 o.wp C.P a w (Post C σ ω o.dst K' r a.defers) Q:=by
 have go:∀ {cs:List SV1} {sv:SV} {b off:Nat} {vs:List Value},mkSV C.ti t cs=some sv→All2 (SR C.ti w S ω ν) cs vs→(∀ (j:Nat) u,vs[j]?=some u→w.cell? ⟨b,off+j,none⟩=some u) →
  a.eval x=.pointer (some ⟨b,off,none⟩)→(okDst K' σ (.v sv)).Run C.R ν r→o.wp C.P a w (Post C σ ω o.dst K' r a.defers) Q:=by
  intro cs sv b off vs hm hc hcell hv hK
  obtain ⟨v,hrun,hsv⟩:=load_cells hT hm hc hcell
  exact post_pure h (load_exec ho (by rw [hv]; exact hrun)) hK hsv
 cases s with
 | p ob off =>
  simp only [stepLoad] at hr
  split at hr
  · rename_i cs hob
    split at hr
    · rename_i sv hm
      obtain ⟨b,hb,hv⟩:=hx
      obtain ⟨b',t',vs,hω,hh,hcs⟩:=h.objs ob _ hob
      rw [hb] at hω
      cases hω
      refine go hm ((hcs.drop off).take _) (fun j u hj=>?_) hv hr
      rw [cell_of_row w b (off+j) vs t' (0,0) hh]
      rw [List.getElem?_take] at hj
      split at hj
      · rw [List.getElem?_drop] at hj; simpa using hj
      · cases hj
    · exact hr.elim
  · rename_i ks hob
    split at hr
    · rename_i sv hm
      obtain ⟨b,hb,hv⟩:=hx
      obtain ⟨b',hω,b2,off2,hp,_,hc⟩:=h.objs ob _ hob
      rw [hb] at hω
      cases hω
      simp only [Value.pointer.injEq,Option.some.injEq,Addr.mk.injEq,and_true] at hp
      obtain ⟨rfl,rfl⟩:=hp
      obtain ⟨vs,h1,h2⟩:=rdp_cells (S:=S) (ν:=ν) (ω:=ω) (b:=b) (off:=off) (ks:=ks.drop off) (fun c k y hy=>by
       rw [drop_get] at hy
       obtain ⟨u,h1,h2⟩:=hc _ k y hy
       exact ⟨u,by rw [Nat.zero_add] at h1; exact h1,h2⟩) (C.ti t).size
      exact go hm h1 h2 hv hr
    · exact hr.elim
  · exact hr.elim
 | r ks =>
  simp only [stepLoad] at hr
  split at hr
  · rename_i sv hm
    obtain ⟨b,off,hv,_,hc⟩:=hx
    obtain ⟨vs,h1,h2⟩:=rdp_cells (ω:=ω) hc (C.ti t).size
    exact go hm h1 h2 hv hr
  · exact hr.elim
 | po ob sz i off =>
  obtain ⟨g,n,cap,hω,hv,h0,hi⟩:=hx
  simp only [stepLoad] at hr
  split at hr
  · rename_i ts x hob
    obtain ⟨e,agg,lv,sv,hti,rfl,hm,hr⟩:=loadE_inv hr
    have hc:=row_cells (h.objs ob _ hob) hω hti h0 hi (ie:=i) rfl
    obtain ⟨vs,h1,h2⟩:=rdp_cells (S:=S) (ν:=ν) (ω:=ω) (b:=g) (off:=(i.den ν).toInt.toNat * lv.length+off) (ks:=(elemCells agg lv (.o2 .idx x i)).drop off) (fun c k y hy=>by
     rw [drop_get] at hy
     obtain ⟨u,h1,h2⟩:=hc _ k y hy
     exact ⟨u,by rw [Nat.add_assoc]; exact h1,h2⟩) (C.ti t).size
    exact go hm h1 h2 hv hr
  · rename_i ts x hob
    obtain ⟨e,agg,lv,sv,hti,rfl,hm,hr⟩:=loadE_inv hr
    obtain ⟨v,hω',hd⟩:=h.objs ob _ hob
    rw [hω] at hω'
    cases hω'
    have hlen:(x.den ν).toList.length=n:=hd.len
    obtain ⟨b,off',cap',hv',hS,hc⟩:=data_cells hd hti h0 (by rw [hlen]; exact hi)
    simp only [Value.slice.injEq,Option.some.injEq,Addr.mk.injEq] at hv'
    obtain ⟨⟨rfl,rfl,_⟩,_,_⟩:=hv'
    obtain ⟨vs,h1,h2⟩:=rdp_cells (S:=S) (ν:=ν) (ω:=ω) (b:=g) (off:=(i.den ν).toInt.toNat * lv.length+off) (ks:=(elemCells agg lv (.o2 .idx x i)).drop off) (fun c k y hy=>by
     rw [drop_get] at hy
     obtain ⟨u,h1,h2⟩:=hc (ie:=i) rfl rfl _ k y hy
     exact ⟨u,by rw [Nat.add_assoc]; simpa using h1,h2⟩) (C.ti t).size
    exact go hm h1 h2 hv hr
  · exact hr.elim
 | pd ob sz i off =>
  obtain ⟨u,g,n,cap,hω,hh,hv,h0,hi⟩:=hx
  simp only [stepLoad] at hr
  split at hr
  · rename_i ts x hob
    obtain ⟨e,lv,sv,hti,rfl,hm,hr⟩:=loadD_inv hr
    have hc:=deep_cells (h.objs ob _ hob) hω hh hti h0 hi
    obtain ⟨vs,h1,h2⟩:=sv_cells (C:=C) (S:=S) (ν:=ν) (ω:=ω) (w:=w) (b:=g) ((deepCells ts lv ob x i).drop off) ((i.den ν).toInt.toNat * lv.length+off) (C.ti t).size (fun c s hy=>by
     rw [drop_get] at hy
     obtain ⟨u,h1,h2⟩:=hc _ s hy
     exact ⟨u,by rw [Nat.add_assoc]; exact h1,h2⟩)
    exact go hm h1 h2 hv hr
  · exact hr.elim
 | pn ob ts i c tn k =>
  simp only [stepLoad] at hr
  split at hr
  · rename_i t' x hob
    split at hr
    · rename_i he
      subst he
      unfold stepLoadN at hr
      split at hr
      · rename_i e kk hti
        split at hr
        · rename_i sv hm
          obtain ⟨g,hv,z,h1,h2⟩:=nest_cell (h.objs ob _ hob) hx hti
          exact go (vs:=[z]) hm (.cons h2 .nil) (fun j u hj=>by
           cases j with
           | zero=>simp at hj; subst hj; exact h1
           | succ j=>simp at hj) hv hr
        · exact hr.elim
      · exact hr.elim
    · exact hr.elim
  · exact hr.elim
 | _=>exact hr.elim
end
end Go.SX
namespace Go.SX
open Go.RowKit
section
variable {C:Cx} {σ:St} {ν:List D} {S:Nat→Prop} {ω:Nat→Option Value} {w:World} {r:List D} {a:Act} {o:Oper} {Q:Exit→Act→World→Prop} {K' : Delta→T}
theorem Fr_alloc (w:World) (ob:Obj):Fr w (fun _=>False) (w.alloc ob):=⟨rfl,rfl,rfl,by simp,fun k hk _=>heap_alloc_old w ob k hk⟩
theorem Sim.newBlock {tm:Array Value} (h:Sim C σ ν S ω tm w) (hn:NbOK σ ω 1) {w' : World} {x:SObj} {v:Value} (hf:Fr w (fun _=>False) w') (hlt:∀ b,Blk v b→b=w.heap.size∧b < w'.heap.size)
 (ho:ObjR C.ti w' S (upd1 ω σ.nb v) ν σ.nb x):Sim C { σ with objs:=place σ.objs σ.nb [x] } ν S (upd1 ω σ.nb v) tm w':=by
 obtain ⟨h1,h2,_⟩:=hn.one h
 refine (h.grow hf).new h1 h2 (fun b hl hb=>?_) ho
 obtain ⟨hb1,h2⟩:=hlt b hb
 subst hb1
 refine ⟨fun hS=>Nat.lt_irrefl _ (h.stab _ hS),h2,.inl h.frame.size,fun o x ho hl he=>?_⟩
 exact Nat.lt_irrefl _ (h.own o x _ ho hl he).2.1
theorem Sim.app_of {tm:Array Value} {δ:Delta} {objs:List SObj} {ω' : Nat→Option Value} {ν' : List D} {S' : Nat→Prop} (h:Sim C { σ with objs:=objs } ν' S' ω' tm w) (ho:σ.objsOf δ=objs) (hd:δ.dn=0):Sim C (σ.app none δ) ν' S' ω' tm w:=by
 have:σ.app none δ={ σ with objs:=objs,nb:=objs.length,vb:=σ.nv }:=by simp [St.app,ho,hd]
 rw [this]
 exact h.renb _ _
theorem objsOf_new (σ:St) (s:Slot) (x:SObj):σ.objsOf { dst:=s,upd:=[],new:=[x],fz:=[],dn:=0 }=place σ.objs σ.nb [x]:=by
 simp [St.objsOf,freeze_nil,upds]
theorem upd1_self (ω:Nat→Option Value) (n:Nat) (v:Value):upd1 ω n v n=some v:=by simp [upd1]
theorem All2.sr_grow {l:List SV1} {vs:List Value} (hw:∀ b,S b→b < w.heap.size) {w' : World} (hf:Fr w (fun _=>False) w') {n:Nat} (hn:ω n=none) (v:Value)
 (h:All2 (SR C.ti w S ω ν) l vs):All2 (SR C.ti w' S (upd1 ω n v) ν) l vs :=
 h.imp fun _ _ k=>k.mono (fun b hb=>hf.block b (hw b hb) (fun h=>h)) (fun _ h=>h) (upd1_le hn v)
theorem newVar_sim {tm:Array Value} (h:Sim C σ ν S ω tm w) (hn:NbOK σ ω 1) {cs:List SV1} {vs:Array Value} (t:TypeId) (hc:All2 (SR C.ti w S ω ν) cs vs.toList) :
 Sim C { σ with objs:=place σ.objs σ.nb [.box cs] } ν S (upd1 ω σ.nb (.pointer (some ⟨w.heap.size,0,none⟩))) tm (w.alloc (.cells vs t)):=by
 refine h.newBlock hn (Fr_alloc w _) (fun b hb=>?_) ?_
 · simp [Blk,blk] at hb; subst hb; exact ⟨rfl,by simp⟩
 · exact ⟨w.heap.size,t,vs,upd1_self _ _ _,heap_alloc_new w _,hc.sr_grow h.stab (Fr_alloc w _) (hn.one h).1 _⟩
theorem zero_sound {k:Option K} {v:Value} (h:ZeroV k v):SR C.ti w S ω ν (zero1 k) v:=by
 cases k with
 | none=>exact h
 | some k=>cases k with
  | int k=>obtain rfl:=h; exact .int _ _
  | bool=>obtain rfl:=h; exact .bool _
  | str=>obtain rfl:=h; exact .str _
  | sl t=>exact h
theorem zeros_sound {l:List (Option K)} {vs:List Value} (h:All2 ZeroV l vs):All2 (SR C.ti w S ω ν) (l.map zero1) vs:=All2.mapL (h.imp fun _ _ k=>zero_sound k)
theorem stepAlloc_sound (hT:TyOK C.P C.ti) (h:Sim C σ ν S ω a.tmps w) (hn:NbOK σ ω 1) {t:TypeId} (ho:o.op=.alloc t) (hr:(stepAlloc C.ti t σ K').Run C.R ν r):o.wp C.P a w (Post C σ ω o.dst K' r a.defers) Q:=by
 unfold stepAlloc at hr
 split at hr
 · rename_i hb
   have key:∃ i z,C.P.info? t=some i∧i.zero=some z∧All2 (SR C.ti w S ω ν) (zeroSV C.ti t).cells z.cells.toList:=by
    have ht:=hT t
    unfold TyF at ht
    unfold zeroSV
    cases hti:C.ti t with
    | one k =>
     rw [hti] at ht
     obtain ⟨d,z,⟨_,_,i,h1,_,h2⟩,_,hz⟩:=ht
     have hs:=zero_sound (C:=C) (w:=w) (S:=S) (ω:=ω) (ν:=ν) hz
     exact ⟨i,z,h1,h2,by simpa [kindOf,SV.cells] using SVR.cells (sv:=.c (zero1 (some k))) hs⟩
    | sl e agg lv =>
     rw [hti] at ht
     obtain ⟨⟨_,_,i,h1,_,h2⟩,_⟩:=ht
     exact ⟨i,_,h1,h2,by simpa [kindOf,SV.cells,zero1] using SVR.cells (w:=w) (S:=S) (ω:=ω) (ν:=ν) (ti:=C.ti) (sv:=.c (.nil t)) rfl⟩
    | ag st lv fs =>
     rw [hti] at ht
     obtain ⟨i,z,d,_,_,h1,_,h2,hz,_⟩:=ht
     exact ⟨i,_,h1,h2,zeros_sound hz⟩
    | other =>
     rw [hti] at ht
     obtain ⟨d,z,⟨_,_,i,h1,_,h2⟩,hz⟩:=ht
     have hs:=zero_sound (C:=C) (w:=w) (S:=S) (ω:=ω) (ν:=ν) (k:=none) hz
     exact ⟨i,z,h1,h2,by simpa [kindOf,SV.cells] using SVR.cells (sv:=.c (zero1 none)) hs⟩
    | bad=>exact absurd hti hb
   obtain ⟨i,z,hi,hz,hc⟩:=key
   refine post_val (v:=.pointer (some ⟨w.heap.size,0,none⟩)) (w':=w.alloc (.cells z.cells t)) ?_ hr ((newVar_sim h hn t hc).app_of (objsOf_new _ _ _) rfl) (NewAt.upd _ _ _) ⟨w.heap.size,upd1_self _ _ _,rfl⟩
   unfold execOp
   simp [ho,Instr.alloc,zeroValue_run hi hz,newVar,newRow]
 · exact hr.elim
theorem stepBox_sound (h:Sim C σ ν S ω a.tmps w) (hn:NbOK σ ω 1) {t:TypeId} {x:Operand} {sv:SV} (ho:o.op=.box t x) (hx:SVR C.ti w S ω ν sv (a.eval x)) (hr:(stepBox sv σ K').Run C.R ν r):o.wp C.P a w (Post C σ ω o.dst K' r a.defers) Q:=by
 refine post_val (v:=.pointer (some ⟨w.heap.size,0,none⟩)) (w':=w.alloc (.cells (a.eval x).cells t)) ?_ hr ((newVar_sim h hn t hx.cells).app_of (objsOf_new _ _ _) rfl) (NewAt.upd _ _ _) ⟨w.heap.size,upd1_self _ _ _,rfl⟩
 unfold execOp
 simp [ho,Instr.box,newVar,newRow]
/-! ### Addresses -/
theorem SR.ptr {s:SV1} {v:Value} (h:SR C.ti w S ω ν s v) (hs:(∃ o off,s=.p o off) ∨ (∃ o sz i off,s=.po o sz i off) ∨ ∃ ks,s=.r ks):∃ b off,v=.pointer (some ⟨b,off,none⟩):=by
 rcases hs with ⟨o,off,rfl⟩ | ⟨o,sz,i,off,rfl⟩ | ⟨ks,rfl⟩
 · obtain ⟨b,_,rfl⟩:=h; exact ⟨_,_,rfl⟩
 · obtain ⟨g,n,cap,_,rfl,_⟩:=h; exact ⟨_,_,rfl⟩
 · obtain ⟨b,off,rfl,_⟩:=h; exact ⟨_,_,rfl⟩
theorem SR.ptrD {s:SV1} {v:Value} (h:SR C.ti w S ω ν s v) (hs:(∃ o sz i off,s=.pd o sz i off) ∨ ∃ o ts i c t k,s=.pn o ts i c t k):∃ b off,v=.pointer (some ⟨b,off,none⟩):=by
 rcases hs with ⟨o,sz,i,off,rfl⟩ | ⟨o,ts,i,c,t,k,rfl⟩
 · obtain ⟨_,_,_,_,_,_,rfl,_⟩:=h; exact ⟨_,_,rfl⟩
 · obtain ⟨_,_,_,_,_,_,_,_,_,_,_,_,_,_,_,_,rfl,_⟩:=h; exact ⟨_,_,rfl⟩
theorem stepNilCheck_sound (h:Sim C σ ν S ω a.tmps w) {x:Operand} {s:SV1} (ho:o.op=.nilCheck x) (hx:SR C.ti w S ω ν s (a.eval x)) (hr:(stepNilCheck s σ K').Run C.R ν r):o.wp C.P a w (Post C σ ω o.dst K' r a.defers) Q:=by
 have go:∀ b off,a.eval x=.pointer (some ⟨b,off,none⟩)→(ok1 K' σ s).Run C.R ν r→o.wp C.P a w (Post C σ ω o.dst K' r a.defers) Q:=by
  intro b off hv hK
  refine post_one h (v:=a.eval x) ?_ hK hx
  unfold execOp
  simp [ho,hv]
 unfold stepNilCheck at hr
 split at hr
 · obtain ⟨b,off,hv⟩:=hx.ptr (.inl ⟨_,_,rfl⟩); exact go b off hv hr
 · obtain ⟨b,off,hv⟩:=hx.ptr (.inr (.inl ⟨_,_,_,_,rfl⟩)); exact go b off hv hr
 · obtain ⟨b,off,hv⟩:=hx.ptrD (.inl ⟨_,_,_,_,rfl⟩); exact go b off hv hr
 · obtain ⟨b,off,hv⟩:=hx.ptrD (.inr ⟨_,_,_,_,_,_,rfl⟩); exact go b off hv hr
 · obtain ⟨b,off,hv⟩:=hx.ptr (.inr (.inr ⟨_,rfl⟩)); exact go b off hv hr
 · exact hr.elim
theorem RdP.drop {ks:List (K × E)} {b off:Nat} (h:RdP C.ti w S ν ks (.pointer (some ⟨b,off,none⟩))) (n:Nat):RdP C.ti w S ν (ks.drop n) (.pointer (some ⟨b,off+n,none⟩)):=by
 obtain ⟨b',off',hv,hb,hc⟩:=h
 cases hv
 refine ⟨b,off+n,rfl,fun hk=>hb fun he=>hk (by rw [he]; simp),fun c k x hx=>?_⟩
 rw [drop_get] at hx
 obtain ⟨u,h1,h2⟩:=hc _ k x hx
 exact ⟨u,by rw [Nat.add_assoc]; exact h1,h2⟩
theorem addr_on {s:SV1} {v:Value} (h:SR C.ti w S ω ν s v) (fo:Nat) :
 (∀ o off,s=.p o off→∃ b of2,v=.pointer (some ⟨b,of2,none⟩)∧SR C.ti w S ω ν (.p o (off+fo)) (.pointer (some ⟨b,of2+fo,none⟩))) ∧
 (∀ o sz i off,s=.po o sz i off→∃ b of2,v=.pointer (some ⟨b,of2,none⟩)∧SR C.ti w S ω ν (.po o sz i (off+fo)) (.pointer (some ⟨b,of2+fo,none⟩))) ∧
 (∀ ks,s=.r ks→∃ b of2,v=.pointer (some ⟨b,of2,none⟩)∧SR C.ti w S ω ν (.r (ks.drop fo)) (.pointer (some ⟨b,of2+fo,none⟩))):=by
 refine ⟨fun o off hs=>?_,fun o sz i off hs=>?_,fun ks hs=>?_⟩
 · subst hs
   obtain ⟨b,h1,rfl⟩:=h
   exact ⟨_,_,rfl,b,h1,rfl⟩
 · subst hs
   obtain ⟨g,n,cap,h1,rfl,h2⟩:=h
   exact ⟨_,_,rfl,g,n,cap,h1,by rw [Nat.add_assoc],h2⟩
 · subst hs
   obtain ⟨b,off,rfl,h1⟩:=h
   exact ⟨_,_,rfl,RdP.drop ⟨b,off,rfl,h1⟩ fo⟩
theorem addr_on_pd {o sz:Nat} {i:E} {off:Nat} {v:Value} (h:SR C.ti w S ω ν (.pd o sz i off) v) (fo:Nat) :
 ∃ b of2,v=.pointer (some ⟨b,of2,none⟩)∧SR C.ti w S ω ν (.pd o sz i (off+fo)) (.pointer (some ⟨b,of2+fo,none⟩)):=by
 obtain ⟨u,g,n,cap,h1,hh,rfl,h2⟩:=h
 exact ⟨_,_,rfl,u,g,n,cap,h1,hh,by rw [Nat.add_assoc],h2⟩
theorem ag_struct (hT:TyOK C.P C.ti) {t:TypeId} {lv:List (Option K)} {fs:List (Nat × Nat × Bool)} (hti:C.ti t=.ag true lv fs) :
 ∃ fields,C.P.underlying t=some (.struct fields)∧fields.size=fs.length∧∀ (j:Nat) f,fields[j]?=some f→∃ i,C.P.info? f.type=some i∧fs[j]?=some (f.offset,i.size,aggB C.P f.type)∧0 < i.size∧f.offset+i.size≤lv.length∧(aggB C.P f.type=false→i.size=1)∧(∃ d,C.P.underlying f.type=some d):=by
 have ht:=hT t
 unfold TyF at ht
 rw [hti] at ht
 obtain ⟨i,z,d,h1,_,_,_,_,_,h2⟩:=ht
 rcases h2 with ⟨f',_,rfl,h3,h4⟩ | ⟨n,e,i,hd,_⟩
 · exact ⟨f',h1,h3,h4⟩
 · cases hd
theorem ag_array (hT:TyOK C.P C.ti) {t:TypeId} {lv:List (Option K)} {fs:List (Nat × Nat × Bool)} (hti:C.ti t=.ag false lv fs) :
 ∃ n e i,C.P.underlying t=some (.array n e)∧C.P.info? e=some i∧0 < i.size∧fs.length=n∧(∀ j,j < n→fs[j]?=some (j * i.size,i.size,aggB C.P e))∧lv.length=n * i.size∧(aggB C.P e=false→i.size=1)∧(∃ d,C.P.underlying e=some d):=by
 have ht:=hT t
 unfold TyF at ht
 rw [hti] at ht
 obtain ⟨i,z,d,h1,_,_,_,_,_,h2⟩:=ht
 rcases h2 with ⟨f',hf,_⟩ | ⟨n',e',i,_,rfl,h3⟩
 · cases hf
 · exact ⟨n',e',i,h1,h3⟩
theorem field_get (hT:TyOK C.P C.ti) {t:TypeId} {lv:List (Option K)} {fs:List (Nat × Nat × Bool)} (hti:C.ti t=.ag true lv fs) {j fo sz:Nat} {ag:Bool} (hj:fs[j]?=some (fo,sz,ag)) :
 ∃ fields f i,C.P.underlying t=some (.struct fields)∧fields[j]?=some f∧C.P.info? f.type=some i∧fo=f.offset∧sz=i.size∧ag=aggB C.P f.type∧0 < i.size∧(aggB C.P f.type=false→i.size=1)∧(∃ d,C.P.underlying f.type=some d):=by
 obtain ⟨fields,hu,hs,hf⟩:=ag_struct hT hti
 have hlt:j < fields.size:=by rw [hs]; exact (List.getElem?_eq_some_iff.1 hj).1
 have hg:fields[j]?=some fields[j]:=Array.getElem?_eq_getElem hlt
 obtain ⟨i,h1,h2,h3,h4,h5,h6⟩:=hf j _ hg
 rw [hj] at h2
 simp only [Option.some.injEq,Prod.mk.injEq] at h2
 exact ⟨fields,_,i,hu,hg,h1,h2.1,h2.2.1,h2.2.2,h3,h5,h6⟩
theorem run_fieldAt_ok (hT:TyOK C.P C.ti) {t:TypeId} {lv:List (Option K)} {fs:List (Nat × Nat × Bool)} (hti:C.ti t=.ag true lv fs) {j fo sz:Nat} {ag:Bool} (hj:fs[j]?=some (fo,sz,ag)) (b off:Nat) :
 (Instr.fieldAt t (.pointer (some ⟨b,off,none⟩)) j).run C.P w=.ok (.pointer (some ⟨b,off+fo,none⟩)) w:=by
 obtain ⟨fields,f,i,hu,hf,hi,rfl,rfl,_,h0,_⟩:=field_get hT hti hj
 have hsz:i.size≠0:=by omega
 simp [Instr.fieldAt,run_underlying hu,hf,Instr.sureAddr,fieldPlace,sizeOf_run hi,hsz,Addr.add_mid]
theorem stepFieldAddr_sound (hT:TyOK C.P C.ti) (h:Sim C σ ν S ω a.tmps w) {t:TypeId} {x:Operand} {j:Nat} {s:SV1} (ho:o.op=.fieldAddr t x j) (hx:SR C.ti w S ω ν s (a.eval x)) (hr:(stepFieldAddr C.ti t j s σ K').Run C.R ν r) :
 o.wp C.P a w (Post C σ ω o.dst K' r a.defers) Q:=by
 unfold stepFieldAddr at hr
 split at hr
 · rename_i lv fs hti
   have go:∀ {fo sz:Nat} {ag:Bool} {b of2:Nat} {s' : SV1},fs[j]?=some (fo,sz,ag)→a.eval x=.pointer (some ⟨b,of2,none⟩)→SR C.ti w S ω ν s' (.pointer (some ⟨b,of2+fo,none⟩))→(ok1 K' σ s').Run C.R ν r→o.wp C.P a w (Post C σ ω o.dst K' r a.defers) Q:=by
    intro fo sz ag b of2 s' hj hv hs hK
    refine post_one h ?_ hK hs
    unfold execOp
    simp [ho,hv,run_fieldAt_ok hT hti hj]
   split at hr
   · rename_i fo sz ag o' off hj
     obtain ⟨b,of2,h1,h2⟩:=(addr_on hx fo).1 _ _ rfl
     exact go hj h1 h2 hr
   · rename_i fo sz ag o' sz' i off hj
     obtain ⟨b,of2,h1,h2⟩:=(addr_on hx fo).2.1 _ _ _ _ rfl
     exact go hj h1 h2 hr
   · rename_i fo sz ag o' sz' i off hj
     obtain ⟨b,of2,h1,h2⟩:=addr_on_pd hx fo
     exact go hj h1 h2 hr
   · rename_i fo sz ag ks hj
     obtain ⟨b,of2,h1,h2⟩:=(addr_on hx fo).2.2 _ rfl
     exact go hj h1 h2 hr
   · exact hr.elim
 · exact hr.elim
theorem run_indexAt_arr (hT:TyOK C.P C.ti) {t:TypeId} {lv:List (Option K)} {fs:List (Nat × Nat × Bool)} (hti:C.ti t=.ag false lv fs) {n:Int} (h0:0≤n) {fo sz:Nat} {ag:Bool} (hj:fs[n.toNat]?=some (fo,sz,ag)) (b off:Nat) (k:IntKind) :
 (Instr.indexAt t (.pointer (some ⟨b,off,none⟩)) (.int k n)).run C.P w=.ok (.pointer (some ⟨b,off+fo,none⟩)) w:=by
 obtain ⟨m,e,i,hu,hi,hs,hl,hg,_⟩:=ag_array hT hti
 have hlt:n.toNat < m:=by rw [←hl]; exact (List.getElem?_eq_some_iff.1 hj).1
 rw [hg _ hlt] at hj
 simp only [Option.some.injEq,Prod.mk.injEq] at hj
 obtain ⟨rfl,rfl,rfl⟩:=hj
 have hlt' : n < m:=by omega
 simp [Instr.indexAt,asIntOf,run_underlying hu,Instr.sureAddr,h0,hlt',sizeOf_run hi,Addr.add_mid]
theorem run_indexAt_sl (hT:TyOK C.P C.ti) {t e:TypeId} {agg:Bool} {lv:List K} (hti:C.ti t=.sl e agg lv) {i:Int} {n cap b off:Nat} (h0:0≤i) (hi:i < n) (k:IntKind) :
 (Instr.indexAt t (.slice (some ⟨b,off,none⟩) n cap) (.int k i)).run C.P w=.ok (.pointer (some ⟨b,off+i.toNat * lv.length,none⟩)) w:=by
 have ht:=hT t
 unfold TyF at ht
 rw [hti] at ht
 obtain ⟨⟨hu,_⟩,j,z,hj,hs,_⟩:=ht
 simp [Instr.indexAt,asIntOf,run_underlying hu,h0,hi,sizeOf_run hj,hs,Addr.add_mid]
theorem nowrap0 {n:Int} (h1 : -9223372036854775808≤n) (h2:n≤9223372036854775807):IntKind.i64.wrap n=n:=by
 simp only [IntKind.wrap,IntKind.signed,IntKind.bits]
 simp
 omega
theorem stepIndexAddr_sound (hT:TyOK C.P C.ti) (h:Sim C σ ν S ω a.tmps w) {t:TypeId} {x ix:Operand} {s:SV1} {i:E} {k:IntKind} (ho:o.op=.indexAddr t x ix) (hx:SR C.ti w S ω ν s (a.eval x)) (hi:Rd C.ti w S (.int k) (i.den ν) (a.eval ix))
 (hr:(stepIndexAddr C.ti t s i σ K').Run C.R ν r):o.wp C.P a w (Post C σ ω o.dst K' r a.defers) Q:=by
 have hiv:=hi.int_inv.2
 unfold stepIndexAddr at hr
 split at hr
 · rename_i e agg lv hti
   -- of plain data
   have data:∀ {t' : TypeId} {y:E} {S' : Nat→Prop} {v:Value},C.ti t'=C.ti t→S'=S→Rd C.ti w S (.sl t') (y.den ν) v→a.eval x=v→(ckRange σ i (lenE y) (ok1 K' σ (.r (elemCells agg lv (.o2 .idx y i))))).Run C.R ν r→o.wp C.P a w (Post C σ ω o.dst K' r a.defers) Q:=by
    intro t' y S' v ht' _ hd hv hK
    obtain ⟨h0,h1,hK⟩:=ckRange_sound h hK
    rw [lenE_den] at h1
    obtain ⟨b,off,cap,rfl,hS,hc⟩:=data_cells hd (ht'.trans hti) h0 h1
    refine post_one h (v:=.pointer (some ⟨b,off+(i.den ν).toInt.toNat * lv.length,none⟩)) ?_ hK ⟨b,_,rfl,fun _=>hS,fun c k y' hy=>?_⟩
    · unfold execOp
      simp [ho,hv,hiv,run_indexAt_sl hT hti h0 h1]
    · obtain ⟨u,h1,h2⟩:=hc (ie:=i) rfl rfl c k y' hy
      exact ⟨u,by rw [Nat.add_assoc]; exact h1,h2⟩
   split at hr
   · rename_i ob
     split at hr
     · rename_i t' y hob
       split at hr
       · rename_i ht'
         obtain ⟨h0,h1,hK⟩:=ckRange_sound h hr
         rw [lenE_den] at h1
         obtain ⟨hω,_⟩:=hx
         obtain ⟨v,e',agg',lv',ds,vs,hω',hti',hden,hown,_⟩:=h.objs ob _ hob
         rw [hω] at hω'
         rw [ht',hti] at hti'
         cases hti'
         rw [hden] at h1
         have h1:(i.den ν).toInt < (ds.length:Int):=h1
         obtain ⟨g,cap,hv,_⟩ : ∃ g cap,a.eval x=.slice (some ⟨g,0,none⟩) ds.length cap∧True:=by
          cases hω'
          rcases hown.2 with ⟨_,hn⟩ | ⟨g,cap,cur,hv,_⟩
          · omega
          · exact ⟨g,cap,hv,trivial⟩
         refine post_one h (v:=.pointer (some ⟨g,0+(i.den ν).toInt.toNat * lv.length,none⟩)) ?_ hK ⟨g,ds.length,cap,by rw [hω,hv],by simp,h0,h1⟩
         unfold execOp
         simp [ho,hv,hiv,run_indexAt_sl hT hti h0 h1]
       · exact hr.elim
     · rename_i t' y hob
       split at hr
       · rename_i ht'
         obtain ⟨v,hω',hd⟩:=h.objs ob _ hob
         have:a.eval x=v:=by rw [hx.1] at hω'; exact Option.some.inj hω'
         exact data ht' rfl hd this hr
       · exact hr.elim
     · exact hr.elim
   · rename_i t' y
     split at hr
     · rename_i ht'
       exact data ht' rfl hx rfl hr
     · exact hr.elim
   · rename_i ob sz lo
     split at hr
     · rename_i t' y hob
       split at hr
       · rename_i hc
         obtain ⟨ht',hsz⟩:=hc
         obtain ⟨h0,h1,hK⟩:=ckRange_sound h hr
         obtain ⟨b,n,cap,hω,l0,l1,hv⟩:=hx
         obtain ⟨v,e',agg',lv',ds,vs,hω',hti',hden,hown,_⟩:=h.objs ob _ hob
         rw [hω] at hω'
         obtain rfl:=Option.some.inj hω'
         rw [ht',hti] at hti'
         cases hti'
         have hmx:maxLen=9223372036854775807:=rfl
         obtain ⟨hn,hnc,hcm⟩ : n=ds.length∧n≤cap∧cap≤maxLen:=by
          rcases hown.2 with ⟨hv',hn'⟩ | ⟨g,cap',cur,hv',_,_,hca,hmx,_⟩
          · cases hv'; exact ⟨hn'.symm,Nat.le_refl _,by simp [maxLen]⟩
          · cases hv'; exact ⟨rfl,hca,hmx⟩
         have hlen:((E.o2 (.sub .i64) (lenE y) lo).den ν).toInt=(ds.length:Int) - (lo.den ν).toInt:=by
          show IntKind.i64.wrap (((lenE y).den ν).toInt - (lo.den ν).toInt)=_
          rw [lenE_den,hden]
          exact nowrap0 (by show _≤(ds.length:Int) - (lo.den ν).toInt; omega) (by show (ds.length:Int) - (lo.den ν).toInt≤_; omega)
         rw [hlen] at h1
         have hsum:((E.o2 (.add .i64) lo i).den ν).toInt=(lo.den ν).toInt+(i.den ν).toInt:=by
          show IntKind.i64.wrap ((lo.den ν).toInt+(i.den ν).toInt)=_
          exact nowrap0 (by omega) (by omega)
         obtain ⟨g,hg⟩ : ∃ g,b=some ⟨g,0,none⟩:=by
          rcases hown.2 with ⟨hv',hn'⟩ | ⟨g,cap',cur,hv',_⟩
          · omega
          · cases hv'; exact ⟨g,rfl⟩
         subst hg
         have hv' : a.eval x=.slice (some ⟨g,0+(lo.den ν).toInt.toNat * sz,none⟩) (n - (lo.den ν).toInt.toNat) (cap - (lo.den ν).toInt.toNat):=by
          rw [hv]
          unfold sliced
          rw [if_neg (by omega)]
          simp only [Option.map_some,Addr.add_mid]
         refine post_one h (v:=.pointer (some ⟨g,0+(lo.den ν).toInt.toNat * sz+(i.den ν).toInt.toNat * lv.length,none⟩)) ?_ hK ⟨g,n,cap,hω,?_,?_,?_⟩
         · unfold execOp
           simp [ho,hv',hiv,run_indexAt_sl hT hti h0 (show (i.den ν).toInt < ((n - (lo.den ν).toInt.toNat:Nat):Int) by omega)]
         · rw [hsum,hsz]
           have:((lo.den ν).toInt+(i.den ν).toInt).toNat=(lo.den ν).toInt.toNat+(i.den ν).toInt.toNat:=by omega
           rw [this,Nat.add_mul]
           simp
         · rw [hsum]; omega
         · rw [hsum]; omega
       · exact hr.elim
     · exact hr.elim
   · rename_i ob
     split at hr
     · rename_i t' y hob
       split at hr
       · rename_i ht'
         obtain ⟨h0,h1,hK⟩:=ckRange_sound h hr
         rw [lenE_den] at h1
         obtain ⟨u,hω,hh,_⟩:=hx
         obtain ⟨u',e',lv',ds,hω',hti',hden,hown,_⟩:=h.objs ob _ hob
         rw [hω] at hω'
         obtain rfl:=Option.some.inj hω'
         rw [ht',hti] at hti'
         cases hti'
         rw [hden] at h1
         have h1:(i.den ν).toInt < (ds.length:Int):=h1
         obtain ⟨g,cap,hv⟩ : ∃ g cap,hdV u=.slice (some ⟨g,0,none⟩) ds.length cap:=by
          rcases hown.2 with ⟨_,hn⟩ | ⟨g,cap,cur,hv,_⟩
          · omega
          · exact ⟨g,cap,hv⟩
         have hv' : a.eval x=.slice (some ⟨g,0,none⟩) ds.length cap:=by rw [←hh,hv]
         refine post_one h (v:=.pointer (some ⟨g,0+(i.den ν).toInt.toNat * lv.length,none⟩)) ?_ hK ⟨u,g,ds.length,cap,hω,hv,by simp,h0,h1⟩
         unfold execOp
         simp [ho,hv',hiv,run_indexAt_sl hT hti h0 h1]
       · exact hr.elim
     · exact hr.elim
   · rename_i ob ts j c t'
     split at hr
     · rename_i t2 y hob
       split at hr
       · rename_i hc
         obtain ⟨ht',rfl,rfl,hl1⟩:=hc
         obtain ⟨h0,h1,hK⟩:=ckRange_sound h hr
         obtain ⟨hN,_⟩:=deep_nest (h.objs ob _ hob) hx
         obtain ⟨u,g,n,cap,e1,lv1,hts,hcl,hω,hh,j0,j1,hcell,a',m,q,hv⟩:=hx
         obtain ⟨e2,k2,ns,hti2,hfl,hns,⟨a2,cap2,hv2⟩,hne⟩:=hN
         rw [hv] at hv2
         simp only [Value.slice.injEq] at hv2
         obtain ⟨rfl,rfl,rfl⟩:=hv2
         have hlen:((E.o1 .len (nestE y j c)).den ν).toInt=(ns.length:Int):=by
          show (((nestE y j c).den ν).toList.length:Int)=_
          have:(nestE y j c).den ν=.list ns:=hns
          rw [this]
          rfl
         rw [hlen] at h1
         have hne0:ns≠[]:=by rintro rfl; simp at h1; omega
         obtain ⟨us,hown,_⟩:=hne hne0
         obtain ⟨g',hg'⟩ : ∃ g',a'=some ⟨g',0,none⟩:=by
          rcases hown.2 with ⟨_,hn⟩ | ⟨g',cap',cur,hv',_⟩
          · exact absurd (List.eq_nil_of_length_eq_zero hn) hne0
          · rw [hv] at hv'
            simp only [Value.slice.injEq] at hv'
            exact ⟨g',hv'.1⟩
         subst hg'
         refine post_one h (v:=.pointer (some ⟨g',(i.den ν).toInt.toNat,none⟩)) ?_ hK ⟨u,g,n,cap,g',ns.length,q,e1,lv1,hts,hcl,hω,hh,j0,j1,by rw [←hcell,hv],rfl,h0,h1⟩
         unfold execOp
         simp [ho,hv,hiv,run_indexAt_sl hT hti h0 h1,hl1]
       · exact hr.elim
     · exact hr.elim
   · exact hr.elim
 · rename_i lv fs hti
   split at hr
   · rename_i n
     split at hr
     · rename_i h0
       have go:∀ {fo sz:Nat} {ag:Bool} {b of2:Nat} {s' : SV1},fs[n.toNat]?=some (fo,sz,ag)→a.eval x=.pointer (some ⟨b,of2,none⟩)→SR C.ti w S ω ν s' (.pointer (some ⟨b,of2+fo,none⟩))→(ok1 K' σ s').Run C.R ν r→o.wp C.P a w (Post C σ ω o.dst K' r a.defers) Q:=by
        intro fo sz ag b of2 s' hj hv hs hK
        refine post_one h ?_ hK hs
        have hiv' : a.eval ix=.int k n:=hiv
        unfold execOp
        simp [ho,hv,hiv',run_indexAt_arr hT hti h0 hj]
       split at hr
       · rename_i fo sz ag o' off hj
         obtain ⟨b,of2,h1,h2⟩:=(addr_on hx fo).1 _ _ rfl
         exact go hj h1 h2 hr
       · rename_i fo sz ag o' sz' i off hj
         obtain ⟨b,of2,h1,h2⟩:=(addr_on hx fo).2.1 _ _ _ _ rfl
         exact go hj h1 h2 hr
       · rename_i fo sz ag ks hj
         obtain ⟨b,of2,h1,h2⟩:=(addr_on hx fo).2.2 _ rfl
         exact go hj h1 h2 hr
       · exact hr.elim
     · exact hr.elim
   · exact hr.elim
 · exact hr.elim
end
end Go.SX
namespace Go.SX
open Go.RowKit
section
variable {C:Cx} {σ:St} {ν:List D} {S:Nat→Prop} {ω:Nat→Option Value} {w:World} {r:List D} {a:Act} {o:Oper} {Q:Exit→Act→World→Prop} {K' : Delta→T}
theorem aggB_run {P:Program} {t:TypeId} {d:TypeDesc} (h:P.underlying t=some d):(isAgg t).run P w=.ok (aggB P t) w:=by
 rw [isAgg_run h]; simp [aggB,h]
theorem part_sound {P:Program} {ti:TypeId→TI} {t:TypeId} {i:TypeInfo} (hi:P.info? t=some i) (hd:∃ d,P.underlying t=some d) (h1:aggB P t=false→i.size=1) {l:List SV1} {vs:List Value} (hc:All2 (SR ti w S ω ν) l vs)
 {fo:Nat} {sv:SV} (hp:partSV l fo i.size (aggB P t)=some sv):∃ v,(part t vs.toArray fo).run P w=.ok v w∧SVR ti w S ω ν sv v:=by
 obtain ⟨d,hd⟩:=hd
 unfold partSV at hp
 split at hp
 · rename_i hle
   split at hp
   · rename_i hag
     cases hp
     refine ⟨.agg ((vs.drop fo).take i.size).toArray,?_,_,rfl,(hc.drop fo).take i.size⟩
     simp [part,aggB_run hd,hag,sizeOf_run hi,List.extract_eq_take_drop]
   · rename_i hag
     obtain ⟨x,hx,rfl⟩:=Option.map_eq_some_iff.1 hp
     obtain ⟨v,hv,hr⟩:=hc.get hx
     refine ⟨v,?_,hr⟩
     simp [part,aggB_run hd,hag,hv]
 · cases hp
theorem stepField_sound (hT:TyOK C.P C.ti) (h:Sim C σ ν S ω a.tmps w) {t:TypeId} {x:Operand} {j:Nat} {s:SV} (ho:o.op=.field t x j) (hx:SVR C.ti w S ω ν s (a.eval x)) (hr:(stepField C.ti t j s σ K').Run C.R ν r) :
 o.wp C.P a w (Post C σ ω o.dst K' r a.defers) Q:=by
 unfold stepField at hr
 split at hr
 · rename_i lv fs l hti
   split at hr
   · rename_i fo sz ag hj
     obtain ⟨fields,f,i,hu,hf,hi,rfl,rfl,rfl,h0,h1,h2⟩:=field_get hT hti hj
     split at hr
     · rename_i sv hp
       obtain ⟨vs,hv,hc⟩:=hx
       obtain ⟨v,hrun,hs⟩:=part_sound hi h2 h1 hc hp
       refine post_pure h (v:=v) ?_ hr hs
       unfold execOp
       simp [ho,hv,Instr.field,run_underlying hu,hf,asAgg,hrun]
     · exact hr.elim
   · exact hr.elim
 · exact hr.elim
theorem one_und {P:Program} {ti:TypeId→TI} (hT:TyOK P ti) {t:TypeId} {k:K} (h:ti t=.one k):∃ d,P.underlying t=some d∧DescK d k:=by
 have ht:=hT t
 unfold TyF at ht
 rw [h] at ht
 obtain ⟨d,z,⟨hu,_⟩,hd,_⟩:=ht
 exact ⟨d,hu,hd⟩
theorem str_und {P:Program} {ti:TypeId→TI} (hT:TyOK P ti) {t:TypeId} (h:ti t=.one .str):P.underlying t=some .string:=by
 obtain ⟨d,hu,hd⟩:=one_und hT h
 cases d <;> simp [DescK] at hd
 exact hu
theorem int_und {P:Program} {ti:TypeId→TI} (hT:TyOK P ti) {t:TypeId} {k:IntKind} (h:ti t=.one (.int k)):P.underlying t=some (.int k):=by
 obtain ⟨d,hu,hd⟩:=one_und hT h
 cases d <;> simp [DescK] at hd
 subst hd
 exact hu
theorem byteAt_lt (s:ByteArray) (i:Nat) (h:i < s.size):byteAt s i=(s[i].toNat:Int):=by
 simp [byteAt,ByteArray.getElem?_lt' s i h]
theorem stepIndex_sound (hT:TyOK C.P C.ti) (h:Sim C σ ν S ω a.tmps w) {t:TypeId} {x ix:Operand} {s:SV} {i:E} {k:IntKind} (ho:o.op=.index t x ix) (hx:SVR C.ti w S ω ν s (a.eval x)) (hi:Rd C.ti w S (.int k) (i.den ν) (a.eval ix))
 (hr:(stepIndex C.ti t s i σ K').Run C.R ν r):o.wp C.P a w (Post C σ ω o.dst K' r a.defers) Q:=by
 have hiv:=hi.int_inv.2
 unfold stepIndex at hr
 split at hr
 · rename_i s hti
   obtain ⟨h0,h1,hK⟩:=ckRange_sound h hr
   obtain ⟨_,hv⟩:=Rd.str_inv hx
   have h1' : (i.den ν).toInt < ((s.den ν).toStr.size:Int):=h1
   have hlt:(i.den ν).toInt.toNat < (s.den ν).toStr.size:=by omega
   refine post_one h (v:=.int .u8 (byteAt (s.den ν).toStr (i.den ν).toInt.toNat)) ?_ hK (.int _ _)
   unfold execOp
   rw [byteAt_lt _ _ hlt]
   simp [ho,hv,hiv,run_index_string w t _ k _ (str_und hT hti),h0,h1']
 · rename_i lv fs l hti
   split at hr
   · rename_i n
     split at hr
     · rename_i h0
       split at hr
       · rename_i fo sz ag hj
         split at hr
         · rename_i sv hp
           obtain ⟨m,e,ie,hu,hie,hs,hl,hg,hlen,h1,h2⟩:=ag_array hT hti
           have hlt:n.toNat < m:=by rw [←hl]; exact (List.getElem?_eq_some_iff.1 hj).1
           rw [hg _ hlt] at hj
           simp only [Option.some.injEq,Prod.mk.injEq] at hj
           obtain ⟨rfl,rfl,rfl⟩:=hj
           obtain ⟨vs,hv,hc⟩:=hx
           obtain ⟨v,hrun,hsv⟩:=part_sound hie h2 h1 hc hp
           refine post_pure h (v:=v) ?_ hr hsv
           have hiv' : a.eval ix=.int k n:=hiv
           have hlt' : n < m:=by omega
           unfold execOp
           simp [ho,hv,hiv',Instr.index,asIntOf,run_underlying hu,h0,hlt',sizeOf_run hie,hrun]
         · exact hr.elim
       · exact hr.elim
     · exact hr.elim
   · exact hr.elim
 · exact hr.elim
theorem stepExtract_sound (h:Sim C σ ν S ω a.tmps w) {x:Operand} {j:Nat} {s:Slot} (ho:o.op=.extract x j) (hx:SlotR C.ti w S ω ν s (a.eval x)) (hr:(stepExtract s j σ K').Run C.R ν r) :
 o.wp C.P a w (Post C σ ω o.dst K' r a.defers) Q:=by
 unfold stepExtract at hr
 split at hr
 · rename_i l
   split at hr
   · rename_i v hj
     obtain ⟨vs,hv,hc⟩:=hx
     obtain ⟨u,hu,hs⟩:=hc.get hj
     refine post_pure h (v:=u) ?_ hr hs
     unfold execOp
     simp [ho,hv,Instr.extract,hu]
   · exact hr.elim
 · exact hr.elim
theorem stepNot_sound (h:Sim C σ ν S ω a.tmps w) {t:TypeId} {x:Operand} {s:SV1} (ho:o.op=.unOp .not t x) (hx:SR C.ti w S ω ν s (a.eval x)) (hr:(stepNot s σ K').Run C.R ν r):o.wp C.P a w (Post C σ ω o.dst K' r a.defers) Q:=by
 unfold stepNot at hr
 split at hr
 · rename_i c
   obtain ⟨_,hv⟩:=Rd.bool_inv hx
   refine post_one h (v:=.bool (!(c.den ν).toBool)) ?_ hr (by show Rd _ _ _ .bool (E.den ν _) _; rw [notE_den]; exact .bool _)
   unfold execOp
   simp [ho,hv,Op.unary]
 · exact hr.elim
theorem intKind_of {P:Program} {t:TypeId} {k:IntKind} (h:P.underlying t=some (.int k)):P.intKind t=k:=by simp [Program.intKind,h]
theorem stepConvert_sound (hT:TyOK C.P C.ti) (h:Sim C σ ν S ω a.tmps w) {src dst:TypeId} {x:Operand} {s:SV1} (ho:o.op=.convert src dst x) (hx:SR C.ti w S ω ν s (a.eval x)) (hr:(stepConvert C.ti src dst s σ K').Run C.R ν r) :
 o.wp C.P a w (Post C σ ω o.dst K' r a.defers) Q:=by
 unfold stepConvert at hr
 split at hr
 · rename_i k1 k2 k3 y h1 h2
   obtain ⟨_,hv⟩:=Rd.int_inv hx
   have hd:=int_und hT h2
   have hk:=intKind_of hd
   refine post_one h (v:=.int k2 (k2.wrap (y.den ν).toInt)) ?_ hr (.int _ _)
   have:=run_convert_int w src dst k3 (y.den ν).toInt (by rw [int_und hT h1]; rfl) (by rw [hk]; exact hd)
   rw [hk] at this
   unfold execOp
   simp [ho,hv,this]
 · rename_i y h1 h2
   obtain ⟨_,hv⟩:=Rd.str_inv hx
   refine post_one h (v:=a.eval x) ?_ hr hx
   unfold execOp
   simp [ho,hv,convert,run_underlying (str_und hT h1),run_underlying (str_und hT h2)]
 · exact hr.elim
theorem lookCaps_sound (h:Sim C σ ν S ω a.tmps w):∀ {l:List Operand} {cs:List Cap},lookCaps σ l=some cs→All2 (CapR C.ti w S ω ν) cs (l.map a.eval)
 | [],cs,hl=>by simp [lookCaps] at hl; subst hl; exact .nil
 | x::r,cs,hl=>by
  simp only [lookCaps] at hl
  split at hl
  · rename_i o' l' h1 h2
    cases hl
    obtain ⟨b,hb,hv⟩:=look1_sound h h1
    exact .cons ⟨b,hb,hv⟩ (lookCaps_sound h h2)
  · rename_i ks l' h1 h2
    cases hl
    exact .cons (look1_sound h h1) (lookCaps_sound h h2)
  · cases hl
theorem stepMakeFunc_sound (h:Sim C σ ν S ω a.tmps w) {g:FuncId} {first caps:Array Operand} (ho:o.op=.makeFunc (.func g) first caps) (hf:first.size=0) (hr:(stepMakeFunc g caps.toList σ K').Run C.R ν r):o.wp C.P a w (Post C σ ω o.dst K' r a.defers) Q:=by
 unfold stepMakeFunc at hr
 split at hr
 · rename_i cs hl
   have hc:=lookCaps_sound h hl
   refine post_one h (v:=.func (.func g) #[] (caps.toList.map a.eval).toArray) ?_ hr ⟨_,rfl,hc⟩
   have:first=#[]:=Array.eq_empty_of_size_eq_zero hf
   unfold execOp
   simp [ho,this,Instr.makeFunc]
   apply Array.toList_inj.1
   simp
 · exact hr.elim
theorem stepPick_sound (h:Sim C σ ν S ω a.tmps w) {c x y:Operand} {s:SV1} {s1 s2:Slot} (ho:o.op=.pick c x y) (hc:SR C.ti w S ω ν s (a.eval c)) (hx:SlotR C.ti w S ω ν s1 (a.eval x)) (hy:SlotR C.ti w S ω ν s2 (a.eval y))
 (hr:(stepPick s s1 s2 σ K').Run C.R ν r):o.wp C.P a w (Post C σ ω o.dst K' r a.defers) Q:=by
 unfold stepPick at hr
 split at hr
 · rename_i c'
   obtain ⟨_,hv⟩:=Rd.bool_inv hc
   split at hr
   · rename_i hk
     rw [knownE_sound h hk] at hv
     refine post_pure h ?_ hr hx
     unfold execOp
     simp [ho,hv,asBool]
   · rename_i hk
     rw [knownE_sound h hk] at hv
     refine post_pure h ?_ hr hy
     unfold execOp
     simp [ho,hv,asBool]
   · exact hr.elim
 · exact hr.elim
theorem sl_row {P:Program} {ti:TypeId→TI} (hT:TyOK P ti) {t e:TypeId} {agg:Bool} {lv:List K} (h:ti t=.sl e agg lv) :
 P.underlying t=some (.slice e)∧P.elem t=e∧∃ j z,P.info? e=some j∧j.size=lv.length∧0 < lv.length∧j.bytes≤65536∧j.zero=some z∧All2 (fun k v=>ZeroV (some k) v) lv z.cells.toList∧(agg=false→lv.length=1):=by
 have ht:=hT t
 unfold TyF at ht
 rw [h] at ht
 obtain ⟨⟨hu,_⟩,j,z,h1,h2,h3,h4,h5,h6,h7,_⟩:=ht
 exact ⟨hu,by simp [Program.elem,hu],j,z,h1,h2,h3,h4,h5,h6,h7⟩
theorem call_len {c:Call} {x:Operand} {t:TypeId} (ho:o.op=.call c) (hc:c.callee=.builtin .len) (ha:c.args.toList=[x]) (ht:c.argTypes.toList=[t]) {v:Value} (hrun:(Builtin.len_ #[t] o.type #[a.eval x]).run C.P w=.ok v w) :
 (execOp a.eval o).run C.P w=.ok (.value v) w:=by
 have h1:c.args=#[x]:=Array.toList_inj.1 (by simpa using ha)
 have h2:c.argTypes=#[t]:=Array.toList_inj.1 (by simpa using ht)
 unfold execOp
 simp [ho,resolve,hc,h1,h2,invoke,builtin,hrun]
theorem call_cap {c:Call} {x:Operand} {t:TypeId} (ho:o.op=.call c) (hc:c.callee=.builtin .cap) (ha:c.args.toList=[x]) (ht:c.argTypes.toList=[t]) {v:Value} (hrun:(Builtin.cap_ #[t] o.type #[a.eval x]).run C.P w=.ok v w) :
 (execOp a.eval o).run C.P w=.ok (.value v) w:=by
 have h1:c.args=#[x]:=Array.toList_inj.1 (by simpa using ha)
 have h2:c.argTypes=#[t]:=Array.toList_inj.1 (by simpa using ht)
 unfold execOp
 simp [ho,resolve,hc,h1,h2,invoke,builtin,hrun]
theorem stepLen_sound (hT:TyOK C.P C.ti) (h:Sim C σ ν S ω a.tmps w) {c:Call} {x:Operand} {t:TypeId} {s:SV1} (ho:o.op=.call c) (hc:c.callee=.builtin .len) (ha:c.args.toList=[x]) (ht:c.argTypes.toList=[t])
 (hx:SR C.ti w S ω ν s (a.eval x)) (hr:(stepLen C.ti t s σ K').Run C.R ν r):o.wp C.P a w (Post C σ ω o.dst K' r a.defers) Q:=by
 unfold stepLen at hr
 split at hr
 · rename_i hti
   split at hr
   · rename_i y
     obtain ⟨_,hv⟩:=Rd.str_inv hx
     refine post_one h (v:=goInt (y.den ν).toStr.size) (call_len ho hc ha ht ?_) hr (.int _ _)
     rw [hv]
     exact run_len_string w t _ _ (str_und hT hti)
   · exact hr.elim
 · rename_i e agg lv hti
   obtain ⟨hu,he,_⟩:=sl_row hT hti
   split at hr
   · rename_i ob sz lo
     split at hr
     · rename_i t' y hob
       obtain ⟨b,n,cap,hω,l0,l1,hv⟩:=hx
       obtain ⟨v,e',agg',lv',ds,vs,hω',hti',hden,hown,_⟩:=h.objs ob _ hob
       rw [hω] at hω'
       obtain rfl:=Option.some.inj hω'
       have hmx:maxLen=9223372036854775807:=rfl
       obtain ⟨hn,hnc,hcm⟩ : n=ds.length∧n≤cap∧cap≤maxLen:=by
        rcases hown.2 with ⟨hv',hn'⟩ | ⟨g,cap',cur,hv',_,_,hca,hmx,_⟩
        · cases hv'; exact ⟨hn'.symm,Nat.le_refl _,by simp [maxLen]⟩
        · cases hv'; exact ⟨rfl,hca,hmx⟩
       refine post_one h (v:=goInt (n - (lo.den ν).toInt.toNat:Nat)) (call_len ho hc ha ht (by rw [hv]; exact run_len_slice w t _ _ _ _ (by rw [he]; exact hu))) hr ?_
       have hlen:((E.o2 (.sub .i64) (lenE y) lo).den ν)=.int ((n - (lo.den ν).toInt.toNat:Nat):Int):=by
        show D.int (IntKind.i64.wrap (((lenE y).den ν).toInt - (lo.den ν).toInt))=_
        rw [lenE_den,hden,nowrap0 (by show _≤(ds.length:Int) - (lo.den ν).toInt; omega) (by show (ds.length:Int) - (lo.den ν).toInt≤_; omega)]
        congr 1
        show (ds.length:Int) - (lo.den ν).toInt=_
        omega
       show Rd _ _ _ (.int .i64) ((E.o2 (.sub .i64) (lenE y) lo).den ν) _
       rw [hlen]
       exact .int _ _
     · exact hr.elim
   split at hr
   · rename_i t' y l hd
     have hs:=dataOf_sound h.objs hd hx
     obtain ⟨b,n,cap,hv⟩ : ∃ b n cap,a.eval x=.slice b n cap:=by
      generalize E.den ν y=d at hs
      generalize hav:a.eval x=v at hs
      cases hs.1 with
      | sl0 _ b cap=>exact ⟨_,_,_,rfl⟩
      | sl _ _ _ _ xs b off cap=>exact ⟨_,_,_,rfl⟩
     have hl:(y.den ν).toList.length=n:=by
      have:=hs.1
      rw [hv] at this
      exact this.len
     refine post_one h (v:=goInt n) (call_len ho hc ha ht ?_) hr (by
      show Rd _ _ _ (.int .i64) ((lenE y).den ν) _
      rw [lenE_den,hl]
      exact .int _ _)
     rw [hv]
     exact run_len_slice w t _ _ _ _ (by rw [he]; exact hu)
   · exact hr.elim
 · exact hr.elim
theorem stepCap_sound (hT:TyOK C.P C.ti) (h:Sim C σ ν S ω a.tmps w) {c:Call} {x:Operand} {t:TypeId} {s:SV1} (ho:o.op=.call c) (hc:c.callee=.builtin .cap) (ha:c.args.toList=[x]) (ht:c.argTypes.toList=[t])
 (hx:SR C.ti w S ω ν s (a.eval x)) (hr:(stepCap C.ti t s σ K').Run C.R ν r):o.wp C.P a w (Post C σ ω o.dst K' r a.defers) Q:=by
 unfold stepCap at hr
 split at hr
 · rename_i e agg lv t' hti
   obtain ⟨hu,he,_⟩:=sl_row hT hti
   have hv:a.eval x=.slice none 0 0:=hx
   refine post_one h (v:=goInt 0) (call_cap ho hc ha ht ?_) hr (.int _ _)
   rw [hv]
   exact run_cap_slice w t _ _ _ _ (by rw [he]; exact hu)
 · exact hr.elim
/-! ### Slices -/
theorem bndE_sound (h:Sim C σ ν S ω a.tmps w) {x:Option Operand} {e:Option E} (hb:bndE σ x=some e) :
 (x=none∧e=none) ∨ ∃ y k n,x=some y∧e=some n∧a.eval y=.int k (n.den ν).toInt:=by
 unfold bndE at hb
 split at hb
 · cases hb; exact .inl ⟨rfl,rfl⟩
 · rename_i y
   split at hb
   · rename_i k n hl
     cases hb
     exact .inr ⟨y,k,n,rfl,rfl,(lookE_sound h hl).int_inv.2⟩
   · cases hb
def loD (lo:Option E) (ν:List D):Int:=match lo with
 | some l=>(l.den ν).toInt
 | none=>0
def hiD (hi:Option E) (n:Nat) (ν:List D):Int:=match hi with
 | some h=>(h.den ν).toInt
 | none=>n
theorem sliceCks_sound (h:Sim C σ ν S ω a.tmps w) {lo hi:Option E} {nE:E} {n:Nat} {t' : T} (hn:(nE.den ν).toInt=n) (hr:(sliceCks lo hi nE σ t').Run C.R ν r) :
 0≤loD lo ν∧loD lo ν≤hiD hi n ν∧hiD hi n ν≤n∧t'.Run C.R ν r:=by
 unfold sliceCks at hr
 cases hi with
 | none =>
  cases lo with
  | none=>exact ⟨Int.le_refl _,Int.natCast_nonneg _,Int.le_refl _,hr⟩
  | some l =>
   simp only [Option.getD_none] at hr
   obtain ⟨h1,hr⟩:=ckLe_sound h hr
   obtain ⟨h2,hr⟩:=ckLe_sound h hr
   rw [hn] at h2
   exact ⟨h1,h2,Int.le_refl _,hr⟩
 | some hh =>
  obtain ⟨h1,hr⟩:=ckLe_sound h hr
  obtain ⟨h2,hr⟩:=ckLe_sound h hr
  rw [hn] at h2
  cases lo with
  | none=>exact ⟨Int.le_refl _,h1,h2,hr⟩
  | some l =>
   simp only [Option.getD_some] at hr
   obtain ⟨h3,hr⟩:=ckLe_sound h hr
   obtain ⟨h4,hr⟩:=ckLe_sound h hr
   exact ⟨h3,h4,h2,hr⟩
theorem run_sliceBound_ok {P:Program} {k:IntKind} {i:Int} {y:Nat} {code:BoundsCode} (h0:0≤i) (h1:i≤y):(Instr.sliceBound (.int k i) y code).run P w=.ok i.toNat w:=by
 simp [Instr.sliceBound,asIntOf,h0,h1]
theorem run_bounds {P:Program} {b:Bool} {len cap:Nat} {lo hi:Option Value} {loZ hiZ:Int} (hlo:(lo=none∧loZ=0) ∨ ∃ k,lo=some (.int k loZ)) (hhi:(hi=none∧hiZ=len) ∨ ∃ k,hi=some (.int k hiZ))
 (h0:0≤loZ) (h1:loZ≤hiZ) (h2:hiZ≤cap):(Instr.sliceBounds b len cap lo hi none).run P w=.ok (loZ.toNat,hiZ.toNat,cap) w:=by
 have e1:0≤hiZ:=by omega
 have e2:loZ≤(hiZ.toNat:Int):=by omega
 rcases hlo with ⟨rfl,rfl⟩ | ⟨k,rfl⟩ <;> rcases hhi with ⟨rfl,rfl⟩ | ⟨k',rfl⟩ <;> simp [Instr.sliceBounds,run_sliceBound_ok,h0,e1,h2,e2]
 all_goals (rw [run_sliceBound_ok h0 (by omega)]; rfl)
theorem Rd.cap {ti:TypeId→TI} {t:TypeId} {d:D} {b:Option Addr} {n cap:Nat} (h:Rd ti w S (.sl t) d (.slice b n cap)) (hn:0 < n):n≤cap:=by
 cases h with
 | sl0=>omega
 | sl _ _ _ _ xs b off cap u _ hcap=>exact hcap
theorem Rd.sub_slice {t e:TypeId} {agg:Bool} {lv:List K} {d:D} {b:Option Addr} {n cap:Nat} (hti:C.ti t=.sl e agg lv) (h:Rd C.ti w S (.sl t) d (.slice b n cap)) {l hh:Nat} (h1:l≤hh) (h2:hh≤n) :
 Rd C.ti w S (.sl t) (.list ((d.toList.take hh).drop l)) (sliced b l hh cap lv.length):=by
 have hlen:=h.len
 unfold sliced
 by_cases he:hh - l=0
 · have:(d.toList.take hh).drop l=[]:=by
    apply List.drop_eq_nil_of_le
    rw [List.length_take]
    omega
   rw [this,he]
   exact .sl0 _ _ _
 · cases h with
   | sl0=>omega
   | sl _ e' agg' lv' xs b' off cap' u hti' hcap hS hc hr =>
    have hm:¬ cap=l:=by omega
    rw [if_neg hm]
    rw [hti] at hti'
    cases hti'
    simp only [D.toList,Option.map_some,Addr.add_mid]
    have hx:hh - l=((xs.take hh).drop l).length:=by rw [List.length_drop,List.length_take]; omega
    rw [hx]
    have hidx:∀ j,j < ((xs.take hh).drop l).length→((xs.take hh).drop l).getD j default=xs.getD (l+j) default:=by
     intro j hj
     rw [List.getD_eq_getElem?_getD,List.getD_eq_getElem?_getD,List.getElem?_drop,List.getElem?_take,if_pos (by omega)]
    refine .sl t e agg lv _ b' (off+l * lv.length) _ (fun j c=>u (l+j) c) hti (by omega) hS (fun j c hj hcc=>?_) (fun j c k hj hk=>?_)
    · have:=hc (l+j) c (by omega) hcc
      rw [←this]
      congr 2
      rw [Nat.add_mul]
      omega
    · rw [hidx j hj]
      exact hr (l+j) c k (by omega) hk
theorem cutE_den (w' : E) (lo hi:Option E) (ν:List D) {xs:List D} (hx:w'.den ν=.list xs) (h0:0≤loD lo ν) (h1:loD lo ν≤hiD hi xs.length ν) :
 (cutE w' lo hi).den ν=.list ((xs.take (hiD hi xs.length ν).toNat).drop (loD lo ν).toNat):=by
 cases lo <;> cases hi <;> simp [cutE,E.den,O2.den,hx,loD,hiD,D.toList]
theorem slice_exec {t:TypeId} {x:Operand} {lo hi:Option Operand} (ho:o.op=.slice t x lo hi none) {v:Value} (hrun:(Instr.sliceAt t (a.eval x) (lo.map a.eval) (hi.map a.eval) none).run C.P w=.ok v w):(execOp a.eval o).run C.P w=.ok (.value v) w:=by
 unfold execOp
 simp [ho,hrun]
theorem run_sliceAt_sl (hT:TyOK C.P C.ti) {t e:TypeId} {agg:Bool} {lv:List K} (hti:C.ti t=.sl e agg lv) {b:Option Addr} {len cap:Nat} {lo hi:Option Value} {loZ hiZ:Int} (hlo:(lo=none∧loZ=0) ∨ ∃ k,lo=some (.int k loZ)) (hhi:(hi=none∧hiZ=len) ∨ ∃ k,hi=some (.int k hiZ))
 (h0:0≤loZ) (h1:loZ≤hiZ) (h2:hiZ≤cap):(Instr.sliceAt t (.slice b len cap) lo hi none).run C.P w=.ok (sliced b loZ.toNat hiZ.toNat cap lv.length) w:=by
 obtain ⟨hu,he,j,z,hj,hs,_⟩:=sl_row hT hti
 have hu' : C.P.underlying t=some (.slice (C.P.elem t)):=by rw [he]; exact hu
 rw [run_sliceAt_slice w t _ _ _ _ hu',run_slice_any w t b len cap hu',run_bounds hlo hhi h0 h1 h2]
 simp [he,sizeOf_run hj,hs]
theorem run_sliceAt_str (hT:TyOK C.P C.ti) {t:TypeId} (hti:C.ti t=.one .str) {s:ByteArray} {lo hi:Option Value} {loZ hiZ:Int} (hlo:(lo=none∧loZ=0) ∨ ∃ k,lo=some (.int k loZ)) (hhi:(hi=none∧hiZ=s.size) ∨ ∃ k,hi=some (.int k hiZ))
 (h0:0≤loZ) (h1:loZ≤hiZ) (h2:hiZ≤s.size):(Instr.sliceAt t (.string s) lo hi none).run C.P w=.ok (.string (s.extract loZ.toNat hiZ.toNat)) w:=by
 have hu:=str_und hT hti
 rw [run_sliceAt_string w t _ _ _ _ hu]
 simp [Instr.slice,run_underlying hu,run_bounds hlo hhi h0 h1 h2]
theorem TI.isSl_inv {i:TI} (h:i.isSl=true):∃ e agg lv,i=.sl e agg lv:=by cases i <;> simp [TI.isSl] at h; exact ⟨_,_,_,rfl⟩
section
variable (hT:TyOK C.P C.ti) (h:Sim C σ ν S ω a.tmps w) {t:TypeId} {x:Operand} {lo hi:Option Operand} (ho:o.op=.slice t x lo hi none) {el eh:Option E} (hel:bndE σ lo=some el) (heh:bndE σ hi=some eh)
include hT h ho hel heh
theorem bnd_vals (n:Nat):((lo.map a.eval=none∧loD el ν=0) ∨ ∃ k,lo.map a.eval=some (.int k (loD el ν)))∧((hi.map a.eval=none∧hiD eh n ν=n) ∨ ∃ k,hi.map a.eval=some (.int k (hiD eh n ν))):=by
 constructor
 · rcases bndE_sound h hel with ⟨rfl,rfl⟩ | ⟨y,k,m,rfl,rfl,hv⟩
   · exact .inl ⟨rfl,rfl⟩
   · exact .inr ⟨k,by simp [hv,loD]⟩
 · rcases bndE_sound h heh with ⟨rfl,rfl⟩ | ⟨y,k,m,rfl,rfl,hv⟩
   · exact .inl ⟨rfl,rfl⟩
   · exact .inr ⟨k,by simp [hv,hiD]⟩
theorem stepCut_sound {t' : TypeId} {y:E} (hx:Rd C.ti w S (.sl t') (y.den ν) (a.eval x)) (htt:C.ti t=C.ti t') (hsl:(C.ti t).isSl=true) (hr:(stepCut t' y el eh σ K').Run C.R ν r):o.wp C.P a w (Post C σ ω o.dst K' r a.defers) Q:=by
 obtain ⟨e,agg,lv,hti⟩:=TI.isSl_inv hsl
 obtain ⟨xs,hxs⟩ : ∃ xs,y.den ν=.list xs:=by
  generalize y.den ν=d at hx
  generalize a.eval x=v at hx
  cases hx <;> exact ⟨_,rfl⟩
 obtain ⟨b,cap,hv⟩ : ∃ b cap,a.eval x=.slice b xs.length cap:=by
  rw [hxs] at hx
  generalize hav:a.eval x=v at hx
  cases hx <;> exact ⟨_,_,rfl⟩
 unfold stepCut at hr
 obtain ⟨h0,h1,h2,hK⟩:=sliceCks_sound h (n:=xs.length) (by rw [lenE_den,hxs]; rfl) hr
 obtain ⟨g1,g2⟩:=bnd_vals hT h ho hel heh xs.length
 have hcap:hiD eh xs.length ν≤cap:=by
  rw [hv] at hx
  rcases Nat.eq_zero_or_pos xs.length with h3 | h3
  · omega
  · have:=hx.cap h3; omega
 refine post_one h (slice_exec ho (by rw [hv]; exact run_sliceAt_sl hT hti g1 g2 h0 h1 hcap)) hK ?_
 show Rd _ _ _ (.sl t') ((cutE y el eh).den ν) _
 rw [cutE_den y el eh ν hxs h0 h1]
 rw [hv,hxs] at hx
 have:=hx.sub_slice (C:=C) (by rw [←htt]; exact hti) (l:=(loD el ν).toNat) (hh:=(hiD eh xs.length ν).toNat) (by omega) (by omega)
 simpa [D.toList] using this
theorem nilSlice {s1 s2:Option Operand} (h1:lo=s1) (h2:hi=s2) {t' : TypeId} (hx:a.eval x=.slice none 0 0) (hsl:(C.ti t).isSl=true) (hlo:loD el ν=0) (hhi:hiD eh 0 ν=0) (hr:(ok1 K' σ (.nil t')).Run C.R ν r):o.wp C.P a w (Post C σ ω o.dst K' r a.defers) Q:=by
 obtain ⟨e,agg,lv,hti⟩:=TI.isSl_inv hsl
 obtain ⟨g1,g2⟩:=bnd_vals hT h ho hel heh 0 (ν:=ν)
 have hrun:=run_sliceAt_sl (w:=w) hT hti (b:=none) (len:=0) (cap:=0) g1 g2 (by omega) (by omega) (by simp; omega)
 refine post_one h (slice_exec ho (by rw [hx]; exact hrun)) hr ?_
 rw [hlo,hhi]
 rfl
theorem stepSlice_sound (hnb:NbOK σ ω 1) {s:SV1} (hx:SR C.ti w S ω ν s (a.eval x)) (hr:(stepSlice C.ti t s el eh σ K').Run C.R ν r):o.wp C.P a w (Post C σ ω o.dst K' r a.defers) Q:=by
 unfold stepSlice at hr
 split at hr
 · rename_i y
   split at hr
   · rename_i hti
     obtain ⟨_,hv⟩:=Rd.str_inv hx
     obtain ⟨h0,h1,h2,hK⟩:=sliceCks_sound h (n:=(y.den ν).toStr.size) rfl hr
     obtain ⟨g1,g2⟩:=bnd_vals hT h ho hel heh (y.den ν).toStr.size (ν:=ν)
     refine post_one h (slice_exec ho (by rw [hv]; exact run_sliceAt_str hT hti g1 g2 h0 h1 h2)) hK ?_
     have key:((E.o3 .ssub y (el.getD (.i 0)) (eh.getD (.o1 .slen y))).den ν)=.str ((y.den ν).toStr.extract (loD el ν).toNat (hiD eh (y.den ν).toStr.size ν).toNat):=by
      cases el <;> cases eh <;> simp [E.den,O3.den,O1.den,loD,hiD,D.toInt]
     show Rd _ _ _ .str (E.den ν _) _
     rw [key]
     exact .str _
   · exact hr.elim
 · rename_i t' y
   split at hr
   · rename_i hc
     exact stepCut_sound hT h ho hel heh hx hc.1 hc.2 hr
   · exact hr.elim
 · rename_i t'
   split at hr
   · rename_i hsl
     have hx' : a.eval x=.slice none 0 0:=hx
     split at hr
     · exact nilSlice hT h ho hel heh rfl rfl hx' hsl rfl rfl hr
     · exact nilSlice hT h ho hel heh rfl rfl hx' hsl rfl rfl hr
     · exact nilSlice hT h ho hel heh rfl rfl hx' hsl rfl rfl hr
     · exact hr.elim
   · exact hr.elim
 · rename_i ob
   split at hr
   · rename_i t' y hob
     split at hr
     · rename_i hc
       obtain ⟨hω,_⟩:=hx
       obtain ⟨v,e,agg,lv,ds,vs,hω',hti',hden,hown,hrc⟩:=h.objs ob _ hob
       rw [hω] at hω'
       cases hω'
       have hti:C.ti t=.sl e agg lv:=hc.1.trans hti'
       obtain ⟨b,cap,hv,hcap⟩ : ∃ b cap,a.eval x=.slice b ds.length cap∧ds.length≤cap:=by
        rcases hown.2 with ⟨hn,hl⟩ | ⟨g,cap,cur,hn,_,_,hcap,_⟩
        · exact ⟨none,0,by rw [hn,hl],by omega⟩
        · exact ⟨_,_,hn,hcap⟩
       split at hr
       · rename_i hh
         obtain ⟨h1,hr⟩:=ckLe_sound h hr
         obtain ⟨h2,hr⟩:=ckLe_sound h hr
         rw [lenE_den,hden] at h2
         have h1:0≤(hh.den ν).toInt:=h1
         have h2:(hh.den ν).toInt≤(ds.length:Int):=h2
         obtain ⟨g1,g2⟩:=bnd_vals hT h ho hel heh ds.length (ν:=ν)
         have hrun:=run_sliceAt_sl (w:=w) hT hti (b:=b) (len:=ds.length) (cap:=cap) g1 g2 (Int.le_refl _) h1 (by show (hh.den ν).toInt≤_; omega)
         obtain ⟨hn,hnle,hndead⟩:=hnb.one h
         -- the old row is given up, the new one is the same memory
         refine post_val (S':=S) (slice_exec ho (by rw [hv]; exact hrun)) (ω':=upd1 ω σ.nb (sliced b 0 (hh.den ν).toInt.toNat cap lv.length)) hr ?_ (NewAt.upd _ _ _) ⟨upd1_self _ _ _,_,_,_,rfl⟩
         refine Sim.app_of (objs:=place (σ.objs.set ob .dead) σ.nb [.row t' (.o2 .take y hh)]) ?_ (by simp [St.objsOf,freeze_nil,upds]) rfl
         have hk:=h.kill ob
         have hlen:(σ.objs.set ob .dead).length=σ.objs.length:=by simp
         have hblk:∀ b0,blk (sliced b 0 (hh.den ν).toInt.toNat cap lv.length)=some b0→OwnB (ω ob) b0:=by
          intro b0 hb0
          rw [hω,hv]
          unfold sliced at hb0
          cases b with
          | none=>split at hb0 <;> simp [blk] at hb0
          | some ad =>
           split at hb0
           · simpa [OwnB,Blk,blk] using hb0
           · simp only [Option.map_some,Nat.zero_mul,blk,Addr.add,Option.some.injEq] at hb0
             simpa [OwnB,Blk,blk] using hb0
         have:=hk.new (n:=σ.nb) hn (by simp only [hlen]; exact hnle) (ob:=.row t' (.o2 .take y hh)) (v:=sliced b 0 (hh.den ν).toInt.toNat cap lv.length) (fun b0 _ hb0=>by
          have hb1:=hblk b0 hb0
          obtain ⟨k1,k2,k3⟩:=h.own ob _ b0 hob rfl hb1
          refine ⟨k1,k2,k3,fun o2 x2 ho2 hl2 he2=>?_⟩
          simp only at ho2
          by_cases heq:ob=o2
          · subst heq
            have hlt:ob < σ.objs.length:=(List.getElem?_eq_some_iff.1 hob).1
            simp [hlt] at ho2
            subst ho2
            simp [SObj.live] at hl2
          · rw [List.getElem?_set_ne heq] at ho2
            exact heq (h.sep ob o2 _ x2 b0 hob ho2 rfl hl2 hb1 he2)) ?_
         · exact this
         · refine ⟨_,e,agg,lv,ds.take (hh.den ν).toInt.toNat,vs.take ((hh.den ν).toInt.toNat * lv.length),upd1_self _ _ _,hti',by simp [E.den,O2.den,hden,D.toList],?_,?_⟩
           · have hm:min (hh.den ν).toInt.toNat ds.length=(hh.den ν).toInt.toNat:=by omega
             have hle:(hh.den ν).toInt.toNat * lv.length≤ds.length * lv.length:=Nat.mul_le_mul_right _ (by omega)
             rw [List.length_take,hm]
             refine ⟨by rw [List.length_take,hown.1]; omega,?_⟩
             unfold sliced
             rcases hown.2 with ⟨hn,hl⟩ | ⟨g,cap',cur,hn,hb0,hg,hca,hmx,hcs,htk⟩
             · rw [hv] at hn
               simp only [Value.slice.injEq] at hn
               obtain ⟨rfl,h0,rfl⟩:=hn
               left
               have:(hh.den ν).toInt.toNat=0:=by omega
               simp [this]
             · rw [hv] at hn
               simp only [Value.slice.injEq] at hn
               obtain ⟨rfl,_,rfl⟩:=hn
               right
               refine ⟨g,cap,cur,?_,hb0,hg,by omega,hmx,hcs,?_⟩
               · have:(⟨g,0,none⟩ : Addr).add (0 * lv.length)=⟨g,0,none⟩:=by simp [Addr.add_mid]
                 simp [Addr.add_mid]
               · rw [←htk,List.take_take,Nat.min_eq_left hle]
           · intro j c k hj hk2
             have hj' : j < (hh.den ν).toInt.toNat∧j < ds.length:=by rw [List.length_take] at hj; omega
             have h3:=hrc j c k hj'.2 hk2
             have hcl:c < lv.length:=(List.getElem?_eq_some_iff.1 hk2).1
             have hlt:j * lv.length+c < (hh.den ν).toInt.toNat * lv.length:=by
              calc j * lv.length+c < j * lv.length+lv.length:=by omega
               _=(j+1) * lv.length:=by rw [Nat.add_mul]; simp
               _≤_:=Nat.mul_le_mul_right _ hj'.1
             have e1:(ds.take (hh.den ν).toInt.toNat).getD j default=ds.getD j default:=by
              rw [List.getD_eq_getElem?_getD,List.getD_eq_getElem?_getD,List.getElem?_take,if_pos hj'.1]
             have e2:(vs.take ((hh.den ν).toInt.toNat * lv.length)).getD (j * lv.length+c) undef=vs.getD (j * lv.length+c) undef:=by
              rw [List.getD_eq_getElem?_getD,List.getD_eq_getElem?_getD,List.getElem?_take,if_pos hlt]
             rw [e1,e2]
             exact h3
       · obtain ⟨g1,g2⟩:=bnd_vals hT h ho hel heh ds.length (ν:=ν)
         have hrun:=run_sliceAt_sl (w:=w) hT hti (b:=b) (len:=ds.length) (cap:=cap) g1 g2 (Int.le_refl _) (by simp [loD,hiD]) (by simp [hiD]; omega)
         refine post_one h (slice_exec ho (by rw [hv]; exact hrun)) hr ?_
         have he:sliced b (loD (none:Option E) ν).toNat (hiD (none:Option E) ds.length ν).toNat cap lv.length=a.eval x:=by
          rw [hv]
          simp only [sliced,loD,hiD,Int.toNat_zero,Int.toNat_natCast,Nat.sub_zero,Nat.zero_mul]
          rcases hown.2 with ⟨hn,hl⟩ | ⟨g,cap',cur,hn,_⟩
          · rw [hv] at hn
            simp only [Value.slice.injEq] at hn
            obtain ⟨rfl,h0,rfl⟩:=hn
            simp
          · rw [hv] at hn
            simp only [Value.slice.injEq] at hn
            obtain ⟨rfl,_,rfl⟩:=hn
            simp [Addr.add_mid]
         rw [he]
         exact ⟨hω,b,ds.length,cap,hv⟩
       · rename_i l
         split at hr
         · rename_i e2 agg2 lv2 hti2
           rw [hti] at hti2
           cases hti2
           obtain ⟨h1,hr⟩:=ckLe_sound h hr
           obtain ⟨h2,hr⟩:=ckLe_sound h hr
           rw [lenE_den,hden] at h2
           have h1:0≤(l.den ν).toInt:=h1
           have h2:(l.den ν).toInt≤(ds.length:Int):=h2
           obtain ⟨g1,g2⟩:=bnd_vals hT h ho hel heh ds.length (ν:=ν)
           have hrun:=run_sliceAt_sl (w:=w) hT hti (b:=b) (len:=ds.length) (cap:=cap) g1 g2 h1 (by show (l.den ν).toInt≤(ds.length:Int); exact h2) (by show (ds.length:Int)≤cap; omega)
           exact post_one h (slice_exec ho (by rw [hv]; exact hrun)) hr ⟨b,ds.length,cap,by rw [hω,hv],h1,h2,rfl⟩
         · exact hr.elim
       · exact hr.elim
     · exact hr.elim
   · rename_i t' y hob
     split at hr
     · rename_i hc
       obtain ⟨v,hω',hd⟩:=h.objs ob _ hob
       have hv:a.eval x=v:=by rw [hx.1] at hω'; exact Option.some.inj hω'
       exact stepCut_sound hT h ho hel heh (by rw [hv]; exact hd) hc.1 hc.2 hr
     · exact hr.elim
   · exact hr.elim
 · exact hr.elim
end
end
end Go.SX
namespace Go.SX
open Go.RowKit
section
variable {C:Cx} {σ:St} {ν:List D} {S:Nat→Prop} {ω:Nat→Option Value} {w:World} {r:List D} {a:Act} {o:Oper} {Q:Exit→Act→World→Prop} {K' : Delta→T}
theorem Fr.mono {w w' : World} {F G:Nat→Prop} (h:Fr w F w') (hFG:∀ b,F b→G b):Fr w G w':=⟨h.os,h.tape,h.output,h.size,fun k hk hG=>h.block k hk fun hF=>hG (hFG k hF)⟩
theorem store_exec {t:TypeId} {x y:Operand} (ho:o.op=.store t x y) {w' : World} (h:(Instr.storeAt t (a.eval x) (a.eval y)).run C.P w=.ok () w'):(execOp a.eval o).run C.P w=.ok .skip w':=by
 unfold execOp
 simp [ho,h]
theorem splice_get {α:Type} (l new:List α) (p q:Nat) (h:p+new.length≤l.length):(l.take p++new++l.drop (p+new.length))[q]?=if q < p then l[q]? else if q < p+new.length then new[q - p]? else l[q]?:=by
 have hp:(l.take p).length=p:=by rw [List.length_take]; omega
 by_cases h1:q < p
 · rw [if_pos h1,List.append_assoc,List.getElem?_append_left (by omega),List.getElem?_take,if_pos h1]
 · rw [if_neg h1]
   by_cases h2:q < p+new.length
   · rw [if_pos h2,List.append_assoc,List.getElem?_append_right (by omega),hp,List.getElem?_append_left (by omega)]
   · rw [if_neg h2,List.getElem?_append_right (by rw [List.length_append,hp]; omega),List.length_append,hp,List.getElem?_drop]
     congr 1
     omega
theorem all2_splice {α β:Type} {R:α→β→Prop} {l:List α} {m:List β} {l' : List α} {m' : List β} (h:All2 R l m) (h' : All2 R l' m') (p q:Nat):All2 R (l.take p++l'++l.drop q) (m.take p++m'++m.drop q) :=
 ((h.take p).app h').app (h.drop q)
theorem setCell_sound {agg:Bool} {lv:List K} {x i:E} {off:Nat} {ys:List E} {y:E} (h:setCell agg lv x i off ys=some y) (h1:agg=false→lv.length=1) (ν:List D) {ds:List D} (hx:x.den ν=.list ds) :
 ∃ d,y.den ν=.list (ds.set (i.den ν).toInt.toNat d)∧off+ys.length≤lv.length∧∀ c,c < lv.length→cellD agg c d=if c < off then cellD agg c (ds.getD (i.den ν).toInt.toNat default) else if c < off+ys.length then (ys.getD (c - off) .nil).den ν else cellD agg c (ds.getD (i.den ν).toInt.toNat default):=by
 unfold setCell at h
 split at h
 · rename_i hag
   split at h
   · rename_i hle
     cases h
     refine ⟨_,by simp [E.den,O3.den,hx,D.toList]; rfl,hle,fun c hc=>?_⟩
     subst hag
     have key:∀ (l:List E) (c:Nat),((aggE l).den ν).cells.getD c default=(l.map (E.den ν)).getD c default:=by
      intro l
      induction l with
      | nil=>intro c; rfl
      | cons z l ih =>
       intro c
       cases c with
       | zero=>rfl
       | succ c=>simpa [aggE,E.den,O2.den,D.cells] using ih c
     simp only [cellD,if_true]
     rw [key,List.getD_eq_getElem?_getD,List.getElem?_map,List.getElem?_map,List.getElem?_zipIdx]
     simp only [List.getElem?_eq_getElem hc,Option.map_some,Option.getD_some]
     have e0:(E.den ν (E.o1 (O1.cell (0+c)) (E.o2 .idx x i)))=(ds.getD (i.den ν).toInt.toNat default).cells.getD c default:=by
      simp [E.den,O1.den,O2.den,hx,D.toList]
     rw [Nat.zero_add] at e0 ⊢
     by_cases h2:c < off
     · rw [if_pos h2,if_pos h2]
       exact e0
     · rw [if_neg h2,if_neg h2]
       by_cases h3:c < off+ys.length
       · rw [if_pos h3,if_pos h3]
         simp
       · rw [if_neg h3,if_neg h3]
         exact e0
   · cases h
 · rename_i hag
   split at h
   · rename_i y'
     cases h
     have hag' : agg=false:=by simpa using hag
     have hl:=h1 hag'
     refine ⟨y'.den ν,by simp [E.den,O3.den,hx,D.toList],by simp [hl],fun c hc=>?_⟩
     have:c=0:=by omega
     subst this
     simp [cellD,hag']
   · cases h
theorem idx_inj {j j' c c' k:Nat} (hc:c < k) (hc' : c' < k) (h:j * k+c=j' * k+c'):j=j'∧c=c':=by
 rcases Nat.lt_trichotomy j j' with hlt | rfl | hgt
 · have:(j+1) * k≤j' * k:=Nat.mul_le_mul_right _ hlt
   rw [Nat.add_mul] at this
   omega
 · exact ⟨rfl,by omega⟩
 · have:(j'+1) * k≤j * k:=Nat.mul_le_mul_right _ hgt
   rw [Nat.add_mul] at this
   omega
theorem nest_store {tm:Array Value} (h:Sim C σ ν S ω tm w) {ob:Nat} {ts tn:TypeId} {x i k y z:E} {c:Nat} {v v0:Value} (hob:σ.objs[ob]?=some (.deep ts x)) (hv:SR C.ti w S ω ν (.pn ob ts i c tn k) v) {e:TypeId} {kk:K} (hti:C.ti tn=.sl e false [kk])
 {e1:TypeId} {lv:List K} (hts:C.ti ts=.sl e1 true lv) (hc:lv[c]?=some (.sl tn)) (hset:setCell true lv x i c [.o3 .set (nestE x i c) k y]=some z) (hy:Rd C.ti w S kk (y.den ν) v0) :
 ∃ g cur,v=.pointer (some ⟨g,(k.den ν).toInt.toNat,none⟩)∧w.heap[g]?=some (.cells cur e (0,0))∧(k.den ν).toInt.toNat+1≤cur.size ∧
  Sim C { σ with objs:=σ.objs.set ob (.deep ts z) } ν S ω tm (w.setRow g (cur.toList.take (k.den ν).toInt.toNat++[v0]++cur.toList.drop ((k.den ν).toInt.toNat+1)).toArray):=by
 obtain ⟨u,g,n,cap,g',m,q,e2,lv2,hts2,hc2,hω,hh,h0,h1,hcell,rfl,k0,k1⟩:=hv
 rw [hts] at hts2
 cases hts2
 obtain ⟨u',e3,lv3,ds,hω',hts3,hden,hown,hcells,hinj,hap⟩:=h.objs ob _ hob
 rw [hω] at hω'
 obtain rfl:=Option.some.inj hω'
 rw [hts] at hts3
 cases hts3
 have hn:n=ds.length:=by
  rcases hown.2 with ⟨hv',hn'⟩ | ⟨g',cap',cur,hv',_⟩
  · rw [hh] at hv'; cases hv'
  · rw [hh] at hv'; cases hv'; rfl
 have hj:(i.den ν).toInt.toNat < ds.length:=by omega
 have hcl:c < lv.length:=(List.getElem?_eq_some_iff.1 hc).1
 have hlt:(i.den ν).toInt.toNat * lv.length+c < (tlV u).length:=by rw [hown.1]; exact cellIdx_lt hj hcl
 have hN:=hcells _ c _ hj hc
 rw [hcell] at hN
 obtain ⟨e4,k4,ns,hti4,hfl,hns,⟨a2,cap2,hv2⟩,hne⟩:=hN
 rw [hti] at hti4
 cases hti4
 obtain ⟨rfl,rfl,rfl⟩ : some (⟨g',0,none⟩ : Addr)=a2∧m=ns.length∧q=cap2:=by injection hv2 with x y z; exact ⟨x,y,z⟩
 have hne0:ns≠[]:=by rintro rfl; simp at k1; omega
 have hnl:ns.length≠0:=fun h=>hne0 (List.eq_nil_of_length_eq_zero h)
 obtain ⟨us,hown2,hr2⟩:=hne hne0
 obtain ⟨cur,hg,hcap,hmx,hcs,htk⟩ : ∃ cur,w.heap[g']?=some (.cells cur e (0,0))∧ns.length≤q∧q≤maxLen∧cur.size=q * 1∧cur.toList.take (ns.length * 1)=us:=by
  rcases hown2.2 with ⟨hv',hn⟩ | ⟨g2,cap',cur,hv',_,hg,hca,hmx,hcs,htk⟩
  · exact absurd hn hnl
  · simp only [Value.slice.injEq,Option.some.injEq,Addr.mk.injEq] at hv'
    obtain ⟨⟨rfl,_,_⟩,_,rfl⟩:=hv'
    exact ⟨cur,hg,hca,hmx,hcs,htk⟩
 have hk:(k.den ν).toInt.toNat < ns.length:=by omega
 have hnb:nblk ((tlV u).getD ((i.den ν).toInt.toNat * lv.length+c) undef) g':=by rw [hcell]; exact ⟨hnl,rfl⟩
 have hBlk:Blk u g':=(Blk_iff _ _).2 (.inr ⟨_,mem_getD_of hlt,hnb⟩)
 have hgne:g≠g':=by
  intro he
  subst he
  exact hap _ _ hnb (by rw [hh]; rfl)
 refine ⟨g',cur,rfl,hg,by omega,?_⟩
 obtain ⟨d,hzd,hol,hcd⟩:=setCell_sound hset (by simp) ν hden
 generalize hcur' : (cur.toList.take (k.den ν).toInt.toNat++[v0]++cur.toList.drop ((k.den ν).toInt.toNat+1)).toArray=cur'
 have hget:∀ p,cur'.toList[p]?=if p < (k.den ν).toInt.toNat then cur.toList[p]? else if p < (k.den ν).toInt.toNat+1 then [v0][p - (k.den ν).toInt.toNat]? else cur.toList[p]?:=by
  intro p
  rw [←hcur',List.toList_toArray]
  exact splice_get cur.toList [v0] _ p (by simp; omega)
 have hsz' : cur'.size=cur.size:=by
  rw [←hcur']
  simp only [List.size_toArray,List.length_append,List.length_take,List.length_drop,List.length_singleton,Array.length_toList (xs:=cur)]
  omega
 have hoth:∀ b,b≠g'→(w.setRow g' cur').heap[b]?=w.heap[b]?:=fun b hb=>setRow_other w g' b _ hb
 refine h.setObj hob rfl hω ((Fr_setRow w g' _).mono fun b' hb'=>by rw [hb']; exact hBlk) ⟨u,e1,lv,ds.set (i.den ν).toInt.toNat d,hω,hts,hzd,?_,fun j' c' k' hj' hk'=>?_,hinj,hap⟩
 · rw [List.length_set]
   refine ⟨hown.1,?_⟩
   rcases hown.2 with ⟨hv',_⟩ | ⟨g2,cap',cur2,hv',hb0,hh2,hrest⟩
   · rw [hh] at hv'; cases hv'
   · refine .inr ⟨g2,cap',cur2,hv',hb0,?_,hrest⟩
     rw [hh] at hv'
     cases hv'
     rw [hoth g hgne]
     exact hh2
 · rw [List.length_set] at hj'
   have hc' : c' < lv.length:=(List.getElem?_eq_some_iff.1 hk').1
   have hlt' : j' * lv.length+c' < (tlV u).length:=by rw [hown.1]; exact cellIdx_lt hj' hc'
   have same:¬ (j'=(i.den ν).toInt.toNat∧c'=c)→NCell C.ti (w.setRow g' cur') k' (cellD true c' (ds.getD j' default)) ((tlV u).getD (j' * lv.length+c') undef):=fun hno=>by
    refine (hcells j' c' k' hj' hk').mono fun b hb=>hoth b fun he=>hno ?_
    subst he
    exact idx_inj hc' hcl (hinj _ _ _ hb hnb)
   by_cases hji:j'=(i.den ν).toInt.toNat
   · subst hji
     have hgd:(ds.set (i.den ν).toInt.toNat d).getD (i.den ν).toInt.toNat default=d:=by
      rw [List.getD_eq_getElem?_getD,List.getElem?_set_self hj]; rfl
     rw [hgd,hcd c' hc']
     by_cases hcc:c'=c
     · subst hcc
       rw [hc] at hk'
       cases hk'
       rw [if_neg (Nat.lt_irrefl _),if_pos (by simp),hcell]
       have hed:(([E.o3 .set (nestE x i c') k y]:List E).getD (c' - c') .nil).den ν=.list (ns.set (k.den ν).toInt.toNat (y.den ν)):=by
        rw [Nat.sub_self]
        show O3.den .set ((nestE x i c').den ν) (k.den ν) (y.den ν)=_
        have:(nestE x i c').den ν=.list ns:=by
         rw [←hns]
         simp [nestE,E.den,O1.den,O2.den,hden,D.toList,cellD]
        rw [this]
        rfl
       rw [hed]
       refine ⟨e,kk,_,hti,hfl,rfl,⟨_,_,by rw [List.length_set]⟩,fun _=>⟨cur'.toList.take (ns.length * 1),?_,fun p hp=>?_⟩⟩
       · rw [List.length_set]
         exact ⟨by rw [List.length_take,Array.length_toList (xs:=cur')]; omega,.inr ⟨g',q,cur',rfl,Nat.zero_le _,heap_setRow_same w g' cur cur' e hg,hcap,hmx,by rw [hsz',hcs],rfl⟩⟩
       · rw [List.length_set] at hp
         have e1:(cur'.toList.take (ns.length * 1)).getD p undef=(cur'.toList[p]?).getD undef:=by
          rw [List.getD_eq_getElem?_getD,List.getElem?_take,if_pos (by omega)]
         have e2:us.getD p undef=(cur.toList[p]?).getD undef:=by
          rw [←htk,List.getD_eq_getElem?_getD,List.getElem?_take,if_pos (by omega)]
         rw [e1,hget]
         by_cases hpk:p=(k.den ν).toInt.toNat
         · subst hpk
           rw [if_neg (Nat.lt_irrefl _),if_pos (by omega),Nat.sub_self]
           have:(ns.set (k.den ν).toInt.toNat (y.den ν)).getD (k.den ν).toInt.toNat default=y.den ν:=by
            rw [List.getD_eq_getElem?_getD,List.getElem?_set_self hk]; rfl
           rw [this]
           exact hy.flat fun t ht=>by subst ht; cases hfl
         · have hd:(ns.set (k.den ν).toInt.toNat (y.den ν)).getD p default=ns.getD p default:=by
            rw [List.getD_eq_getElem?_getD,List.getD_eq_getElem?_getD,List.getElem?_set_ne (Ne.symm hpk)]
           rw [hd]
           have hold:=hr2 p hp
           rw [e2] at hold
           have hfin:(if p < (k.den ν).toInt.toNat then cur.toList[p]? else if p < (k.den ν).toInt.toNat+1 then [v0][p - (k.den ν).toInt.toNat]? else cur.toList[p]?)=cur.toList[p]?:=by
            split
            · rfl
            · rw [if_neg (by omega)]
           rw [hfin]
           exact hold.mono (fun _ h=>h.elim) fun _ h=>h
     · have hcd' : (if c' < c then cellD true c' (ds.getD (i.den ν).toInt.toNat default) else if c' < c+[E.o3 O3.set (nestE x i c) k y].length then (([E.o3 O3.set (nestE x i c) k y]:List E).getD (c' - c) .nil).den ν else cellD true c' (ds.getD (i.den ν).toInt.toNat default))=cellD true c' (ds.getD (i.den ν).toInt.toNat default):=by
        split
        · rfl
        · rw [if_neg (by simp; omega)]
       rw [hcd']
       exact same fun h=>hcc h.2
   · have hgd:(ds.set (i.den ν).toInt.toNat d).getD j' default=ds.getD j' default:=by
      rw [List.getD_eq_getElem?_getD,List.getD_eq_getElem?_getD,List.getElem?_set_ne (Ne.symm hji)]
     rw [hgd]
     exact same fun h=>hji h.1
theorem stepStore_sound (hT:TyOK C.P C.ti) (h:Sim C σ ν S ω a.tmps w) {t:TypeId} {x y:Operand} {s:SV1} {sv:SV} (ho:o.op=.store t x y) (hx:SR C.ti w S ω ν s (a.eval x)) (hy:SVR C.ti w S ω ν sv (a.eval y))
 (hr:(stepStore C.ti t s sv σ K').Run C.R ν r):o.wp C.P a w (Post C σ ω o.dst K' r a.defers) Q:=by
 unfold stepStore at hr
 split at hr
 · rename_i hb
   obtain ⟨hb,hlen⟩:=hb
   have hvc:=hy.cells
   have hvl:=hvc.length
   split at hr
   · rename_i ob off
     split at hr
     · rename_i cs hob
       split at hr
       · rename_i hfit
         obtain ⟨b,hω,hv⟩:=hx
         obtain ⟨b',t',vs,hω',hh,hcs⟩:=h.objs ob _ hob
         rw [hω] at hω'
         cases hω'
         have hcl:=hcs.length
         have hst:=store_cells hT hb hlen hy hh (by rw [←Array.length_toList,←hcl]; exact hfit) (off:=off)
         have hnS:∀ b',S b'→b'≠b:=fun b' hb' he=>(h.own ob _ b hob rfl (by rw [hω]; rfl)).1 (he ▸ hb')
         have hstab:∀ b',S b'→(w.setRow b (vs.toList.take off++(a.eval y).cells.toList++vs.toList.drop (off+(a.eval y).cells.toList.length)).toArray).heap[b']?=w.heap[b']?:=fun b' hb'=>setRow_other w b b' _ (hnS b' hb')
         refine post_skip (store_exec ho (by rw [hv]; exact hst)) hr ?_ (NewAt.refl _ _ _) rfl (S':=S) (ω':=ω)
         refine Sim.app_of (objs:=σ.objs.set ob (.box (cs.take off++sv.cells++cs.drop (off+sv.cells.length)))) ?_ (by simp [St.objsOf,freeze_nil,upds,place_nil]) rfl
         refine h.setObj hob rfl hω ((Fr_setRow w b _).mono fun b' hb'=>by simp [Blk,blk,hb']) ⟨b,t',_,hω,heap_setRow_same w b vs _ t' hh,?_⟩
         simp only [List.toList_toArray]
         rw [hvl]
         exact (all2_splice hcs hvc off _).imp fun _ _ k=>k.mono hstab (fun _ h=>h) fun _ _ h=>h
       · exact hr.elim
     · exact hr.elim
   · rename_i ob sz i off
     split at hr
     · rename_i ts z ks l hob hks
       split at hr
       · rename_i e agg lv hti
         split at hr
         · exact hr.elim
         · rename_i hcon
           have hnl:ob ∉ l:=fun hin=>hcon (.inl (by simpa using hin))
           have hsz:sz=lv.length:=Decidable.byContradiction fun hne=>hcon (.inr hne)
           subst hsz
           split at hr
           · rename_i hkk
             split at hr
             · rename_i y' hset
               obtain ⟨hd,hlive⟩:=datasOf_sound h.objs hks hvc
               obtain ⟨g,n,cap,hω,hv,h0,hi⟩:=hx
               obtain ⟨v,e',agg',lv',ds,vs,hω',hti',hden,hown,hrc⟩:=h.objs ob _ hob
               rw [hω] at hω'
               cases hω'
               rw [hti] at hti'
               cases hti'
               obtain ⟨hu,he,j,zz,hj,hjs,hlv,hby,hz,hzz,hone⟩:=sl_row hT hti
               obtain ⟨d,hyd,hol,hcell⟩:=setCell_sound hset hone ν hden
               have hf:=h.freeze l hlive
               have hobf:(freeze σ.objs l)[ob]?=some (.row ts z):=by
                rw [freeze_get,hob]; simp [hnl]
               obtain ⟨cur,hn,hh,hcap,hmx,hcs,htk⟩ : ∃ cur,n=ds.length∧w.heap[g]?=some (.cells cur e (0,0))∧ds.length≤cap∧cap≤maxLen∧cur.size=cap * lv.length∧cur.toList.take (ds.length * lv.length)=vs:=by
                rcases hown.2 with ⟨hv',hn⟩ | ⟨g',cap',cur,hv',_,hg,hca,hmx,hcs,htk⟩
                · cases hv'
                · simp only [Value.slice.injEq,Option.some.injEq,Addr.mk.injEq] at hv'
                  obtain ⟨⟨rfl,_,_⟩,rfl,rfl⟩:=hv'
                  exact ⟨cur,rfl,hg,hca,hmx,hcs,htk⟩
               subst hn
               have hi' : (i.den ν).toInt.toNat < ds.length:=by omega
               have hkl:ks.length=sv.cells.length:=by rw [hvl]; exact hd.length
               have hksl:off+ks.length≤lv.length:=by simpa using hol
               have hpos:(i.den ν).toInt.toNat * lv.length+lv.length≤ds.length * lv.length:=by
                calc (i.den ν).toInt.toNat * lv.length+lv.length=((i.den ν).toInt.toNat+1) * lv.length:=by rw [Nat.add_mul]; simp
                 _≤_:=Nat.mul_le_mul_right _ hi'
               have hcapl:ds.length * lv.length≤cap * lv.length:=Nat.mul_le_mul_right _ hcap
               have hst:=store_cells hT hb hlen hy hh (off:=(i.den ν).toInt.toNat * lv.length+off) (by omega)
               generalize hcur' : (cur.toList.take ((i.den ν).toInt.toNat * lv.length+off)++(a.eval y).cells.toList++cur.toList.drop ((i.den ν).toInt.toNat * lv.length+off+(a.eval y).cells.toList.length)).toArray=cur' at hst
               have hcl:(a.eval y).cells.toList.length=ks.length:=by rw [hkl,hvl]
               have hget:∀ q,cur'.toList[q]?=if q < (i.den ν).toInt.toNat * lv.length+off then cur.toList[q]? else if q < (i.den ν).toInt.toNat * lv.length+off+ks.length then (a.eval y).cells.toList[q - ((i.den ν).toInt.toNat * lv.length+off)]? else cur.toList[q]?:=by
                intro q
                rw [←hcur',List.toList_toArray,splice_get _ _ _ _ (by rw [Array.length_toList (xs:=cur)]; omega),hcl]
               have hsz' : cur'.size=cur.size:=by
                rw [←hcur']
                simp only [List.size_toArray,List.length_append,List.length_take,List.length_drop,hcl,Array.length_toList (xs:=cur)]
                omega
               have hblk:blk (Value.slice (some ⟨g,0,none⟩) ds.length cap)=some g:=rfl
               have hnS:∀ b',SL S ω l b'→b'≠g:=fun b' hb' he=>(hf.own ob _ g hobf rfl (by rw [hω]; rfl)).1 (he ▸ hb')
               have hstab:∀ b',SL S ω l b'→(w.setRow g cur').heap[b']?=w.heap[b']?:=fun b' hb'=>setRow_other w g b' _ (hnS b' hb')
               refine post_skip (store_exec ho (by rw [hv]; exact hst)) hr ?_ (NewAt.refl _ _ _) rfl (S':=SL S ω l) (ω':=ω)
               refine Sim.app_of (objs:=(freeze σ.objs l).set ob (.row ts y')) ?_ (by simp [St.objsOf,upds,place_nil]) rfl
               refine hf.setObj hobf rfl hω ((Fr_setRow w g _).mono fun b' hb'=>by simp [Blk,blk,hb']) ⟨_,e,agg,lv,ds.set (i.den ν).toInt.toNat d,cur'.toList.take (ds.length * lv.length),hω,hti,hyd,?_,?_⟩
               · rw [List.length_set]
                 refine ⟨by rw [List.length_take,Array.length_toList (xs:=cur')]; omega,.inr ⟨g,cap,cur',rfl,Nat.zero_le _,heap_setRow_same w g cur cur' e hh,hcap,hmx,by rw [hsz',hcs],rfl⟩⟩
               · intro j' c k hj' hk
                 rw [List.length_set] at hj'
                 have hc' : c < lv.length:=(List.getElem?_eq_some_iff.1 hk).1
                 have hq:j' * lv.length+c < ds.length * lv.length:=by
                  calc j' * lv.length+c < j' * lv.length+lv.length:=by omega
                   _=(j'+1) * lv.length:=by rw [Nat.add_mul]; simp
                   _≤_:=Nat.mul_le_mul_right _ hj'
                 have hold:=(hrc j' c k hj' hk).mono (w':=w.setRow g cur') (S':=SL S ω l) (fun b' hb'=>hstab b' (.inl hb')) (fun _ h=>.inl h)
                 have hvs:vs.getD (j' * lv.length+c) undef=(cur.toList[j' * lv.length+c]?).getD undef:=by
                  rw [←htk,List.getD_eq_getElem?_getD,List.getElem?_take,if_pos hq]
                 have hnew:(cur'.toList.take (ds.length * lv.length)).getD (j' * lv.length+c) undef=(cur'.toList[j' * lv.length+c]?).getD undef:=by
                  rw [List.getD_eq_getElem?_getD,List.getElem?_take,if_pos hq]
                 rw [hnew,hget]
                 by_cases hji:j'=(i.den ν).toInt.toNat
                 · subst hji
                   have hgd:(ds.set (i.den ν).toInt.toNat d).getD (i.den ν).toInt.toNat default=d:=by
                    rw [List.getD_eq_getElem?_getD,List.getElem?_set_self hi']; rfl
                   rw [hgd,hcell c hc']
                   by_cases h1:c < off
                   · have hA:(i.den ν).toInt.toNat * lv.length+c < (i.den ν).toInt.toNat * lv.length+off:=by omega
                     rw [if_pos h1,if_pos hA]
                     rw [hvs] at hold
                     exact hold
                   · have hA:¬ (i.den ν).toInt.toNat * lv.length+c < (i.den ν).toInt.toNat * lv.length+off:=by omega
                     rw [if_neg h1,if_neg hA]
                     by_cases h2:c < off+ks.length
                     · have h2' : c < off+(ks.map (·.2)).length:=by simpa using h2
                       have hB:(i.den ν).toInt.toNat * lv.length+c < (i.den ν).toInt.toNat * lv.length+off+ks.length:=by omega
                       rw [if_pos h2',if_pos hB]
                       have hcc:c - off < ks.length:=by omega
                       obtain ⟨u,hu1,hu2⟩:=hd.get (List.getElem?_eq_getElem hcc)
                       have e1:(i.den ν).toInt.toNat * lv.length+c - ((i.den ν).toInt.toNat * lv.length+off)=c - off:=by omega
                       rw [e1,hu1]
                       have e2:(ks[c - off]).1=k:=by
                        have h3:=congrArg (fun l=>l[c - off]?) hkk
                        simp only [List.getElem?_take,List.getElem?_drop,List.getElem?_map,if_pos hcc,List.getElem?_eq_getElem hcc,Option.map_some] at h3
                        rw [show off+(c - off)=c by omega,hk] at h3
                        exact (Option.some.inj h3).symm
                       have e3:(List.map (fun x=>x.2) ks).getD (c - off) .nil=(ks[c - off]).2:=by
                        rw [List.getD_eq_getElem?_getD,List.getElem?_map,List.getElem?_eq_getElem hcc]; rfl
                       rw [e3,←e2]
                       exact hu2.mono hstab fun _ h=>h
                     · have h2' : ¬ c < off+(ks.map (·.2)).length:=by simpa using h2
                       have hB:¬ (i.den ν).toInt.toNat * lv.length+c < (i.den ν).toInt.toNat * lv.length+off+ks.length:=by omega
                       rw [if_neg h2',if_neg hB]
                       rw [hvs] at hold
                       exact hold
                 · have hgd:(ds.set (i.den ν).toInt.toNat d).getD j' default=ds.getD j' default:=by
                    rw [List.getD_eq_getElem?_getD,List.getD_eq_getElem?_getD,List.getElem?_set_ne (Ne.symm hji)]
                   rw [hgd]
                   rw [hvs] at hold
                   rcases Nat.lt_or_ge j' (i.den ν).toInt.toNat with hlt | hge
                   · have:(j'+1) * lv.length≤(i.den ν).toInt.toNat * lv.length:=Nat.mul_le_mul_right _ hlt
                     rw [Nat.add_mul] at this
                     rw [if_pos (by omega)]
                     exact hold
                   · have:((i.den ν).toInt.toNat+1) * lv.length≤j' * lv.length:=Nat.mul_le_mul_right _ (by omega)
                     rw [Nat.add_mul] at this
                     rw [if_neg (by omega),if_neg (by omega)]
                     exact hold
             · exact hr.elim
           · exact hr.elim
       · exact hr.elim
     · exact hr.elim
   · rename_i ob ts i c tn k
     split at hr
     · rename_i t' z kk' y' e kk hob hti
       split at hr
       · rename_i e1 lv hts
         split at hr
         · rename_i hcon
           obtain ⟨rfl,rfl,hc⟩:=hcon
           split at hr
           · rename_i z' hset
             have hvc' : ∃ v0,(a.eval y).cells.toList=[v0]∧Rd C.ti w S kk (y'.den ν) v0:=by
              have h2:All2 (SR C.ti w S ω ν) [SV1.e kk y'] (a.eval y).cells.toList:=hvc
              generalize (a.eval y).cells.toList=l at h2
              cases h2 with
              | cons ha hr=>cases hr; exact ⟨_,rfl,ha⟩
             obtain ⟨v0,hv0,hrd⟩:=hvc'
             obtain ⟨g,cur,hv,hh,hfit,hsim⟩:=nest_store h hob hx hti hts hc hset hrd
             have hst:=store_cells hT hb hlen hy hh (off:=(k.den ν).toInt.toNat) hfit
             rw [hv0] at hst
             refine post_skip (store_exec ho (by rw [hv]; exact hst)) hr ?_ (NewAt.refl _ _ _) rfl (S':=S) (ω':=ω)
             exact Sim.app_of (objs:=σ.objs.set ob (.deep t' z')) hsim (by simp [St.objsOf,freeze_nil,upds,place_nil]) rfl
           · exact hr.elim
         · exact hr.elim
       · exact hr.elim
     · exact hr.elim
   · exact hr.elim
 · exact hr.elim
/-! ### Structs and arrays that are built -/
theorem lookParts_sound (h:Sim C σ ν S ω a.tmps w) {ty:TypeId}:∀ {l:List (Nat × Operand)} {ps:List (Nat × SV)},lookParts σ ty l=some ps→All2 (fun p q=>p.1=q.1∧SVR C.ti w S ω ν p.2 q.2) ps (l.map fun p=>(p.1,a.eval p.2))
 | [],ps,hl=>by simp [lookParts] at hl; subst hl; exact .nil
 | (i,x)::r,ps,hl=>by
  simp only [lookParts] at hl
  split at hl
  · rename_i v l' h1 h2
    cases hl
    exact .cons ⟨rfl,lookSV_sound h h1⟩ (lookParts_sound h h2)
  · cases hl
theorem fill_one {place:Nat→Option (Nat × Nat)} {i off size:Nat} (hp:place i=some (off,size)) {v:Value} {cells:Array Value} (h1:v.cells.size=size) (h2:off+size≤cells.size) (rest:List (Nat × Value)) :
 Instr.fill place cells ((i,v)::rest)=Instr.fill place (cells.toList.take off++v.cells.toList++cells.toList.drop (off+size)).toArray rest:=by
 rw [Instr.fill,hp]
 simp only
 rw [if_neg (by simp; omega)]
 congr 1
 apply Array.toList_inj.1
 apply List.ext_getElem?
 intro k
 obtain ⟨g1,g2⟩:=Great.foldl_set off v.cells.toList 0 cells
 have e:(Array.foldl (fun cs (x:Value × Nat)=>cs.setIfInBounds (off+x.2) x.1) cells v.cells.zipIdx)=(v.cells.toList.zipIdx 0).foldl (fun cs (x:Value × Nat)=>cs.setIfInBounds (off+x.2) x.1) cells:=by
  rw [←Array.foldl_toList,Array.toList_zipIdx]
 rw [List.toList_toArray,←h1,←Array.length_toList (xs:=v.cells),splice_get _ _ _ _ (by rw [Array.length_toList (xs:=cells),Array.length_toList (xs:=v.cells)]; omega),Array.getElem?_toList]
 have e2:(Array.foldl (fun cs x=>cs.setIfInBounds (off+x.snd) x.fst) cells v.cells.zipIdx)=(v.cells.toList.zipIdx 0).foldl (fun cs (x:Value × Nat)=>cs.setIfInBounds (off+x.2) x.1) cells:=e
 rw [e2,g2 k]
 simp only [Nat.add_zero,Array.getElem?_toList]
 by_cases h3:k < off
 · rw [if_neg (by omega),if_pos h3]
 · rw [if_neg h3]
   by_cases h4:k < off+v.cells.toList.length
   · rw [if_pos ⟨by omega,h4,by rw [Array.length_toList (xs:=v.cells)] at h4; omega⟩,if_pos h4]
   · rw [if_neg (by omega),if_neg h4]
theorem fill_sound {place:Nat→Option (Nat × Nat)} {fs:List (Nat × Nat × Bool)} (hp:∀ (i off sz:Nat) (ag:Bool),fs[i]?=some (off,sz,ag)→place i=some (off,sz)) {n:Nat} (hn:∀ (i off sz:Nat) (ag:Bool),fs[i]?=some (off,sz,ag)→off+sz≤n) :
 ∀ {ps:List (Nat × SV)} {qs:List (Nat × Value)} {cs out:List SV1} {vs:Array Value},fillParts fs cs ps=some out→All2 (fun p q=>p.1=q.1∧SVR C.ti w S ω ν p.2 q.2) ps qs→cs.length=n→All2 (SR C.ti w S ω ν) cs vs.toList →
 ∃ us,Instr.fill place vs qs=some us∧All2 (SR C.ti w S ω ν) out us.toList
 | [],qs,cs,out,vs,h,hq,hl,hc=>by
  cases hq
  simp only [fillParts,Option.some.injEq] at h
  subst h
  exact ⟨vs,rfl,hc⟩
 | (i,v)::r,qs,cs,out,vs,h,hq,hl,hc=>by
  cases hq with
  | cons h1 hq =>
   rename_i q qs
   obtain ⟨i',u⟩:=q
   obtain ⟨rfl,hv⟩:=h1
   simp only [fillParts] at h
   split at h
   · rename_i off sz ag hf
     split at h
     · rename_i hsz
       have hvc:=hv.cells
       have hvl:=hvc.length
       have hcl:=hc.length
       have hle:=hn _ _ _ _ hf
       have hus:u.cells.size=sz:=by rw [←Array.length_toList,←hvl]; exact hsz
       have hvs:vs.size=n:=by rw [←Array.length_toList,←hcl]; exact hl
       rw [fill_one (hp _ _ _ _ hf) hus (by omega)]
       refine fill_sound hp hn h hq ?_ ?_
       · simp only [List.length_append,List.length_take,List.length_drop]
         omega
       · simp only [List.toList_toArray]
         exact all2_splice hc hvc _ _
     · cases h
   · cases h
theorem mapM_some' {α β:Type} {f:α→Option β}:∀ (l:List α) (g:α→β),(∀ x,x∈l→f x=some (g x))→l.mapM f=some (l.map g)
 | [],g,h=>by simp
 | x::l,g,h=>by
  simp only [List.mapM_cons,h x (by simp),mapM_some' l g fun y hy=>h y (by simp [hy])]
  rfl
theorem stepBuild_sound (hT:TyOK C.P C.ti) (h:Sim C σ ν S ω a.tmps w) {t:TypeId} {parts:Array (Nat × Operand)} (ho:o.op=.build t parts) (hr:(stepBuild C.ti t parts.toList σ K').Run C.R ν r):o.wp C.P a w (Post C σ ω o.dst K' r a.defers) Q:=by
 unfold stepBuild at hr
 split at hr
 · rename_i st lv fs hti
   split at hr
   · rename_i ps hps
     split at hr
     · rename_i cs hcs
       have hq:=lookParts_sound h hps
       have ht:=hT t
       unfold TyF at ht
       rw [hti] at ht
       obtain ⟨it,z,d,hu,hrow,hit,hsz,hz,hzz,hkind⟩:=ht
       have hzs:=zeros_sound (C:=C) (w:=w) (S:=S) (ω:=ω) (ν:=ν) hzz
       have hlen:(lv.map zero1).length=lv.length:=by simp
       have fin:∀ {us:Array Value},C.P.built t (parts.toList.map fun p=>(p.1,a.eval p.2))=some us→All2 (SR C.ti w S ω ν) cs us.toList→o.wp C.P a w (Post C σ ω o.dst K' r a.defers) Q:=by
        intro us hb hus
        refine post_pure h (v:=.agg us) ?_ hr ⟨us.toList,rfl,hus⟩
        have hrun:=run_build w t (parts.map fun x=>(x.1,a.eval x.2)) us (by simpa using hb)
        unfold execOp
        simp [ho,hrun]
       rcases hkind with ⟨fields,rfl,rfl,hfl,hf⟩ | ⟨n,e,i,rfl,rfl,hi,hpos,hfl,hg,hlv,_,_⟩
       · have hinfo:∀ f,f∈fields.toList→(C.P.info? f.type).map (fun i=>(f.offset,i.size))=some (f.offset,((C.P.info? f.type).map (·.size)).getD 0):=by
          intro f hfm
          obtain ⟨j,hj⟩:=List.mem_iff_getElem?.1 hfm
          obtain ⟨i,h1,_⟩:=hf j f (by simpa using hj)
          simp [h1]
         have hpl:=mapM_some' fields.toList _ hinfo
         obtain ⟨us,h1,h2⟩:=fill_sound (C:=C) (place:=fun x=>(fields.toList.map fun f=>(f.offset,((C.P.info? f.type).map (·.size)).getD 0)).toArray[x]?) (fs:=fs) (n:=lv.length) (fun i off sz ag hfi=>by
          have hlt:i < fields.size:=by rw [hfl]; exact (List.getElem?_eq_some_iff.1 hfi).1
          obtain ⟨i2,k1,k2,_⟩:=hf i fields[i] (Array.getElem?_eq_getElem hlt)
          rw [hfi] at k2
          simp only [Option.some.injEq,Prod.mk.injEq] at k2
          simp [Array.getElem?_eq_getElem hlt,k1,k2.1,k2.2.1]) (fun i off sz ag hfi=>by
          have hlt:i < fields.size:=by rw [hfl]; exact (List.getElem?_eq_some_iff.1 hfi).1
          obtain ⟨i2,k1,k2,_,k3,_⟩:=hf i fields[i] (Array.getElem?_eq_getElem hlt)
          rw [hfi] at k2
          simp only [Option.some.injEq,Prod.mk.injEq] at k2
          rw [k2.1,k2.2.1]
          exact k3) hcs hq hlen hzs
         refine fin ?_ h2
         unfold Program.built
         simp only [hit,hu,hz,hpl]
         exact h1
       · obtain ⟨us,h1,h2⟩:=fill_sound (C:=C) (place:=fun x=>some (x * i.size,i.size)) (fs:=fs) (n:=lv.length) (fun j off sz ag hfi=>by
          have hlt:j < n:=by rw [←hfl]; exact (List.getElem?_eq_some_iff.1 hfi).1
          rw [hg j hlt] at hfi
          simp only [Option.some.injEq,Prod.mk.injEq] at hfi
          rw [←hfi.1,←hfi.2.1]) (fun j off sz ag hfi=>by
          have hlt:j < n:=by rw [←hfl]; exact (List.getElem?_eq_some_iff.1 hfi).1
          rw [hg j hlt] at hfi
          simp only [Option.some.injEq,Prod.mk.injEq] at hfi
          have:(j+1) * i.size≤n * i.size:=Nat.mul_le_mul_right _ hlt
          rw [Nat.add_mul] at this
          rw [←hfi.1,←hfi.2.1,hlv]
          omega) hcs hq hlen hzs
         refine fin ?_ h2
         unfold Program.built
         simp only [hit,hu,hz,hi]
         exact h1
     · exact hr.elim
   · exact hr.elim
 · exact hr.elim
end
end Go.SX
namespace Go.SX
open Go.RowKit
section
variable {C:Cx} {σ:St} {ν:List D} {S:Nat→Prop} {ω:Nat→Option Value} {w:World} {r:List D} {a:Act} {o:Oper} {Q:Exit→Act→World→Prop} {K' : Delta→T}
def ElR (ti:TypeId→TI) (w:World) (S:Nat→Prop) (agg:Bool) (lv:List K) (d:D) (v:Value):Prop:=v.cells.size=lv.length∧∀ (c:Nat) k,lv[c]?=some k→Rd ti w S k (cellD agg c d) (v.cells.toList.getD c undef)
theorem aggE_cell (ν:List D):∀ (l:List E) (c:Nat),((aggE l).den ν).cells.getD c default=(l.map (E.den ν)).getD c default
 | [],c=>rfl
 | z::l,0=>rfl
 | z::l,c+1=>by simpa [aggE,E.den,O2.den,D.cells] using aggE_cell ν l c
theorem listE_den (ν:List D):∀ l:List E,(listE l).den ν=.list (l.map (E.den ν))
 | []=>rfl
 | [x]=>rfl
 | x::y::l=>by
  have ih:=listE_den ν (y::l)
  simp only [listE,E.den,O2.den,O1.den,ih,D.toList,List.map_cons,List.singleton_append]
theorem elems_sound {ti:TypeId→TI} {objs:List SObj} (hO:∀ (o:Nat) ob,objs[o]?=some ob→ObjR ti w S ω ν o ob) {agg:Bool} {lv:List K} (h1:agg=false→lv.length=1):∀ {svs:List SV} {vals:List Value} {xs:List E} {l:List Nat},
 elems objs agg lv svs=some (xs,l)→All2 (SVR ti w S ω ν) svs vals→All2 (fun x v=>ElR ti w (SL S ω l) agg lv (x.den ν) v) xs vals∧LiveL objs l
 | [],vals,xs,l,h,hv=>by
  cases hv
  simp only [elems,Option.some.injEq,Prod.mk.injEq] at h
  obtain ⟨rfl,rfl⟩:=h
  exact ⟨.nil,fun o ho=>by simp at ho⟩
 | sv::r,vals,xs,l,h,hv=>by
  cases hv with
  | cons hv hvs =>
   rename_i u us
   simp only [elems] at h
   split at h
   · rename_i ks l1 ys l2 hks hys
     split at h
     · rename_i hlv
       obtain ⟨d1,d2⟩:=datasOf_sound hO hks hv.cells
       obtain ⟨e1,e2⟩:=elems_sound hO h1 hys hvs
       have hl:∀ o,o∈l1++l2→∃ ob,objs[o]?=some ob∧ob.live=true:=fun o ho=>by
        rcases List.mem_append.1 ho with ho | ho
        · exact d2 o ho
        · exact e2 o ho
       have d1':=d1.imp (R':=fun p v=>Rd ti w (SL S ω (l1++l2)) p.1 (p.2.den ν) v) fun p v q=>q.sub (SL.mono (by simp; intro o h; exact .inl h))
       have e1':=e1.imp (R':=fun x v=>ElR ti w (SL S ω (l1++l2)) agg lv (x.den ν) v) fun x v q=>⟨q.1,fun c k hk=>(q.2 c k hk).sub (SL.mono (by simp; intro o h; exact .inr h))⟩
       have hlen:=d1.length
       have hkl:ks.length=lv.length:=by rw [←hlv]; simp
       have hcell:∀ (c:Nat) k,lv[c]?=some k→∃ y,(ks.map (·.2))[c]?=some y∧Rd ti w (SL S ω (l1++l2)) k (y.den ν) (u.cells.toList.getD c undef):=by
        intro c k hk
        have hc:c < ks.length:=by rw [hkl]; exact (List.getElem?_eq_some_iff.1 hk).1
        obtain ⟨q,hq,hr⟩:=d1'.get (List.getElem?_eq_getElem hc)
        have:(ks[c]).1=k:=by
         have:=congrArg (fun l=>l[c]?) hlv
         simp only [List.getElem?_map,List.getElem?_eq_getElem hc,Option.map_some,hk] at this
         exact Option.some.inj this
        refine ⟨(ks[c]).2,by rw [List.getElem?_map,List.getElem?_eq_getElem hc]; rfl,?_⟩
        rw [List.getD_eq_getElem?_getD,hq,←this]
        exact hr
       have hsz:u.cells.size=lv.length:=by rw [←Array.length_toList (xs:=u.cells),←hlen,hkl]
       split at h
       · rename_i hag
         cases h
         refine ⟨.cons ⟨hsz,fun c k hk=>?_⟩ e1',hl⟩
         obtain ⟨y,hy,hr⟩:=hcell c k hk
         subst hag
         simp only [cellD,if_true]
         rw [aggE_cell,List.getD_eq_getElem?_getD,List.getElem?_map,hy]
         exact hr
       · rename_i hag
         split at h
         · rename_i k0 x0
           cases h
           refine ⟨.cons ⟨hsz,fun c k hk=>?_⟩ e1',hl⟩
           obtain ⟨y,hy,hr⟩:=hcell c k hk
           have hag' : agg=false:=by simpa using hag
           have hc:c < lv.length:=(List.getElem?_eq_some_iff.1 hk).1
           have hl1:=h1 hag'
           have hc0:c=0:=by omega
           subst hc0
           simp at hy
           subst hy
           simp only [cellD,hag',Bool.false_eq_true,if_false]
           exact hr
         · cases h
     · cases h
   · cases h
theorem zipIdx_of_fst {β:Type}:∀ (l:List (Nat × β)) (i n:Nat),l.map (·.1)=(List.range n).map (·+i)→l=((l.map (·.2)).zipIdx i).map fun x=>(x.2,x.1)
 | [],i,n,h=>rfl
 | p::l,i,n,h=>by
  cases n with
  | zero=>simp at h
  | succ n =>
   rw [List.range_succ_eq_map] at h
   simp only [List.map_cons,List.map_map,List.cons.injEq,Nat.zero_add] at h
   obtain ⟨h1,h2⟩:=h
   have:=zipIdx_of_fst l (i+1) n (by rw [h2]; apply List.map_congr_left; intro x _; simp; omega)
   simp only [List.map_cons,List.zipIdx_cons]
   rw [←this,←h1]
theorem buildSlice_exec {t:TypeId} {n:Nat} {parts:Array (Nat × Operand)} (ho:o.op=.buildSlice t n parts) {v:Value} {w' : World} (hrun:(Instr.buildSlice t n (parts.map fun x=>(x.1,a.eval x.2))).run C.P w=.ok v w'):(execOp a.eval o).run C.P w=.ok (.value v) w':=by
 unfold execOp
 simp [ho,hrun]
theorem stepBuildSlice_sound (hT:TyOK C.P C.ti) (h:Sim C σ ν S ω a.tmps w) (hnb:NbOK σ ω 1) {t:TypeId} {n:Nat} {parts:Array (Nat × Operand)} (ho:o.op=.buildSlice t n parts) (hr:(stepBuildSlice C.ti t n parts.toList σ K').Run C.R ν r):o.wp C.P a w (Post C σ ω o.dst K' r a.defers) Q:=by
 unfold stepBuildSlice at hr
 split at hr
 · rename_i e agg lv hti
   obtain ⟨hu,he,j,z,hj,hjs,hlv,hby,hz,hzz,hone⟩:=sl_row hT hti
   split at hr
   · rename_i ps hps
     split at hr
     · rename_i hcnd
       obtain ⟨hfst,hsmall⟩:=hcnd
       split at hr
       · rename_i xs l hxs
         have hq:=lookParts_sound h hps
         have hvals:All2 (SVR C.ti w S ω ν) (ps.map (·.2)) (parts.toList.map fun p=>a.eval p.2):=by
          have h1:All2 (fun (p:Nat × SV) (q:Nat × Operand)=>SVR C.ti w S ω ν p.2 (a.eval q.2)) ps parts.toList:=by
           have key:∀ {l:List (Nat × SV)} {m:List (Nat × Operand)},All2 (fun p q=>p.1=q.1∧SVR C.ti w S ω ν p.2 q.2) l (m.map fun p=>(p.1,a.eval p.2))→All2 (fun p q=>SVR C.ti w S ω ν p.2 (a.eval q.2)) l m:=by
            intro l m
            induction m generalizing l with
            | nil=>intro h; cases h; exact .nil
            | cons q m ih=>intro h; cases h with
             | cons h1 h2=>exact .cons h1.2 (ih h2)
           exact key hq
          exact All2.mapL (All2.map_right h1)
         have hidx:(parts.toList.map fun p=>(p.1,a.eval p.2)).map (·.1)=List.range n:=by
          rw [←hfst]
          have key:∀ {l:List (Nat × SV)} {m:List (Nat × Value)},All2 (fun p q=>p.1=q.1∧SVR C.ti w S ω ν p.2 q.2) l m→m.map (·.1)=l.map (·.1):=by
           intro l m h
           induction h with
           | nil=>rfl
           | cons h _ ih=>simp [h.1,ih]
          exact key hq
         obtain ⟨hel,hlive⟩:=elems_sound h.objs hone hxs hvals
         have hps2:=zipIdx_of_fst (parts.toList.map fun p=>(p.1,a.eval p.2)) 0 n (by rw [hidx]; simp)
         have hmap:(parts.toList.map fun p=>(p.1,a.eval p.2)).map (·.2)=parts.toList.map fun p=>a.eval p.2:=by simp
         rw [hmap] at hps2
         generalize hvv:(parts.toList.map fun p=>a.eval p.2)=vals at *
         have hvl:vals.length=n:=by
          have:=congrArg List.length hidx
          simp only [List.length_map,List.length_range] at this
          rw [←hvv]; simpa using this
         have hxl:xs.length=n:=by rw [hel.length,hvl]
         -- what the machine does
         have hrun:∃ cells:Array Value,(Instr.buildSlice t n (parts.map fun x=>(x.1,a.eval x.2))).run C.P w=.ok (.slice (some ⟨w.heap.size,0,none⟩) n n) (w.alloc (.cells cells e))∧cells.size=n * lv.length ∧
          ∀ (jj c:Nat),jj < n→c < lv.length→cells[jj * lv.length+c]?=(vals[jj]?).bind fun v=>v.cells[c]?:=by
          rcases Nat.eq_zero_or_pos n with h0 | h0
          · subst h0
            have hp:parts=#[]:=by
             apply Array.toList_inj.1
             have:(parts.toList.map fun p=>a.eval p.2).length=0:=by rw [hvv,hvl]
             simpa using this
            subst hp
            refine ⟨#[],?_,by simp,fun jj c h=>by omega⟩
            simp [Instr.buildSlice,run_underlying hu,sizeOf,typeInfo,hj,newRow,Instr.fill]
            have h0:Array.range 0=#[]:=by apply Array.toList_inj.1; simp
            rw [h0]
            simp
          · have hls:0 < n * lv.length:=Nat.mul_pos h0 hlv
            obtain ⟨us,g1,g2,g3⟩:=Great.fill_dense hlv vals 0 ((Array.range (n * lv.length)).map (z.cells[· % z.cells.size]!)) (fun v hv=>by
             obtain ⟨jj,hjj⟩:=List.mem_iff_getElem?.1 hv
             have hjl:jj < xs.length:=by rw [hel.length]; exact (List.getElem?_eq_some_iff.1 hjj).1
             obtain ⟨v',hv',hE⟩:=hel.get (List.getElem?_eq_getElem hjl)
             rw [hjj] at hv'
             cases hv'
             exact hE.1) (by simp [hvl])
            refine ⟨us,run_buildSlice w t e n _ us j z hu hj hz (by rw [hjs]; omega) (by rw [hjs]; omega) ?_,by rw [g2]; simp,fun jj c h1 h2=>?_⟩
            · rw [hjs]
              have:(parts.map fun x=>(x.1,a.eval x.2)).toList=(vals.zipIdx 0).map fun x=>(x.2,x.1):=by
               rw [←hps2]; simp
              rw [this]
              exact g1
            · have hlt:jj * lv.length+c < n * lv.length:=by
               calc jj * lv.length+c < jj * lv.length+lv.length:=by omega
                _=(jj+1) * lv.length:=by rw [Nat.add_mul]; simp
                _≤_:=Nat.mul_le_mul_right _ h1
              rw [g3,if_pos ⟨by omega,by rw [hvl]; simpa using hlt⟩]
              have e1:(jj * lv.length+c) / lv.length=jj:=by
               rw [Nat.mul_comm,Nat.mul_add_div hlv,Nat.div_eq_of_lt h2,Nat.add_zero]
              have e2:(jj * lv.length+c) % lv.length=c:=by
               rw [Nat.mul_comm,Nat.mul_add_mod,Nat.mod_eq_of_lt h2]
              rw [e1,e2]
              simp
         obtain ⟨cells,hrun,hcs,hget⟩:=hrun
         have hf:=h.freeze l hlive
         have hfl:(freeze σ.objs l).length=σ.objs.length:=freeze_length _ _
         refine post_val (S':=SL S ω l) (ω':=upd1 ω σ.nb (.slice (some ⟨w.heap.size,0,none⟩) n n)) (buildSlice_exec ho hrun) hr ?_ (NewAt.upd _ _ _) ⟨upd1_self _ _ _,_,_,_,rfl⟩
         refine Sim.app_of (objs:=place (freeze σ.objs l) σ.nb [.row t (listE xs)]) ?_ (by simp [St.objsOf,upds]) rfl
         have hnbf:NbOK { σ with objs:=freeze σ.objs l } ω 1:=by
          refine ⟨by simp only [hfl]; exact hnb.1,fun i hi=>⟨(hnb.2 i hi).1,fun x hx=>?_⟩⟩
          simp only [freeze_get] at hx
          obtain ⟨y,hy,rfl⟩:=Option.map_eq_some_iff.1 hx
          rw [(hnb.2 i hi).2 y hy]
          simp [SObj.frozen]
         have key:=hf.newBlock hnbf (x:=.row t (listE xs)) (v:=.slice (some ⟨w.heap.size,0,none⟩) n n) (Fr_alloc w (.cells cells e)) (fun b hb=>by simp [Blk,blk] at hb; subst hb; exact ⟨rfl,by simp⟩) ?_
         · exact key
         · refine ⟨_,e,agg,lv,xs.map (E.den ν),cells.toList,upd1_self _ _ _,hti,listE_den ν xs,?_,?_⟩
           · rw [List.length_map,hxl]
             refine ⟨by rw [Array.length_toList (xs:=cells)]; exact hcs,.inr ⟨w.heap.size,n,cells,rfl,Nat.zero_le _,heap_alloc_new w _,Nat.le_refl _,?_,hcs,?_⟩⟩
             · have:n * 1≤n * lv.length:=Nat.mul_le_mul_left _ hlv
               simp only [maxLen]
               omega
             · rw [←hcs,←Array.length_toList (xs:=cells),List.take_length]
           · intro jj c k hjj hk
             rw [List.length_map,hxl] at hjj
             have hc:c < lv.length:=(List.getElem?_eq_some_iff.1 hk).1
             have hjx:jj < xs.length:=by omega
             obtain ⟨v,hv,hE⟩:=hel.get (List.getElem?_eq_getElem hjx)
             have e1:(xs.map (E.den ν)).getD jj default=(xs[jj]).den ν:=by
              rw [List.getD_eq_getElem?_getD,List.getElem?_map,List.getElem?_eq_getElem hjx]; rfl
             have e2:cells.toList.getD (jj * lv.length+c) undef=v.cells.toList.getD c undef:=by
              rw [List.getD_eq_getElem?_getD,List.getD_eq_getElem?_getD,Array.getElem?_toList,hget jj c hjj hc,hv]
              simp
             rw [e1,e2]
             exact (hE.2 c k hk).mono (fun b hb=>(Fr_alloc w _).block b (hf.stab b hb) fun h=>h) fun _ h=>h
       · exact hr.elim
     · exact hr.elim
   · exact hr.elim
 · exact hr.elim
end
end Go.SX
namespace Go.SX
open Go.RowKit
section
variable {C:Cx} {σ:St} {ν:List D} {S:Nat→Prop} {ω:Nat→Option Value} {w:World} {r:List D} {a:Act} {o:Oper} {Q:Exit→Act→World→Prop} {K' : Delta→T}
theorem NCell.ofFlat {ti:TypeId→TI} {k:K} {d:D} {v:Value} (h:Rd ti w S k d v) (hk:k.flat=true):NCell ti w k d v:=by
 cases k with
 | sl t=>cases hk
 | _=>exact Rd.flat h (by intro t ht; cases ht)
theorem nblk_flat {ti:TypeId→TI} {k:K} {d:D} {v:Value} (h:Rd ti w S k d v) (hk:k.flat=true) (b:Nat):¬ nblk v b:=by
 cases h with
 | sl0=>cases hk
 | sl=>cases hk
 | _=>exact fun h=>h
theorem deepParts_sound {ti:TypeId→TI} {objs:List SObj} (hO:∀ (o:Nat) ob,objs[o]?=some ob→ObjR ti w S ω ν o ob)
 (hsep:∀ o o' ob ob' b,objs[o]?=some ob→objs[o']?=some ob'→ob.live=true→ob'.live=true→OwnB (ω o) b→OwnB (ω o') b→o=o') :
 ∀ {cs:List SV1} {lv:List K} {xs:List E} {os:List Nat} {vs:List Value},deepParts ti objs cs lv=some (xs,os)→All2 (SR ti w S ω ν) cs vs →
  vs.length=lv.length∧xs.length=lv.length∧(∀ (c:Nat) k,lv[c]?=some k→NCell ti w k ((xs.map (E.den ν)).getD c default) (vs.getD c undef)) ∧
  (∀ o,o∈os→∃ t x,objs[o]?=some (.row t x))∧(∀ p b,nblk (vs.getD p undef) b→∃ o,o∈os∧OwnB (ω o) b)∧(∀ p q b,nblk (vs.getD p undef) b→nblk (vs.getD q undef) b→p=q)∧(∀ v,v∈vs→v.oneCell'=true)
 | [],[],xs,os,vs,h,hv=>by
  cases hv
  simp only [deepParts,Option.some.injEq,Prod.mk.injEq] at h
  obtain ⟨rfl,rfl⟩:=h
  exact ⟨rfl,rfl,fun c k hk=>by simp at hk,fun o ho=>by simp at ho,fun p b hp=>by simp [undef,nblk] at hp,fun p q b hp=>by simp [undef,nblk] at hp,fun v hv=>by simp at hv⟩
 | [],_::_,xs,os,vs,h,hv=>by simp [deepParts] at h
 | .own o::r,[],xs,os,vs,h,hv=>by simp [deepParts] at h
 | .e k x::r,[],xs,os,vs,h,hv=>by simp [deepParts] at h
 | .own o::r,.int _::kr,xs,os,vs,h,hv=>by simp [deepParts] at h
 | .own o::r,.bool::kr,xs,os,vs,h,hv=>by simp [deepParts] at h
 | .own o::r,.str::kr,xs,os,vs,h,hv=>by simp [deepParts] at h
 | .nil _::r,lv,xs,os,vs,h,hv=>by cases lv <;> simp [deepParts] at h
 | .p ..::r,lv,xs,os,vs,h,hv=>by cases lv <;> simp [deepParts] at h
 | .po ..::r,lv,xs,os,vs,h,hv=>by cases lv <;> simp [deepParts] at h
 | .ow ..::r,lv,xs,os,vs,h,hv=>by cases lv <;> simp [deepParts] at h
 | .r ..::r',lv,xs,os,vs,h,hv=>by cases lv <;> simp [deepParts] at h
 | .dp ..::r,lv,xs,os,vs,h,hv=>by cases lv <;> simp [deepParts] at h
 | .pd ..::r,lv,xs,os,vs,h,hv=>by cases lv <;> simp [deepParts] at h
 | .nst ..::r,lv,xs,os,vs,h,hv=>by cases lv <;> simp [deepParts] at h
 | .pn ..::r,lv,xs,os,vs,h,hv=>by cases lv <;> simp [deepParts] at h
 | .fn ..::r,lv,xs,os,vs,h,hv=>by cases lv <;> simp [deepParts] at h
 | .u::r,lv,xs,os,vs,h,hv=>by cases lv <;> simp [deepParts] at h
 | .own o::r,.sl t::kr,xs,os,vs,h,hv=>by
  cases hv with
  | cons hv0 hv =>
   rename_i v vs
   simp only [deepParts] at h
   split at h
   · rename_i t' x e kf xs' os' hob hti hrec
     split at h
     · rename_i hcnd
       obtain ⟨rfl,hkf,hno⟩:=hcnd
       simp only [Option.some.injEq,Prod.mk.injEq] at h
       obtain ⟨rfl,rfl⟩:=h
       obtain ⟨g1,g2,g3,g4,g5,g6,g7⟩:=deepParts_sound hO hsep hrec hv
       obtain ⟨hω,a,n,cap,rfl⟩:=hv0
       obtain ⟨v',e',agg,lv',ds,us,hω',hti',hden,hown,hrc⟩:=hO o _ hob
       rw [hω] at hω'
       obtain rfl:=Option.some.inj hω'
       rw [hti] at hti'
       cases hti'
       have hn:n=ds.length:=by
        rcases hown.2 with ⟨hv',hn'⟩ | ⟨g',cap',cur,hv',_⟩
        · cases hv'; exact hn'.symm
        · cases hv'; rfl
       subst hn
       have hblk:∀ b,nblk (.slice a ds.length cap) b→OwnB (ω o) b:=by
        intro b hb
        rw [hω]
        cases a with
        | none=>exact hb.elim
        | some ad=>exact congrArg some hb.2
       have hrow:∃ t x,objs[o]?=some (.row t x):=⟨_,_,hob⟩
       refine ⟨by simp [g1],by simp [g2],fun c k hk=>?_,fun o' ho'=>?_,fun p b hp=>?_,fun p q b hp hq=>?_,fun v hv=>?_⟩
       · cases c with
         | zero =>
          simp only [List.getElem?_cons_zero,Option.some.injEq] at hk
          subst hk
          show NCell ti w (.sl t') (x.den ν) _
          refine ⟨e,kf,ds,hti,hkf,hden,⟨a,cap,rfl⟩,fun hne=>⟨us,hown,fun j hj=>?_⟩⟩
          have:=hrc j 0 kf hj rfl
          simp only [List.length_singleton,Nat.mul_one,Nat.add_zero] at this
          exact this.flat fun t ht=>by subst ht; cases hkf
         | succ c=>exact g3 c k (by simpa using hk)
       · rcases List.mem_cons.1 ho' with rfl | ho'
         · exact hrow
         · exact g4 o' ho'
       · cases p with
         | zero=>exact ⟨o,by simp,hblk b hp⟩
         | succ p =>
          obtain ⟨o',ho',hb⟩:=g5 p b hp
          exact ⟨o',by simp [ho'],hb⟩
       · have cross:∀ q,nblk (.slice a ds.length cap) b→nblk (vs.getD q undef) b→False:=by
          intro q h1 h2
          obtain ⟨o',ho',hb⟩:=g5 q b h2
          obtain ⟨t2,x2,hob2⟩:=g4 o' ho'
          have:=hsep o o' _ _ b hob hob2 rfl rfl (hblk b h1) hb
          subst this
          simp [ho'] at hno
         cases p with
         | zero=>cases q with
          | zero=>rfl
          | succ q=>exact (cross q hp hq).elim
         | succ p=>cases q with
          | zero=>exact (cross p hq hp).elim
          | succ q=>rw [g6 p q b hp hq]
       · rcases List.mem_cons.1 hv with rfl | hv
         · rfl
         · exact g7 v hv
     · cases h
   · cases h
 | .e k x::r,k'::kr,xs,os,vs,h,hv=>by
  cases hv with
  | cons hv0 hv =>
   rename_i v vs
   have h' : (match deepParts ti objs r kr with
    | some (xs,os)=>if k=k'∧k.flat=true then some (x::xs,os) else none
    | none=>none)=some (xs,os):=by cases k' <;> exact h
   split at h'
   · rename_i xs' os' hrec
     split at h'
     · rename_i hcnd
       obtain ⟨rfl,hkf⟩:=hcnd
       simp only [Option.some.injEq,Prod.mk.injEq] at h'
       obtain ⟨rfl,rfl⟩:=h'
       obtain ⟨g1,g2,g3,g4,g5,g6,g7⟩:=deepParts_sound hO hsep hrec hv
       have hv0:Rd ti w S k (x.den ν) v:=hv0
       refine ⟨by simp [g1],by simp [g2],fun c k2 hk=>?_,g4,fun p b hp=>?_,fun p q b hp hq=>?_,fun v' hv'=>?_⟩
       · cases c with
         | zero =>
          simp only [List.getElem?_cons_zero,Option.some.injEq] at hk
          subst hk
          exact NCell.ofFlat hv0 hkf
         | succ c=>exact g3 c k2 (by simpa using hk)
       · cases p with
         | zero=>exact (nblk_flat hv0 hkf b hp).elim
         | succ p=>exact g5 p b hp
       · cases p with
         | zero=>exact (nblk_flat hv0 hkf b hp).elim
         | succ p=>cases q with
          | zero=>exact (nblk_flat hv0 hkf b hq).elim
          | succ q=>rw [g6 p q b hp hq]
       · rcases List.mem_cons.1 hv' with rfl | hv'
         · exact hv0.one
         · exact g7 v' hv'
     · cases h'
   · cases h'
theorem kill_all (h:Sim C σ ν S ω a.tmps w):∀ (l:List Nat) (objs:List SObj),Sim C { σ with objs:=objs } ν S ω a.tmps w→Sim C { σ with objs:=upds objs (l.map fun o=>(o,.dead)) } ν S ω a.tmps w
 | [],objs,h2=>h2
 | o::l,objs,h2=>kill_all h l (objs.set o .dead) (h2.kill o)
theorem dead_get:∀ (l:List Nat) (objs:List SObj) (q:Nat) (z:SObj),(upds objs (l.map fun o=>(o,.dead)))[q]?=some z→z.live=true→objs[q]?=some z∧q ∉ l
 | [],objs,q,z,h,_=>⟨h,by simp⟩
 | o::l,objs,q,z,h,hl=>by
  obtain ⟨h1,h2⟩:=dead_get l _ q z h hl
  by_cases e:o=q
  · subst e
    by_cases hlt:o < objs.length
    · rw [List.getElem?_set_self hlt] at h1
      cases h1
      cases hl
    · rw [List.getElem?_eq_none (by simp; omega)] at h1
      cases h1
  · rw [List.getElem?_set_ne e] at h1
    exact ⟨h1,fun hm=>by
     rcases List.mem_cons.1 hm with rfl | hm
     · exact e rfl
     · exact h2 hm⟩
theorem dead_length:∀ (l:List Nat) (objs:List SObj),(upds objs (l.map fun o=>(o,.dead))).length=objs.length
 | [],_=>rfl
 | o::l,objs=>by
  show (upds (objs.set o .dead) _).length=_
  rw [dead_length l]
  simp
theorem stepBuildDeep_sound (hT:TyOK C.P C.ti) (h:Sim C σ ν S ω a.tmps w) (hnb:NbOK σ ω 1) {t:TypeId} {parts:Array (Nat × Operand)} {x:Operand} (ho:o.op=.buildSlice t 1 parts) (hp:parts.toList=[(0,x)]) {v:SV} (hx:SVR C.ti w S ω ν v (a.eval x))
 (hr:(stepBuildDeep C.ti t v σ K').Run C.R ν r):o.wp C.P a w (Post C σ ω o.dst K' r a.defers) Q:=by
 unfold stepBuildDeep at hr
 split at hr
 · rename_i e lv cs hti
   obtain ⟨hu,he,j,z,hj,hjs,hlv,hby,hz,hzz,hone⟩:=sl_row hT hti
   split at hr
   · rename_i hsm
     split at hr
     · rename_i xs os hdp
       obtain ⟨vl,hvl,hcs⟩:=hx
       obtain ⟨g1,g2,g3,g4,g5,g6,g7⟩:=deepParts_sound h.objs h.sep hdp hcs
       have hp2:parts=#[(0,x)]:=Array.toList_inj.1 (by simpa using hp)
       obtain ⟨us,f1,f2,f3⟩:=Great.fill_dense hlv [a.eval x] 0 ((Array.range (1 * lv.length)).map (z.cells[· % z.cells.size]!)) (fun v' hv'=>by
        simp only [List.mem_singleton] at hv'
        rw [hv',hvl]
        simp [Value.cells,g1]) (by simp)
       have hrun:=run_buildSlice (P:=C.P) w t e 1 (parts.map fun x=>(x.1,a.eval x.2)) us j z hu hj hz (by rw [hjs]; omega) (by rw [hjs]; omega) (by
        rw [hjs,hp2]
        have:((#[(0,x)]:Array (Nat × Operand)).map fun x=>(x.1,a.eval x.2)).toList=[(0,a.eval x)]:=by simp
        rw [this]
        exact f1)
       have hus:us.toList=vl:=by
        apply List.ext_getElem?
        intro q
        rw [Array.getElem?_toList,f3]
        by_cases hq:q < lv.length
        · rw [if_pos ⟨by omega,by simpa using hq⟩]
          have e1:(q - 0) / lv.length=0:=Nat.div_eq_of_lt (by omega)
          have e2:(q - 0) % lv.length=q:=Nat.mod_eq_of_lt (by omega)
          simp [hvl,Value.cells,Nat.div_eq_of_lt hq,Nat.mod_eq_of_lt hq]
        · rw [if_neg (by simp; omega),List.getElem?_eq_none (by omega)]
          simp
          omega
       have husz:us.size=lv.length:=by rw [←Array.length_toList (xs:=us),hus,g1]
       generalize hU:Value.agg (.slice (some ⟨w.heap.size,0,none⟩) 1 1::vl).toArray=U
       have hUh:hdV U=.slice (some ⟨w.heap.size,0,none⟩) 1 1:=by rw [←hU]; simp [hdV]
       have hUt:tlV U=vl:=by rw [←hU]; simp [tlV]
       have hnin:∀ p b,nblk (vl.getD p undef) b→b < w.heap.size∧¬ S b∧(C.w0.heap.size≤b ∨ C.F b)∧∃ o,o∈os∧OwnB (ω o) b:=by
        intro p b hpb
        obtain ⟨o',ho',hb⟩:=g5 p b hpb
        obtain ⟨t',x',hob⟩:=g4 o' ho'
        obtain ⟨k1,k2,k3⟩:=h.own o' _ b hob rfl hb
        exact ⟨k2,k1,k3,o',ho',hb⟩
       obtain ⟨hn1,hn2,_⟩:=hnb.one h
       have hf:=Fr_alloc w (.cells us e)
       have s1:=(kill_all h os σ.objs h).grow hf
       have hobj:ObjR C.ti (w.alloc (.cells us e)) S (upd1 ω σ.nb U) ν σ.nb (.deep t (.o1 .one (aggE xs))):=by
        refine ⟨U,e,lv,[(aggE xs).den ν],upd1_self _ _ _,hti,rfl,?_,fun jj c k hjj hk=>?_,fun p q b hp hq=>?_,fun p b hp=>?_⟩
        · rw [hUh,hUt]
          refine ⟨by rw [g1]; simp,.inr ⟨w.heap.size,1,us,rfl,Nat.zero_le _,heap_alloc_new w _,Nat.le_refl _,by simp [maxLen],by rw [husz]; omega,?_⟩⟩
          rw [hus,←g1]
          simp
        · have hj0:jj=0:=by simp at hjj; omega
          subst hj0
          rw [hUt]
          have:=(g3 c k hk).mono (w':=w.alloc (.cells us e)) fun b hb=>hf.block b (hnin c b hb).1 fun h=>h
          have e1:cellD true c (([(aggE xs).den ν]:List D).getD 0 default)=(xs.map (E.den ν)).getD c default:=aggE_cell ν xs c
          rw [e1]
          simpa using this
        · rw [hUt] at hp hq
          exact g6 p q b hp hq
        · rw [hUt] at hp
          rw [hUh]
          intro he
          have:=(hnin p b hp).1
          simp only [blk,Option.some.injEq] at he
          omega
       have s2:=s1.new (n:=σ.nb) hn1 (by show σ.nb≤(upds σ.objs (os.map fun o=>(o,.dead))).length; rw [dead_length]; exact hn2) (ob:=.deep t (.o1 .one (aggE xs))) (v:=U) (fun b _ hbb=>by
        rcases (Blk_iff _ _).1 hbb with h3 | ⟨v',hv',h3⟩
        · rw [hUh] at h3
          simp only [blk,Option.some.injEq] at h3
          subst h3
          refine ⟨fun hS=>Nat.lt_irrefl _ (h.stab _ hS),by simp,.inl h.frame.size,fun q z hq hl he=>?_⟩
          exact Nat.lt_irrefl _ (h.own q z _ (dead_get _ _ _ _ hq hl).1 hl he).2.1
        · rw [hUt] at hv'
          obtain ⟨p,hp⟩:=List.mem_iff_getElem?.1 hv'
          have hpd:vl.getD p undef=v':=by rw [List.getD_eq_getElem?_getD,hp]; rfl
          obtain ⟨k1,k2,k3,o',ho',hb⟩:=hnin p b (by rw [hpd]; exact h3)
          refine ⟨k2,Nat.lt_of_lt_of_le k1 hf.size,k3,fun q z hq hl he=>?_⟩
          obtain ⟨m1,m2⟩:=dead_get _ _ _ _ hq hl
          obtain ⟨t',x',hob⟩:=g4 o' ho'
          have:=h.sep q o' z _ b m1 hob hl rfl he hb
          subst this
          exact m2 ho') hobj
       refine post_val (S':=S) (ω':=upd1 ω σ.nb U) (buildSlice_exec ho hrun) hr ?_ (NewAt.upd _ _ _) ⟨U,upd1_self _ _ _,hUh,_,_,_,rfl⟩
       have s3:Sim C { σ with objs:=place (upds σ.objs (os.map fun o=>(o,.dead))) σ.nb [.deep t (.o1 .one (aggE xs))] } ν S (upd1 ω σ.nb U) a.tmps (w.alloc (.cells us e)):=s2
       exact Sim.app_of s3 (by simp [St.objsOf,freeze_nil]) rfl
     · exact hr.elim
   · exact hr.elim
 · exact hr.elim
/-! ### max, min -/
theorem intsOf_sound (h:Sim C σ ν S ω a.tmps w):∀ {l:List Operand} {es:List E},intsOf σ l=some es→∃ ns:List Int,l.map a.eval=ns.map (Value.int .i64)∧es.map (E.den ν)=ns.map D.int
 | [],es,hl=>by
  simp only [intsOf,Option.some.injEq] at hl
  subst hl
  exact ⟨[],rfl,rfl⟩
 | x::l,es,hl=>by
  simp only [intsOf] at hl
  split at hl
  · rename_i y ys h1 h2
    simp only [Option.some.injEq] at hl
    subst hl
    obtain ⟨ns,g1,g2⟩:=intsOf_sound h h2
    obtain ⟨e1,e2⟩:=Rd.int_inv (lookE_sound h h1)
    refine ⟨(y.den ν).toInt::ns,?_,?_⟩
    · simp only [List.map_cons,g1,e2]
    · simp only [List.map_cons,g2]
      rw [←e1]
  · cases hl
theorem run_fold2 {P:Program} {f:Value→Value→Sem Value} {g:Int→Int→Int} (hf:∀ (x y:Int) (w:World),(f (.int .i64 x) (.int .i64 y)).run P w=.ok (.int .i64 (g x y)) w):∀ (ns:List Int) (n:Int) (w:World),
 ((ns.map (Value.int .i64)).foldlM f (.int .i64 n)).run P w=.ok (.int .i64 (ns.foldl g n)) w
 | [],n,w=>by simp
 | m::ns,n,w=>by
  simp only [List.map_cons,List.foldlM_cons,List.foldl_cons,Sem.run_bind,hf,Result.andThen_ok]
  exact run_fold2 hf ns _ w
theorem den_fold (o2:O2) (g:Int→Int→Int) (hg:∀ (a b:D),o2.den a b=.int (g a.toInt b.toInt)):∀ (es:List E) (ns:List Int) (x:E) (n:Int),x.den ν=.int n→es.map (E.den ν)=ns.map D.int→(es.foldl (.o2 o2) x).den ν=.int (ns.foldl g n)
 | [],[],x,n,h1,_=>h1
 | [],_::_,x,n,_,h2=>by simp at h2
 | _::_,[],x,n,_,h2=>by simp at h2
 | e::es,m::ns,x,n,h1,h2=>by
  simp only [List.map_cons,List.cons.injEq] at h2
  refine den_fold o2 g hg es ns _ _ ?_ h2.2
  show o2.den (x.den ν) (e.den ν)=_
  rw [hg,h1,h2.1]
  rfl
theorem call_builtin {c:Call} {b:Builtin} (ho:o.op=.call c) (hc:c.callee=.builtin b) {f:Array TypeId→TypeId→Array Value→Sem Value} (hb:∀ ats ty cs args,builtin b ats ty cs args=(do pure (.value (←f ats ty args)))) {v:Value} {w' : World}
 (hrun:(f c.argTypes o.type (c.args.map a.eval)).run C.P w=.ok v w'):(execOp a.eval o).run C.P w=.ok (.value v) w':=by
 unfold execOp
 simp [ho,resolve,hc,invoke,hb,hrun]
theorem stepMinMax_sound (h:Sim C σ ν S ω a.tmps w) {c:Call} {b:Builtin} {o2:O2} (ho:o.op=.call c) (hc:c.callee=.builtin b) (hb:(b=.max∧o2=.imax) ∨ (b=.min∧o2=.imin)) (hr:(stepMinMax o2 c.args.toList σ K').Run C.R ν r):o.wp C.P a w (Post C σ ω o.dst K' r a.defers) Q:=by
 unfold stepMinMax at hr
 split at hr
 · rename_i x rs hl
   obtain ⟨ns,g1,g2⟩:=intsOf_sound h hl
   cases ns with
   | nil=>simp at g2
   | cons n ns =>
    simp only [List.map_cons,List.cons.injEq] at g2
    have hargs:c.args.map a.eval=(Value.int .i64 n::ns.map (Value.int .i64)).toArray:=by
     apply Array.toList_inj.1
     simpa using g1
    rcases hb with ⟨rfl,rfl⟩ | ⟨rfl,rfl⟩
    · refine post_one h (v:=.int .i64 (ns.foldl max n)) (call_builtin (f:=Builtin.max_) ho hc (fun _ _ _ _=>rfl) ?_) hr ?_
      · rw [hargs]
        simp only [Builtin.max_]
        refine run_fold2 (g:=max) (fun x y w=>?_) ns n w
        simp only [Builtin.max2]
        have:(if y > x then y else x)=max x y:=by
         rw [Int.max_def]
         split <;> split <;> omega
        rw [this]
        rfl
      · show Rd _ _ _ _ ((rs.foldl (.o2 .imax) x).den ν) _
        rw [den_fold (ν:=ν) .imax max (fun _ _=>rfl) rs ns x n g2.1 g2.2]
        exact .int _ _
    · refine post_one h (v:=.int .i64 (ns.foldl min n)) (call_builtin (f:=Builtin.min_) ho hc (fun _ _ _ _=>rfl) ?_) hr ?_
      · rw [hargs]
        simp only [Builtin.min_]
        refine run_fold2 (g:=min) (fun x y w=>?_) ns n w
        simp only [Builtin.min2]
        have:(if y < x then y else x)=min x y:=by
         rw [Int.min_def]
         split <;> split <;> omega
        rw [this]
        rfl
      · show Rd _ _ _ _ ((rs.foldl (.o2 .imin) x).den ν) _
        rw [den_fold (ν:=ν) .imin min (fun _ _=>rfl) rs ns x n g2.1 g2.2]
        exact .int _ _
 · exact hr.elim
end
end Go.SX
