/-
Chapter 57, plain: values set in a state, and what the specification takes out and sets.
-/
import Derived.Test.YtjhggmcdjbcolaaGreatSzPA
set_option linter.unusedVariables false
set_option linter.unusedSimpArgs false
set_option linter.unusedSectionVars false
namespace Go.SX.T57
open Go.SX
def canSet (v:Pv) (n:Pn):Bool:=eqI n.id v.id&&(leI 0 v.attr&&(ltI v.attr n.vals.length&&(eqI (n.vals.getD v.attr.toNat default) v.old&&!eqI v.old v.new)))
def upd1 (v:Pv) (n:Pn):Pn:=⟨n.id,n.ty,n.vals.set v.attr.toNat v.new⟩
def upd (v:Pv) (n:Pn):Pn:=bif canSet v n then upd1 v n else n
def setV (a:List Pn) (v:Pv):Option (List Pn):=bif a.any (canSet v) then some (a.map (upd v)) else none
def setVs:List Pn→List Pv→Option (List Pn)
 | a,[]=>some a
 | a,v::r=>(setV a v).bind fun a=>setVs a r
theorem upd_id (v:Pv) (n:Pn):(upd v n).id=n.id:=by unfold upd; cases canSet v n <;> rfl
theorem upd_ty (v:Pv) (n:Pn):(upd v n).ty=n.ty:=by unfold upd; cases canSet v n <;> rfl
theorem upd_len (v:Pv) (n:Pn):(upd v n).vals.length=n.vals.length:=by unfold upd; cases canSet v n <;> simp [upd1]
theorem setV_some {a a' : List Pn} {v:Pv} (h:setV a v=some a'):a.any (canSet v)=true∧a'=a.map (upd v):=by
 unfold setV at h
 cases hc:a.any (canSet v) <;> rw [hc] at h
 · cases h
 · cases h
   exact ⟨rfl,rfl⟩
theorem St'.setV {a a' : List Pn} {b:List Pe} {v:Pv} (h:St' a b) (hs:setV a v=some a'):St' a' b:=by
 obtain ⟨_,rfl⟩:=setV_some hs
 refine ⟨by simpa using h.an,h.bn,?_,h.bo,?_⟩
 · rw [List.pairwise_map]
   simp only [upd_id]
   exact h.ao
 · intro x hx
   obtain ⟨y,hy,rfl⟩:=List.mem_map.1 hx
   rw [upd_len]
   exact h.av y hy
theorem getD_get {α:Type} [Inhabited α] {l:List α} {i:Nat} (h:i < l.length):l.getD i default=l[i]:=by
 rw [List.getD_eq_getElem?_getD,List.getElem?_eq_getElem h]; rfl
theorem set_look {a:List Pn} (hu:UniN a) (v:Pv):(nodeAt a v.id = -1∧setV a v=none) ∨ ∃ i:Nat,i < a.length∧nodeAt a v.id=i∧(a.getD i default).id=v.id ∧
 ((canSet v (a.getD i default)=true∧setV a v=some (a.set i (upd1 v (a.getD i default)))) ∨ (canSet v (a.getD i default)=false∧setV a v=none)):=by
 unfold nodeAt
 rcases findK_some (p:=fun j=>eqI (a.getD j default).id v.id) a.length 0 with ⟨h1,h2⟩ | ⟨i,h1,h2,h3,h4,h5⟩
 · refine .inl ⟨h1,?_⟩
   have:a.any (canSet v)=false:=by
    rw [List.any_eq_false]
    intro n hn
    obtain ⟨q,hq,rfl⟩:=List.getElem_of_mem hn
    have:=h2 q (by omega) (by omega)
    rw [getD_get hq] at this
    unfold canSet
    rw [this]
    exact fun h=>by cases h
   unfold setV
   rw [this]
   rfl
 · rw [eqI_iff] at h3
   have hi:i < a.length:=by omega
   refine .inr ⟨i,hi,h4,h3,?_⟩
   have hoth:∀ q (hq:q < a.length),q≠i→canSet v a[q]=false:=by
    intro q hq hne
    have:eqI a[q].id v.id=false:=by
     rw [eqI_false]
     intro he
     exact hne (hu q i hq hi (by rw [getD_get hq,he,h3]))
    unfold canSet
    rw [this]
    rfl
   cases hc:canSet v (a.getD i default)
   · refine .inr ⟨rfl,?_⟩
     have:a.any (canSet v)=false:=by
      rw [List.any_eq_false]
      intro n hn
      obtain ⟨q,hq,rfl⟩:=List.getElem_of_mem hn
      by_cases hqi:q=i
      · subst hqi
        rw [←getD_get hq,hc]
        exact fun h=>by cases h
      · rw [hoth q hq hqi]
        exact fun h=>by cases h
     unfold setV
     rw [this]
     rfl
   · refine .inl ⟨rfl,?_⟩
     have:a.any (canSet v)=true:=by
      rw [List.any_eq_true]
      exact ⟨a.getD i default,getD_mem hi,hc⟩
     unfold setV
     rw [this]
     show some _=some _
     congr 1
     refine List.ext_getElem (by simp) fun q g1 g2=>?_
     have hq:q < a.length:=by simpa using g1
     rw [List.getElem_map,List.getElem_set]
     by_cases hqi:i=q
     · subst hqi
       rw [if_pos rfl]
       unfold upd
       rw [←getD_get hq,hc]
       rfl
     · rw [if_neg hqi]
       unfold upd
       rw [hoth q hq (by omega)]
       rfl
theorem map_set' {α:Type} (f:α→D) (l:List α) (i:Nat) (x:α):(l.map f).set i (f x)=(l.set i x).map f:=by rw [List.map_set]
theorem e9501 (rn re an ae n0 n1 x:D) (vl:List Pv) (hv:vl.length≤1000000):∀ i,i≤vl.length→∀ (a:List Pn) (b:List Pe),St' a b→Gives (ev 9501 [rn,re,an,ae,pvsD vl,n0,n1,x,.int vl.length,.int i,pnsD a,pesD b]) ((setVs a (vl.drop i)).map fun a=>(a,b)):=by
 refine down ?_ fun i hi ih=>?_
 · intro a b hs
   rw [List.drop_eq_nil_of_le (Nat.le_refl _)]
   show _=_
   refine ev_by u9501 ?_
   simp only [t9501,go_sem,ltI_irr]
 · intro a b hs
   have han:=hs.an
   rw [drop_step hi]
   have h84:=e8400 a (by omega) (vl.getD i default).id
   rcases set_look (pw_uni hs.ao) (vl.getD i default) with ⟨h1,h2⟩ | ⟨j,h1,h2,h3,h4⟩
   · rw [h1] at h84
     simp only [setVs,h2,Option.bind_none,Option.map_none]
     refine ⟨pnsD a,pesD b,?_⟩
     refine ev_by u9501 ?_
     simp only [t9501,go_sem,lm,idx_map _ _ _ hi,in_range hi,h84]
     rw [cond_lt (by omega),cond_lt (by omega)]
   · rw [h2] at h84
     rcases h4 with ⟨g1,g2⟩ | ⟨g1,g2⟩
     · have ih2:=ih _ b (hs.setV g2)
       simp only [setVs,g2,Option.bind_some]
       simp only [canSet,Bool.and_eq_true,eqI_iff,leI_iff,ltI_iff,Bool.not_eq_true',eqI_false] at g1
       obtain ⟨c1,c2,c3,c4,c5⟩:=g1
       have hat:(vl.getD i default).attr.toNat < (a.getD j default).vals.length:=by omega
       have hr:(leI 0 (vl.getD i default).attr&&ltI (vl.getD i default).attr (a.getD j default).vals.length)=true:=by rw [le_t c2,lt_t c3]; rfl
       have e1:(a.map Pn.d).set j (.agg [.int (a.getD j default).id,.int (a.getD j default).ty,.list (((a.getD j default).vals.map D.int).set (vl.getD i default).attr.toNat (.int (vl.getD i default).new))])=(a.set j (upd1 (vl.getD i default) (a.getD j default))).map Pn.d:=by
        rw [map_set' D.int,←map_set' Pn.d]
        rfl
       have key:ev 9501 [rn,re,an,ae,pvsD vl,n0,n1,x,.int vl.length,.int i,pnsD a,pesD b]=ev 9501 [rn,re,an,ae,pvsD vl,n0,n1,x,.int vl.length,.int (i+1:Nat),pnsD (a.set j (upd1 (vl.getD i default) (a.getD j default))),pesD b]:=by
        rw [ev_eq u9501 rfl]
        simp only [t9501,go_sem,lm,idx_map _ _ _ hi,idx_map _ _ _ h1,in_range hi,in_range h1,h84,wrapS i (by omega),hr,idx_map _ _ _ hat,e1]
        rw [cond_lt (by omega),cond_nlt (by omega),cond_nlt (by omega),cond_nle (by omega),cond_eq c4,cond_ne (by omega)]
       rw [key]
       exact ih2
     · simp only [setVs,g2,Option.bind_none,Option.map_none]
       refine ⟨pnsD a,pesD b,?_⟩
       by_cases c2:(vl.getD i default).attr < 0
       · refine ev_by u9501 ?_
         simp only [t9501,go_sem,lm,idx_map _ _ _ hi,in_range hi,h84]
         rw [cond_lt (by omega),cond_nlt (by omega),cond_lt c2]
       · by_cases c3:((a.getD j default).vals.length:Int)≤(vl.getD i default).attr
         · refine ev_by u9501 ?_
           simp only [t9501,go_sem,lm,idx_map _ _ _ hi,idx_map _ _ _ h1,in_range h1,in_range hi,h84]
           rw [cond_lt (by omega),cond_nlt (by omega),cond_nlt (Int.not_lt.1 c2),cond_le c3]
         · have hat:(vl.getD i default).attr.toNat < (a.getD j default).vals.length:=by omega
           have hr:(leI 0 (vl.getD i default).attr&&ltI (vl.getD i default).attr (a.getD j default).vals.length)=true:=by rw [le_t (by omega),lt_t (by omega)]; rfl
           have hcs:¬ ((a.getD j default).vals.getD (vl.getD i default).attr.toNat default=(vl.getD i default).old∧(vl.getD i default).new≠(vl.getD i default).old):=by
            intro ⟨k1,k2⟩
            have:canSet (vl.getD i default) (a.getD j default)=true:=by
             simp only [canSet,Bool.and_eq_true,eqI_iff,leI_iff,ltI_iff,Bool.not_eq_true',eqI_false]
             exact ⟨h3,by omega,by omega,k1,fun h=>k2 h.symm⟩
            rw [this] at g1
            cases g1
           refine ev_by u9501 ?_
           simp only [t9501,go_sem,lm,idx_map _ _ _ hi,idx_map _ _ _ h1,in_range hi,in_range h1,h84,hr,idx_map _ _ _ hat]
           rw [cond_lt (by omega),cond_nlt (by omega),cond_nlt (by omega),cond_nle (Int.not_le.1 c3)]
           by_cases k1:(a.getD j default).vals.getD (vl.getD i default).attr.toNat default=(vl.getD i default).old
           · rw [cond_eq k1]
             by_cases k2:(vl.getD i default).new=(vl.getD i default).old
             · rw [cond_eq k2]
             · exact absurd ⟨k1,k2⟩ hcs
           · rw [cond_ne k1]
theorem e9400 (rn re an ae n0 n1:D) (vl:List Pv) (hv:vl.length≤1000000) {a:List Pn} {b:List Pe} (hs:St' a b):Gives (ev 9400 [pnsD a,pesD b,rn,re,an,ae,pvsD vl,n0,n1]) ((setVs a vl).map fun a=>(a,b)):=by
 have h:=e9501 rn re an ae n0 n1 (.bool false) vl hv 0 (by omega) a b hs
 have key:ev 9500 [pnsD a,pesD b,rn,re,an,ae,pvsD vl,n0,n1]=ev 9501 [rn,re,an,ae,pvsD vl,n0,n1,.bool false,.int vl.length,.int (0:Nat),pnsD a,pesD b]:=by
  rw [ev_eq u9500 rfl]
  simp only [t9500,go_sem,lm]
  rfl
 have key2:ev 9501 [rn,re,an,ae,pvsD vl,n0,n1,.bool false,.int vl.length,.int (0:Nat),pnsD a,pesD b]=ev 9400 [pnsD a,pesD b,rn,re,an,ae,pvsD vl,n0,n1]:=by
  rw [←key]
  symm
  rw [List.drop_zero] at h
  rw [←key] at h
  cases hh:(setVs a vl).map fun a=>(a,b) with
  | none =>
   rw [hh] at h
   obtain ⟨y,z,h⟩:=h
   rw [h]
   refine ev_by u9400 ?_
   simp only [t9400,go_sem,h]
  | some p =>
   rw [hh] at h
   have h:ev 9500 _=some [pnsD p.1,pesD p.2,.bool true]:=h
   rw [h]
   refine ev_by u9400 ?_
   simp only [t9400,go_sem,h]
 rw [List.drop_zero,key2] at h
 exact h
/-! ### The specification's own way -/
theorem e21601 (v:Pv) (a:List Pn) (hl:a.length≤1000000) (hvs:∀ x,x∈a→x.vals.length≤1000000) (y z:D):∀ i,i≤a.length→∀ (f:Bool) (acc:List Pn),acc.length=i →
 ev 21601 [pnsD a,y,.int v.id,.int v.attr,.int v.old,.int v.new,.bool f,.int i,z,pnsD acc]=some [pnsD (acc++(a.drop i).map (upd v)),z,.bool (f || (a.drop i).any (canSet v))]:=by
 refine down ?_ fun i hi ih=>?_
 · intro f acc hacc
   rw [List.drop_eq_nil_of_le (Nat.le_refl _)]
   refine ev_by u21601 ?_
   simp only [t21601,go_sem,lm,ltI_irr,List.map_nil,List.append_nil,List.any_nil,Bool.or_false]
 · intro f acc hacc
   rw [drop_step hi,List.map_cons,List.any_cons]
   have hx:=hvs _ (getD_mem hi)
   have e1:∀ n:Pn,acc.map Pn.d++[.agg [.int n.id,.int n.ty,.list (n.vals.map D.int)]]=(acc++[n]).map Pn.d:=fun n=>by simp
   have e2:∀ n:Pn,acc++n::(a.drop (i+1)).map (upd v)=(acc++[n])++(a.drop (i+1)).map (upd v):=fun n=>by simp
   have hno:canSet v (a.getD i default)=false→ev 21601 [pnsD a,y,.int v.id,.int v.attr,.int v.old,.int v.new,.bool f,.int (i+1:Nat),z,pnsD (acc++[a.getD i default])]=some [pnsD (acc++upd v (a.getD i default)::(a.drop (i+1)).map (upd v)),z,.bool (f || (canSet v (a.getD i default) || (a.drop (i+1)).any (canSet v)))]:=by
    intro hc
    have hu:upd v (a.getD i default)=a.getD i default:=by unfold upd; rw [hc]; rfl
    rw [hc,Bool.false_or,hu,e2]
    exact ih f _ (by simp [hacc])
   have hlk:=le_ok (show acc.length≤1073741824 by omega)
   by_cases c1:(a.getD i default).id=v.id
   · by_cases c2:0≤v.attr
     · by_cases c3:v.attr < (a.getD i default).vals.length
       · have hat:v.attr.toNat < (a.getD i default).vals.length:=by omega
         have hr:(leI 0 v.attr&&ltI v.attr (a.getD i default).vals.length)=true:=by rw [le_t c2,lt_t c3]; rfl
         by_cases c4:(a.getD i default).vals.getD v.attr.toNat default=v.old
         · by_cases c5:v.old=v.new
           · have hc:canSet v (a.getD i default)=false:=by
              unfold canSet
              rw [eq_t c5,Bool.not_true,Bool.and_false,Bool.and_false,Bool.and_false,Bool.and_false]
             refine Eq.trans ?_ (hno hc)
             rw [ev_eq u21601 rfl]
             simp only [t21601,go_sem,lm,idx_map _ _ _ hi,in_range hi,hr,idx_map _ _ _ hat,wrapS i (by omega),hlk,e1]
             rw [cond_lt (by omega),cond_eq c1,cond_le c2,cond_lt c3,cond_eq c4,cond_eq c5]
           · have hc:canSet v (a.getD i default)=true:=by
              unfold canSet
              rw [eq_t c1,le_t c2,lt_t c3,eq_t c4,eq_f c5]
              rfl
             have hu:upd v (a.getD i default)=upd1 v (a.getD i default):=by unfold upd; rw [hc]; rfl
             have h2:=ih true (acc++[upd1 v (a.getD i default)]) (by simp [hacc])
             rw [hc,hu,e2,Bool.true_or,Bool.or_true]
             rw [Bool.true_or] at h2
             have e3:acc.map Pn.d++[.agg [.int (a.getD i default).id,.int (a.getD i default).ty,.list (((a.getD i default).vals.map D.int).set v.attr.toNat (.int v.new))]]=(acc++[upd1 v (a.getD i default)]).map Pn.d:=by
              rw [map_set' D.int,List.map_append]
              rfl
             refine ev_by u21601 ?_
             simp only [t21601,go_sem,lm,idx_map _ _ _ hi,in_range hi,hr,idx_map _ _ _ hat,wrapS i (by omega),hlk,e3,le_ok (show (a.getD i default).vals.length≤1073741824 by omega)]
             rw [cond_lt (by omega),cond_eq c1,cond_le c2,cond_lt c3,cond_eq c4,cond_ne c5]
             exact h2
         · have hc:canSet v (a.getD i default)=false:=by
            unfold canSet
            rw [eq_f c4,Bool.false_and,Bool.and_false,Bool.and_false,Bool.and_false]
           refine Eq.trans ?_ (hno hc)
           rw [ev_eq u21601 rfl]
           simp only [t21601,go_sem,lm,idx_map _ _ _ hi,in_range hi,hr,idx_map _ _ _ hat,wrapS i (by omega),hlk,e1]
           rw [cond_lt (by omega),cond_eq c1,cond_le c2,cond_lt c3,cond_ne c4]
       · have hc:canSet v (a.getD i default)=false:=by
          unfold canSet
          rw [lt_f (by omega),Bool.false_and,Bool.and_false,Bool.and_false]
         refine Eq.trans ?_ (hno hc)
         rw [ev_eq u21601 rfl]
         simp only [t21601,go_sem,lm,idx_map _ _ _ hi,in_range hi,wrapS i (by omega),hlk,e1]
         rw [cond_lt (by omega),cond_eq c1,cond_le c2,cond_nlt (Int.not_lt.1 c3)]
     · have hc:canSet v (a.getD i default)=false:=by
        unfold canSet
        rw [le_f (by omega),Bool.false_and,Bool.and_false]
       refine Eq.trans ?_ (hno hc)
       rw [ev_eq u21601 rfl]
       simp only [t21601,go_sem,lm,idx_map _ _ _ hi,in_range hi,wrapS i (by omega),hlk,e1]
       rw [cond_lt (by omega),cond_eq c1,cond_nle (Int.not_le.1 c2)]
   · have hc:canSet v (a.getD i default)=false:=by
      unfold canSet
      rw [eq_f c1,Bool.false_and]
     refine Eq.trans ?_ (hno hc)
     rw [ev_eq u21601 rfl]
     simp only [t21601,go_sem,lm,idx_map _ _ _ hi,in_range hi,wrapS i (by omega),hlk,e1]
     rw [cond_lt (by omega),cond_ne c1]
theorem e21600 (v:Pv) {a:List Pn} {b:List Pe} (hs:St' a b):ev 21600 [pnsD a,pesD b,.int v.id,.int v.attr,.int v.old,.int v.new]=some [pnsD (a.map (upd v)),pesD b,.bool (a.any (canSet v))]:=by
 have han:=hs.an
 have h:=e21601 v a (by omega) hs.av (pesD b) (pesD b) 0 (by omega) false [] rfl
 refine ev_by u21600 ?_
 simp only [t21600,go_sem]
 exact h
theorem e21105f (x0 x1 x2 x3 x4 x5 x6 x7 x8 x10 x11 x12 x13 x14 x15 x16 x17 x18 x19 x20 x21:D):ev 21105 [x0,x1,x2,x3,x4,x5,x6,x7,x8,.bool false,x10,x11,x12,x13,x14,x15,x16,x17,x18,x19,x20,x21]=some [x13,x14,.bool false]:=by
 refine ev_by u21105 ?_
 simp only [t21105,go_sem]
 rw [cond_same]
theorem e21103f (x0 x1 x2 x3 x4 x5 x6 x7 x8 x10 x11 x12 x13 x14 x15 x16 x17 x18 x19 x20:D):ev 21103 [x0,x1,x2,x3,x4,x5,x6,x7,x8,.bool false,x10,x11,x12,x13,x14,x15,x16,x17,x18,x19,x20]=some [x12,x13,.bool false]:=by
 refine ev_by u21103 ?_
 simp only [t21103,go_sem,e21105f]
 rw [cond_same]
theorem e21101f (x0 x1 x2 x3 x4 x5 x6 x7 x8 x10 x11 x12 x13 x14 x15 x16 x17 x18 x19:D):ev 21101 [x0,x1,x2,x3,x4,x5,x6,x7,x8,.bool false,x10,x11,x12,x13,x14,x15,x16,x17,x18,x19]=some [x11,x12,.bool false]:=by
 refine ev_by u21101 ?_
 simp only [t21101,go_sem,e21103f]
 rw [cond_same]
theorem e21105 (rn re an ae n0 n1 x y a0 b0:D) (vl:List Pv) (hv:vl.length≤1000000) (vx c d e f g h:D):∀ i,i≤vl.length→∀ (a:List Pn) (b:List Pe),St' a b→Gives (ev 21105 [a0,b0,rn,re,an,ae,vx,n0,n1,.bool true,x,y,.int i,pnsD a,pesD b,c,d,e,f,pvsD vl,g,h]) ((setVs a (vl.drop i)).map fun a=>(a,b)):=by
 refine down ?_ fun i hi ih=>?_
 · intro a b hs
   rw [List.drop_eq_nil_of_le (Nat.le_refl _)]
   show _=_
   refine ev_by u21105 ?_
   simp only [t21105,go_sem,lm,ltI_irr]
 · intro a b hs
   rw [drop_step hi]
   have h6:=e21600 (vl.getD i default) hs
   cases hc:a.any (canSet (vl.getD i default))
   · have hn:setV a (vl.getD i default)=none:=by unfold setV; rw [hc]; rfl
     simp only [setVs,hn,Option.bind_none,Option.map_none]
     rw [hc] at h6
     refine ⟨pnsD (a.map (upd (vl.getD i default))),pesD b,?_⟩
     refine ev_by u21105 ?_
     simp only [t21105,go_sem,lm,idx_map _ _ _ hi,in_range hi,h6,wrapS i (by omega),e21105f]
     rw [cond_lt (by omega)]
   · have hn:setV a (vl.getD i default)=some (a.map (upd (vl.getD i default))):=by unfold setV; rw [hc]; rfl
     simp only [setVs,hn,Option.bind_some]
     rw [hc] at h6
     have key:ev 21105 [a0,b0,rn,re,an,ae,vx,n0,n1,.bool true,x,y,.int i,pnsD a,pesD b,c,d,e,f,pvsD vl,g,h]=ev 21105 [a0,b0,rn,re,an,ae,vx,n0,n1,.bool true,x,y,.int (i+1:Nat),pnsD (a.map (upd (vl.getD i default))),pesD b,c,d,e,f,pvsD vl,g,h]:=by
      rw [ev_eq u21105 rfl]
      simp only [t21105,go_sem,lm,idx_map _ _ _ hi,in_range hi,h6,wrapS i (by omega)]
      rw [cond_lt (by omega)]
     rw [key]
     exact ih _ b (hs.setV hn)
theorem e21201 (e:Pe) (b:List Pe) (hl:b.length≤1000000) (a0 b0 a z w:D) (fl:D):∀ i,i≤b.length→(∀ q,q < i→b.getD q default≠e) →
 ev 21201 [a0,b0,.int e.id,.int e.ty,.int e.src,.int e.dst,fl,.int i,a,pesD b,z,w]=some (match cut b e with | some b'=>[a,pesD b',.bool true] | none=>[a,pesD b,.bool false]):=by
 refine down ?_ fun i hi ih=>?_
 · intro hq
   rw [cut_none b e hq]
   refine ev_by u21201 ?_
   simp only [t21201,go_sem,lm,ltI_irr]
 · intro hq
   have hpe:=pe_eq (b.getD i default) e
   by_cases he:b.getD i default=e
   · rw [decide_eq_true he] at hpe
     rw [cut_at b e i hi he hq]
     have hmc:=map_cut Pe.d b i
     refine ev_by u21201 ?_
     simp only [t21201,go_sem,lm,idx_map _ _ _ hi,in_range hi,←hpe,wrapS i (by omega),List.length_take,List.length_drop,hmc,Int.toNat_natCast]
     rw [cond_lt (by omega),cond_le (by omega),cond_le (by omega),cond_le (by omega),cond_le (by omega),cond_le (by omega),cond_le (by omega),cond_le (by omega)]
   · rw [decide_eq_false he] at hpe
     have ih:=ih fun q hq'=>by
      by_cases hqi:q=i
      · rw [hqi]; exact he
      · exact hq q (by omega)
     refine ev_by u21201 ?_
     simp only [t21201,go_sem,lm,idx_map _ _ _ hi,in_range hi,←hpe,wrapS i (by omega),ih]
     rw [cond_lt (by omega)]
theorem e21200 (e:Pe) (b:List Pe) (hl:b.length≤1000000) (a:D):ev 21200 [a,pesD b,.int e.id,.int e.ty,.int e.src,.int e.dst]=some (match cut b e with | some b'=>[a,pesD b',.bool true] | none=>[a,pesD b,.bool false]):=by
 refine ev_by u21200 ?_
 simp only [t21200,go_sem]
 exact e21201 e b hl _ _ _ _ _ _ 0 (by omega) fun q hq=>by omega
theorem e21301 (n:Pn) (a:List Pn) (hl:a.length≤1000000) (hvs:∀ x,x∈a→x.vals.length≤1000000) (a0 b0 i0 t0 v0 b z w:D) (fl:D):∀ i,i≤a.length→(∀ q,q < i→a.getD q default≠n) →
 ev 21301 [a0,b0,i0,t0,v0,fl,.int i,pnsD a,b,.int n.id,.int n.ty,intsD n.vals,z,w]=some (match cut a n with | some a'=>[pnsD a',b,.bool true] | none=>[pnsD a,b,.bool false]):=by
 refine down ?_ fun i hi ih=>?_
 · intro hq
   rw [cut_none a n hq]
   refine ev_by u21301 ?_
   simp only [t21301,go_sem,lm,ltI_irr]
 · intro hq
   have hsame:=e21400 (a.getD i default) n (hvs _ (getD_mem hi))
   by_cases he:a.getD i default=n
   · rw [decide_eq_true he] at hsame
     rw [cut_at a n i hi he hq]
     have hmc:=map_cut Pn.d a i
     refine ev_by u21301 ?_
     simp only [t21301,go_sem,lm,idx_map _ _ _ hi,in_range hi,hsame,wrapS i (by omega),List.length_take,List.length_drop,hmc,Int.toNat_natCast]
     rw [cond_lt (by omega),cond_le (by omega),cond_le (by omega),cond_le (by omega),cond_le (by omega),cond_le (by omega),cond_le (by omega),cond_le (by omega)]
   · rw [decide_eq_false he] at hsame
     have ih:=ih fun q hq'=>by
      by_cases hqi:q=i
      · rw [hqi]; exact he
      · exact hq q (by omega)
     refine ev_by u21301 ?_
     simp only [t21301,go_sem,lm,idx_map _ _ _ hi,in_range hi,hsame,wrapS i (by omega),ih]
     rw [cond_lt (by omega)]
theorem e21300 (n:Pn) (a:List Pn) (hl:a.length≤1000000) (hvs:∀ x,x∈a→x.vals.length≤1000000) (b:D):ev 21300 [pnsD a,b,.int n.id,.int n.ty,intsD n.vals]=some (match cut a n with | some a'=>[pnsD a',b,.bool true] | none=>[pnsD a,b,.bool false]):=by
 refine ev_by u21300 ?_
 simp only [t21300,go_sem]
 exact e21301 n a hl hvs _ _ _ _ _ _ _ _ _ 0 (by omega) fun q hq=>by omega
end Go.SX.T57
namespace Go.SX.T57
open Go.SX
theorem St'.cutsN {b:List Pe}:∀ {r a a' : List Pn},St' a b→cuts a r=some a'→St' a' b
 | [],a,a',h,hc=>by cases hc; exact h
 | n::r,a,a',h,hc=>by
  unfold cuts at hc
  obtain ⟨m,h1,h2⟩:=Option.bind_eq_some_iff.1 hc
  exact St'.cutsN (h.cutN h1) h2
theorem St'.cutsE {a:List Pn}:∀ {r b b' : List Pe},St' a b→cuts b r=some b'→St' a b'
 | [],b,b',h,hc=>by cases hc; exact h
 | n::r,b,b',h,hc=>by
  unfold cuts at hc
  obtain ⟨m,h1,h2⟩:=Option.bind_eq_some_iff.1 hc
  exact St'.cutsE (h.cutE h1) h2
theorem St'.setVs {b:List Pe}:∀ {r:List Pv} {a a' : List Pn},St' a b→setVs a r=some a'→St' a' b
 | [],a,a',h,hc=>by cases hc; exact h
 | n::r,a,a',h,hc=>by
  unfold Go.SX.T57.setVs at hc
  obtain ⟨m,h1,h2⟩:=Option.bind_eq_some_iff.1 hc
  exact St'.setVs (h.setV h1) h2
def lessS (a:List Pn) (b:List Pe) (rn:List Pn) (re:List Pe) (vl:List Pv):Option (List Pn × List Pe):=(cuts a rn).bind fun a=>(cuts b re).bind fun b=>(setVs a vl).map fun a=>(a,b)
theorem St'.lessS {a:List Pn} {b:List Pe} {rn:List Pn} {re:List Pe} {vl:List Pv} {q:List Pn × List Pe} (h:St' a b) (hl:lessS a b rn re vl=some q):St' q.1 q.2:=by
 unfold Go.SX.T57.lessS at hl
 obtain ⟨a1,h1,hl⟩:=Option.bind_eq_some_iff.1 hl
 obtain ⟨b1,h2,hl⟩:=Option.bind_eq_some_iff.1 hl
 obtain ⟨a2,h3,hl⟩:=Option.map_eq_some_iff.1 hl
 subst hl
 exact ((h.cutsN h1).cutsE h2).setVs h3
theorem e21103 (x0 x1 x2 x3 x4 x5 x6 x7 x8 x9 x15 x16 x17 x19 x20:D) (rn:List Pn) (hr:rn.length≤1000000) (vl:List Pv) (hv:vl.length≤1000000):∀ i,i≤rn.length→∀ (a:List Pn) (b:List Pe),St' a b →
 Gives (ev 21103 [x0,x1,x2,x3,x4,x5,x6,x7,x8,.bool true,x9,.int i,pnsD a,pesD b,pnsD rn,x15,x16,x17,pvsD vl,x19,x20]) ((cuts a (rn.drop i)).bind fun a=>(setVs a vl).map fun a=>(a,b)):=by
 refine down ?_ fun i hi ih=>?_
 · intro a b hs
   rw [List.drop_eq_nil_of_le (Nat.le_refl _)]
   have h:=e21105 x2 x3 x4 x5 x7 x8 x9 (.int rn.length) x0 x1 vl hv x6 (pnsD rn) x15 x16 x17 x19 x20 0 (by omega) a b hs
   have key:ev 21103 [x0,x1,x2,x3,x4,x5,x6,x7,x8,.bool true,x9,.int rn.length,pnsD a,pesD b,pnsD rn,x15,x16,x17,pvsD vl,x19,x20]=ev 21105 [x0,x1,x2,x3,x4,x5,x6,x7,x8,.bool true,x9,.int rn.length,.int (0:Nat),pnsD a,pesD b,pnsD rn,x15,x16,x17,pvsD vl,x19,x20]:=by
    rw [ev_eq u21103 rfl]
    simp only [t21103,go_sem,lm,ltI_irr]
    rfl
   rw [key]
   exact h
 · intro a b hs
   have han:=hs.an
   rw [drop_step hi]
   have h6:=e21300 (rn.getD i default) a (by omega) hs.av (pesD b)
   cases hc:cut a (rn.getD i default) with
   | none =>
    simp only [cuts,hc,Option.bind_none]
    rw [hc] at h6
    refine ⟨pnsD a,pesD b,?_⟩
    refine ev_by u21103 ?_
    simp only [t21103,go_sem,lm,idx_map _ _ _ hi,in_range hi,h6,wrapS i (by omega),e21103f]
    rw [cond_lt (by omega)]
   | some a' =>
    simp only [cuts,hc,Option.bind_some]
    rw [hc] at h6
    have key:ev 21103 [x0,x1,x2,x3,x4,x5,x6,x7,x8,.bool true,x9,.int i,pnsD a,pesD b,pnsD rn,x15,x16,x17,pvsD vl,x19,x20]=ev 21103 [x0,x1,x2,x3,x4,x5,x6,x7,x8,.bool true,x9,.int (i+1:Nat),pnsD a',pesD b,pnsD rn,x15,x16,x17,pvsD vl,x19,x20]:=by
     rw [ev_eq u21103 rfl]
     simp only [t21103,go_sem,lm,idx_map _ _ _ hi,in_range hi,h6,wrapS i (by omega)]
     rw [cond_lt (by omega)]
    rw [key]
    exact ih _ b (hs.cutN hc)
theorem e21101 (x0 x1 x2 x3 x4 x5 x6 x7 x8 x15 x16 x19 x20:D) (rn:List Pn) (hr:rn.length≤1000000) (re:List Pe) (he:re.length≤1000000) (vl:List Pv) (hv:vl.length≤1000000):∀ i,i≤re.length→∀ (a:List Pn) (b:List Pe),St' a b →
 Gives (ev 21101 [x0,x1,x2,x3,x4,x5,x6,x7,x8,.bool true,.int i,pnsD a,pesD b,pnsD rn,pesD re,x15,x16,pvsD vl,x19,x20]) ((cuts b (re.drop i)).bind fun b=>(cuts a rn).bind fun a=>(setVs a vl).map fun a=>(a,b)):=by
 refine down ?_ fun i hi ih=>?_
 · intro a b hs
   rw [List.drop_eq_nil_of_le (Nat.le_refl _)]
   have h:=e21103 x0 x1 x2 x3 x4 x5 x6 x7 x8 (.int re.length) (pesD re) x15 x16 x19 x20 rn hr vl hv 0 (by omega) a b hs
   have key:ev 21101 [x0,x1,x2,x3,x4,x5,x6,x7,x8,.bool true,.int re.length,pnsD a,pesD b,pnsD rn,pesD re,x15,x16,pvsD vl,x19,x20]=ev 21103 [x0,x1,x2,x3,x4,x5,x6,x7,x8,.bool true,.int re.length,.int (0:Nat),pnsD a,pesD b,pnsD rn,pesD re,x15,x16,pvsD vl,x19,x20]:=by
    rw [ev_eq u21101 rfl]
    simp only [t21101,go_sem,lm,ltI_irr]
    rfl
   rw [key]
   exact h
 · intro a b hs
   have han:=hs.bn
   rw [drop_step hi]
   have h6:=e21200 (re.getD i default) b (by omega) (pnsD a)
   cases hc:cut b (re.getD i default) with
   | none =>
    simp only [cuts,hc,Option.bind_none]
    rw [hc] at h6
    refine ⟨pnsD a,pesD b,?_⟩
    refine ev_by u21101 ?_
    simp only [t21101,go_sem,lm,idx_map _ _ _ hi,in_range hi,h6,wrapS i (by omega),e21101f]
    rw [cond_lt (by omega)]
   | some b' =>
    simp only [cuts,hc,Option.bind_some]
    rw [hc] at h6
    have key:ev 21101 [x0,x1,x2,x3,x4,x5,x6,x7,x8,.bool true,.int i,pnsD a,pesD b,pnsD rn,pesD re,x15,x16,pvsD vl,x19,x20]=ev 21101 [x0,x1,x2,x3,x4,x5,x6,x7,x8,.bool true,.int (i+1:Nat),pnsD a,pesD b',pnsD rn,pesD re,x15,x16,pvsD vl,x19,x20]:=by
     rw [ev_eq u21101 rfl]
     simp only [t21101,go_sem,lm,idx_map _ _ _ hi,in_range hi,h6,wrapS i (by omega)]
     rw [cond_lt (by omega)]
    rw [key]
    exact ih a _ (hs.cutE hc)
theorem e21100 {a:List Pn} {b:List Pe} (hs:St' a b) {p:Pt} (hp:LenP p):Gives (ev 21100 ([pnsD a,pesD b]++p.ds)) (lessS a b p.rn p.re p.vl):=by
 obtain ⟨h1,h2,h3,h4,h5⟩:=hp
 have h:=e21101 (pnsD a) (pesD b) (pnsD p.rn) (pesD p.re) (pnsD p.an) (pesD p.ae) (pvsD p.vl) (.int p.n0) (.int p.n1) (pnsD p.an) (pesD p.ae) (.int p.n0) (.int p.n1) p.rn h1 p.re h2 p.vl h5 0 (by omega) a b hs
 have key:ev 21100 ([pnsD a,pesD b]++p.ds)=ev 21101 [pnsD a,pesD b,pnsD p.rn,pesD p.re,pnsD p.an,pesD p.ae,pvsD p.vl,.int p.n0,.int p.n1,.bool true,.int (0:Nat),pnsD a,pesD b,pnsD p.rn,pesD p.re,pnsD p.an,pesD p.ae,pvsD p.vl,.int p.n0,.int p.n1]:=by
  show ev 21100 [pnsD a,pesD b,pnsD p.rn,pesD p.re,pnsD p.an,pesD p.ae,pvsD p.vl,.int p.n0,.int p.n1]=_
  rw [ev_eq u21100 rfl]
  simp only [t21100,go_sem]
  rfl
 rw [key]
 have e:lessS a b p.rn p.re p.vl=(cuts b (p.re.drop 0)).bind fun b=>(cuts a p.rn).bind fun a=>(setVs a p.vl).map fun a=>(a,b):=by
  unfold lessS
  rw [List.drop_zero]
  cases cuts a p.rn <;> cases cuts b p.re <;> rfl
 rw [e]
 exact h
/-! ### Merged by their numbers -/
def mrg {α:Type} (f:α→Int):List α→List α→List α
 | [],b=>b
 | x::a,[]=>x::a
 | x::a,y::b=>if f x < f y then x::mrg f a (y::b) else y::mrg f (x::a) b
termination_by a b=>a.length+b.length
theorem mrg_nil {α:Type} (f:α→Int) (a:List α):mrg f a []=a:=by cases a <;> simp [mrg]
theorem mrg_perm {α:Type} (f:α→Int):∀ a b:List α,(mrg f a b).Perm (a++b)
 | [],b=>by simp [mrg]
 | x::a,[]=>by simp [mrg]
 | x::a,y::b=>by
  rw [mrg]
  split
  · exact (mrg_perm f a (y::b)).cons x
  · exact ((mrg_perm f (x::a) b).cons y).trans (List.perm_middle (l₁:=x::a)).symm
termination_by a b=>a.length+b.length
theorem mrg_asc {α:Type} (f:α→Int):∀ a b:List α,a.Pairwise (fun x y=>f x < f y)→b.Pairwise (fun x y=>f x < f y)→(∀ x,x∈a→∀ y,y∈b→f x≠f y)→(mrg f a b).Pairwise fun x y=>f x < f y
 | [],b,_,hb,_=>by simpa [mrg] using hb
 | x::a,[],ha,_,_=>by simpa [mrg] using ha
 | x::a,y::b,ha,hb,hd=>by
  have ha':=List.pairwise_cons.1 ha
  have hb':=List.pairwise_cons.1 hb
  rw [mrg]
  split
  · rename_i hlt
    refine List.pairwise_cons.2 ⟨fun z hz=>?_,mrg_asc f a (y::b) ha'.2 hb fun u hu v hv=>hd u (List.mem_cons_of_mem _ hu) v hv⟩
    have:=(mrg_perm f a (y::b)).mem_iff.1 hz
    rw [List.mem_append,List.mem_cons] at this
    rcases this with h | rfl | h
    · exact ha'.1 z h
    · exact hlt
    · exact Int.lt_trans hlt (hb'.1 z h)
  · rename_i hlt
    have hne:=hd x (by simp) y (by simp)
    have hyx:f y < f x:=by omega
    refine List.pairwise_cons.2 ⟨fun z hz=>?_,mrg_asc f (x::a) b ha hb'.2 fun u hu v hv=>hd u hu v (List.mem_cons_of_mem _ hv)⟩
    have:=(mrg_perm f (x::a) b).mem_iff.1 hz
    rw [List.mem_append,List.mem_cons] at this
    rcases this with (rfl | h) | h
    · exact hyx
    · exact Int.lt_trans hyx (ha'.1 z h)
    · exact hb'.1 z h
termination_by a b=>a.length+b.length
/-! ### Added -/
def takenB (a:List Pn) (b:List Pe) (n:Int):Bool:=leI 0 (nodeAt a n) || leI 0 (edgeAt b n)
def addS (a:List Pn) (b:List Pe) (an:List Pn) (ae:List Pe):Option (List Pn × List Pe) :=
 bif anyK (fun j=>takenB a b (an.getD j default).id) an.length 0 then none else bif anyK (fun j=>takenB a b (ae.getD j default).id) ae.length 0 then none else some (mrg Pn.id a an,mrg Pe.id b ae)
theorem e10000 (a:List Pn) (ha:a.length≤1000000) (b:List Pe) (hb:b.length≤1000000) (n:Int):ev 10000 [pnsD a,pesD b,.int n]=some [pnsD a,pesD b,.bool (takenB a b n)]:=by
 refine ev_by u10000 ?_
 simp only [t10000,go_sem,e8400 a ha n,e9000 b hb n]
 unfold takenB
 cases leI 0 (nodeAt a n) <;> rfl
theorem e9801 (a:List Pn) (ha:a.length≤1000000) (b:List Pe) (hb:b.length≤1000000) (l:List Pn) (hl:l.length≤1000000) (x:D):∀ i,i≤l.length→ev 9801 [pnsD l,x,.int l.length,.int i,pnsD a,pesD b]=some [pnsD a,pesD b,.int (findK (fun j=>takenB a b (l.getD j default).id) (l.length - i) i)]:=by
 have h99:∀ (m:Int) (u v:D),ev 9900 [.int m,u,v,pnsD a,pesD b]=some [pnsD a,pesD b,.bool (takenB a b m)]:=fun m u v=>by
  refine ev_by u9900 ?_
  simp only [t9900,go_sem,e10000 a ha b hb m]
 refine down ?_ fun i hi ih=>?_
 · refine ev_by u9801 ?_
   simp only [t9801,go_sem,findK_end,ltI_irr]
 · refine ev_by u9801 ?_
   simp only [t9801,go_sem,lm,idx_map _ _ _ hi,in_range hi,h99,wrapS i (by omega),ih]
   rw [findK_step _ hi,cond_lt (by omega)]
   cases takenB a b (l.getD i default).id <;> rfl
theorem e9700 (a:List Pn) (ha:a.length≤1000000) (b:List Pe) (hb:b.length≤1000000) (l:List Pn) (hl:l.length≤1000000):ev 9700 [pnsD l,pnsD a,pesD b]=some [pnsD a,pesD b,.bool (anyK (fun j=>takenB a b (l.getD j default).id) l.length 0)]:=by
 have h:ev 9800 [pnsD l,pnsD a,pesD b]=some [pnsD a,pesD b,.int (findK (fun j=>takenB a b (l.getD j default).id) l.length 0)]:=by
  refine ev_by u9800 ?_
  simp only [t9800,go_sem,lm]
  exact e9801 a ha b hb l hl _ 0 (by omega)
 refine ev_by u9700 ?_
 simp only [t9700,go_sem,h,leI_find]
theorem e10201 (a:List Pn) (ha:a.length≤1000000) (b:List Pe) (hb:b.length≤1000000) (l:List Pe) (hl:l.length≤1000000) (x:D):∀ i,i≤l.length→ev 10201 [pesD l,x,.int l.length,.int i,pnsD a,pesD b]=some [pnsD a,pesD b,.int (findK (fun j=>takenB a b (l.getD j default).id) (l.length - i) i)]:=by
 have h99:∀ (m:Int) (u v w:D),ev 10300 [.int m,u,v,w,pnsD a,pesD b]=some [pnsD a,pesD b,.bool (takenB a b m)]:=fun m u v w=>by
  refine ev_by u10300 ?_
  simp only [t10300,go_sem,e10000 a ha b hb m]
 refine down ?_ fun i hi ih=>?_
 · refine ev_by u10201 ?_
   simp only [t10201,go_sem,findK_end,ltI_irr]
 · refine ev_by u10201 ?_
   simp only [t10201,go_sem,lm,idx_map _ _ _ hi,in_range hi,h99,wrapS i (by omega),ih]
   rw [findK_step _ hi,cond_lt (by omega)]
   cases takenB a b (l.getD i default).id <;> rfl
theorem e10100 (a:List Pn) (ha:a.length≤1000000) (b:List Pe) (hb:b.length≤1000000) (l:List Pe) (hl:l.length≤1000000):ev 10100 [pesD l,pnsD a,pesD b]=some [pnsD a,pesD b,.bool (anyK (fun j=>takenB a b (l.getD j default).id) l.length 0)]:=by
 have h:ev 10200 [pesD l,pnsD a,pesD b]=some [pnsD a,pesD b,.int (findK (fun j=>takenB a b (l.getD j default).id) l.length 0)]:=by
  refine ev_by u10200 ?_
  simp only [t10200,go_sem,lm]
  exact e10201 a ha b hb l hl _ 0 (by omega)
 refine ev_by u10100 ?_
 simp only [t10100,go_sem,h,leI_find]
theorem anyK_zero {p:Nat→Bool} {n:Nat} (h:anyK p n 0=false):∀ j,j < n→p j=false:=fun j hj=>anyK_false _ _ h j (Nat.zero_le _) (by omega)
theorem takenN {a:List Pn} {b:List Pe} {n:Int} (h:takenB a b n=false):(∀ x,x∈a→x.id≠n)∧∀ x,x∈b→x.id≠n:=by
 unfold takenB at h
 rw [Bool.or_eq_false_iff] at h
 obtain ⟨h1,h2⟩:=h
 unfold nodeAt at h1
 unfold edgeAt at h2
 rw [leI_find] at h1 h2
 refine ⟨fun x hx he=>?_,fun x hx he=>?_⟩
 · obtain ⟨q,hq,rfl⟩:=List.getElem_of_mem hx
   have:=anyK_zero h1 q hq
   rw [getD_get hq,eqI_false] at this
   exact this he
 · obtain ⟨q,hq,rfl⟩:=List.getElem_of_mem hx
   have:=anyK_zero h2 q hq
   rw [getD_get hq,eqI_false] at this
   exact this he
theorem e10400 {a an:List Pn} (ha:a.length≤100000) (hn:an.length≤100000) (ho:a.Pairwise fun x y=>x.id < y.id) (hno:an.Pairwise fun x y=>x.id < y.id) (hd:∀ x,x∈a→∀ y,y∈an→x.id≠y.id):ev 10400 [.list (a.map Pn.d++an.map Pn.d)]=some [pnsD (mrg Pn.id a an)]:=by
 refine ev_pr (by kernel_rfl) (.inr (.inr (.inl ⟨.inl rfl,_,_,rfl,rfl,by simp; omega,?_,?_⟩)))
 · rw [←List.map_append]
   exact (mrg_perm _ _ _).map _
 · rw [List.pairwise_map]
   exact mrg_asc Pn.id a an ho hno hd
theorem e10500 {a an:List Pe} (ha:a.length≤100000) (hn:an.length≤100000) (ho:a.Pairwise fun x y=>x.id < y.id) (hno:an.Pairwise fun x y=>x.id < y.id) (hd:∀ x,x∈a→∀ y,y∈an→x.id≠y.id):ev 10500 [.list (a.map Pe.d++an.map Pe.d)]=some [pesD (mrg Pe.id a an)]:=by
 refine ev_pr (by kernel_rfl) (.inr (.inr (.inl ⟨.inr rfl,_,_,rfl,rfl,by simp; omega,?_,?_⟩)))
 · rw [←List.map_append]
   exact (mrg_perm _ _ _).map _
 · rw [List.pairwise_map]
   exact mrg_asc Pe.id a an ho hno hd
structure AddOk (an:List Pn) (ae:List Pe):Prop where
 n:an.length≤100000
 e:ae.length≤100000
 no:an.Pairwise fun x y=>x.id < y.id
 eo:ae.Pairwise fun x y=>x.id < y.id
theorem e9600 (rn re vl n0 n1:D) {a an:List Pn} {b ae:List Pe} (hs:St' a b) (hok:AddOk an ae):Gives (ev 9600 [pnsD a,pesD b,rn,re,pnsD an,pesD ae,vl,n0,n1]) (addS a b an ae):=by
 have h1:=hs.an
 have h2:=hs.bn
 have h3:=hok.n
 have h4:=hok.e
 have g1:=e9700 a (by omega) b (by omega) an (by omega)
 have g2:=e10100 a (by omega) b (by omega) ae (by omega)
 unfold addS
 cases c1:anyK (fun j=>takenB a b (an.getD j default).id) an.length 0
 · rw [c1] at g1
   cases c2:anyK (fun j=>takenB a b (ae.getD j default).id) ae.length 0
   · rw [c2] at g2
     have s1:=e10400 h1 h3 hs.ao hok.no fun x hx y hy=>by
      obtain ⟨q,hq,rfl⟩:=List.getElem_of_mem hy
      have:=anyK_zero c1 q hq
      rw [getD_get hq] at this
      exact (takenN this).1 x hx
     have s2:=e10500 h2 h4 hs.bo hok.eo fun x hx y hy=>by
      obtain ⟨q,hq,rfl⟩:=List.getElem_of_mem hy
      have:=anyK_zero c2 q hq
      rw [getD_get hq] at this
      exact (takenN this).2 x hx
     show _=_
     refine ev_by u9600 ?_
     simp only [t9600,go_sem,g1,g2,lm,le_ok (show a.length≤1073741824 by omega),le_ok (show an.length≤1073741824 by omega),le_ok (show b.length≤1073741824 by omega),le_ok (show ae.length≤1073741824 by omega),s1,s2]
   · rw [c2] at g2
     refine ⟨pnsD a,pesD b,?_⟩
     refine ev_by u9600 ?_
     simp only [t9600,go_sem,g1,g2]
 · rw [c1] at g1
   refine ⟨pnsD a,pesD b,?_⟩
   refine ev_by u9600 ?_
   simp only [t9600,go_sem,g1]
end Go.SX.T57
namespace Go.SX.T57
open Go.SX
theorem asc_unique {α:Type} {f:α→Int} {l m:List α} (h1:l.Pairwise fun a b=>f a < f b) (h2:m.Pairwise fun a b=>f a < f b) (hp:l.Perm m):l=m:=by
 refine List.Perm.eq_of_pairwise (le:=fun a b=>f a < f b) ?_ h1 h2 hp
 intro a b _ _ ha hb
 omega
theorem mrg_comm {α:Type} {f:α→Int} {a b:List α} (ha:a.Pairwise fun x y=>f x < f y) (hb:b.Pairwise fun x y=>f x < f y) (hd:∀ x,x∈a→∀ y,y∈b→f x≠f y):mrg f b a=mrg f a b :=
 asc_unique (mrg_asc f b a hb ha fun x hx y hy h=>hd y hy x hx h.symm) (mrg_asc f a b ha hb hd) ((mrg_perm f b a).trans (List.perm_append_comm.trans (mrg_perm f a b).symm))
theorem e21803 (b:List Pe) (hb:b.length≤1000000) (n:Int) (x y z:D):∀ i,i≤b.length→ev 21803 [x,pesD b,.int n,y,z,.int i]=some [.bool (anyK (fun j=>eqI (b.getD j default).id n) (b.length - i) i)]:=by
 refine down ?_ fun i hi ih=>?_
 · refine ev_by u21803 ?_
   simp only [t21803,go_sem,lm,anyK_end,ltI_irr]
 · refine ev_by u21803 ?_
   simp only [t21803,go_sem,lm,idx_map _ _ _ hi,in_range hi,wrapS i (by omega),ih]
   rw [anyK_step _ hi,cond_lt (by omega)]
   cases eqI (b.getD i default).id n <;> rfl
theorem e21801 (a:List Pn) (ha:a.length≤1000000) (b:List Pe) (hb:b.length≤1000000) (n:Int) (y:D):∀ i,i≤a.length→ev 21801 [pnsD a,pesD b,.int n,y,.int i]=some [.bool (anyK (fun j=>eqI (a.getD j default).id n) (a.length - i) i || anyK (fun j=>eqI (b.getD j default).id n) b.length 0)]:=by
 refine down ?_ fun i hi ih=>?_
 · have h:=e21803 b hb n (pnsD a) y (.int a.length) 0 (by omega)
   refine ev_by u21801 ?_
   simp only [t21801,go_sem,lm,anyK_end,ltI_irr,Bool.false_or]
   exact h
 · refine ev_by u21801 ?_
   simp only [t21801,go_sem,lm,idx_map _ _ _ hi,in_range hi,wrapS i (by omega),ih]
   rw [anyK_step _ hi,cond_lt (by omega)]
   cases eqI (a.getD i default).id n <;> rfl
theorem e21800 (a:List Pn) (ha:a.length≤1000000) (b:List Pe) (hb:b.length≤1000000) (n:Int):ev 21800 [pnsD a,pesD b,.int n]=some [.bool (takenB a b n)]:=by
 refine ev_by u21800 ?_
 simp only [t21800,go_sem]
 unfold takenB nodeAt edgeAt
 rw [leI_find,leI_find]
 exact e21801 a ha b hb n _ 0 (by omega)
section
variable {a an:List Pn} {b ae:List Pe} (h1:a.length≤100000) (h2:b.length≤100000) (h3:an.length≤100000) (h4:ae.length≤100000)
include h1 h2 h3 h4
theorem e21711 (x0 x1 x2 x3 x4 x5 x6 x7 x8 x9 x10 x11 x13 x15 x17 x18 x19 x21 x22 x23 x24 x25 x26:D):∀ (k i j:Nat) (acc:List Pe),i≤ae.length→j≤b.length→acc.length=i+j→(ae.length - i)+(b.length - j)=k →
 ev 21711 [x0,x1,x2,x3,x4,x5,x6,x7,x8,x9,x10,x11,.int i,x13,.int j,x15,pesD b,x17,x18,x19,pesD ae,x21,x22,x23,x24,x25,x26,pesD acc]=some [x26,pesD (acc++mrg Pe.id (ae.drop i) (b.drop j)),.bool true]:=by
 have step:∀ (i j:Nat) (acc:List Pe),i≤ae.length→j≤b.length→ev 21709 [x0,x1,x2,x3,x4,x5,x6,x7,x8,x9,x10,x11,.int i,x13,.int j,x15,pesD b,x17,x18,x19,pesD ae,x21,x22,x23,x24,x25,x26,pesD acc]=ev 21711 [x0,x1,x2,x3,x4,x5,x6,x7,x8,x9,x10,x11,.int i,x13,.int j,x15,pesD b,x17,x18,x19,pesD ae,x21,x22,x23,x24,x25,x26,pesD acc]:=by
  intro i j acc hi hj
  rw [ev_eq u21709 rfl]
  simp only [t21709,go_sem,lm]
  rw [cond_le (by omega)]
 intro k
 induction k with
 | zero =>
  intro i j acc hi hj hacc hk
  obtain rfl:i=ae.length:=by omega
  obtain rfl:j=b.length:=by omega
  have hend:ev 21709 [x0,x1,x2,x3,x4,x5,x6,x7,x8,x9,x10,x11,.int ae.length,x13,.int (b.length+1:Nat),x15,pesD b,x17,x18,x19,pesD ae,x21,x22,x23,x24,x25,x26,pesD acc]=some [x26,pesD acc,.bool true]:=by
   refine ev_by u21709 ?_
   simp only [t21709,go_sem,lm]
   rw [cond_nle (by omega)]
  rw [List.drop_eq_nil_of_le (Nat.le_refl _),List.drop_eq_nil_of_le (Nat.le_refl _),mrg_nil,List.append_nil]
  refine ev_by u21711 ?_
  simp only [t21711,go_sem,lm,ltI_irr,wrapS b.length (by omega),hend]
 | succ k ih =>
  intro i j acc hi hj hacc hk
  have e1:∀ n:Pe,acc.map Pe.d++[.agg [.int n.id,.int n.ty,.int n.src,.int n.dst]]=(acc++[n]).map Pe.d:=fun n=>by simp
  have hlk:=le_ok (show acc.length≤1073741824 by omega)
  by_cases hie:i=ae.length
  · subst hie
    have hj2:j < b.length:=by omega
    have h:=ih ae.length (j+1) (acc++[b.getD j default]) (by omega) (by omega) (by simp [hacc]; omega) (by omega)
    rw [←step _ _ _ (by omega) (by omega)] at h
    rw [List.drop_eq_nil_of_le (Nat.le_refl _)] at h ⊢
    rw [drop_step hj2]
    rw [mrg,List.append_assoc,List.singleton_append] at h
    rw [mrg]
    refine ev_by u21711 ?_
    simp only [t21711,go_sem,lm,ltI_irr,in_range hj2,idx_map _ _ _ hj2,hlk,e1,wrapS j (by omega),lt_t (show (j:Int) < b.length by omega)]
    exact h
  · have hi2:i < ae.length:=by omega
    by_cases hje:j=b.length
    · subst hje
      have h:=ih (i+1) b.length (acc++[ae.getD i default]) (by omega) (by omega) (by simp [hacc]; omega) (by omega)
      have hda:b.drop b.length=[]:=List.drop_eq_nil_of_le (Nat.le_refl _)
      rw [hda,mrg_nil,List.append_assoc,List.singleton_append,←drop_step hi2] at h
      rw [hda,mrg_nil]
      refine ev_by u21711 ?_
      simp only [t21711,go_sem,lm,in_range hi2,idx_map _ _ _ hi2,hlk,e1,wrapS i (by omega)]
      rw [cond_lt (by omega),cond_eq rfl]
      exact h
    · have hj2:j < b.length:=by omega
      by_cases hlt:(ae.getD i default).id < (b.getD j default).id
      · have h:=ih (i+1) j (acc++[ae.getD i default]) (by omega) (by omega) (by simp [hacc]; omega) (by omega)
        rw [drop_step hi2,drop_step hj2,mrg,if_pos hlt,←drop_step hj2]
        rw [List.append_assoc,List.singleton_append] at h
        refine ev_by u21711 ?_
        simp only [t21711,go_sem,lm,in_range hi2,idx_map _ _ _ hi2,in_range hj2,idx_map _ _ _ hj2,hlk,e1,wrapS i (by omega)]
        rw [cond_lt (by omega),cond_ne (by omega),cond_lt hlt]
        exact h
      · have h:=ih i (j+1) (acc++[b.getD j default]) (by omega) (by omega) (by simp [hacc]; omega) (by omega)
        rw [←step _ _ _ (by omega) (by omega)] at h
        rw [drop_step hi2,drop_step hj2,mrg,if_neg hlt,←drop_step hi2]
        rw [List.append_assoc,List.singleton_append] at h
        refine ev_by u21711 ?_
        simp only [t21711,go_sem,lm,in_range hi2,idx_map _ _ _ hi2,in_range hj2,idx_map _ _ _ hj2,hlk,e1,wrapS j (by omega),lt_t (show (j:Int) < b.length by omega)]
        rw [cond_lt (by omega),cond_ne (by omega),cond_nlt (Int.not_lt.1 hlt)]
        exact h
theorem e21707 (x0 x1 x2 x3 x4 x5 x6 x7 x8 x9 x10 x11 x16 x17 x20 x21 x22 x23 x24:D):∀ (k i j:Nat) (acc:List Pn),i≤an.length→j≤a.length→acc.length=i+j→(an.length - i)+(a.length - j)=k →
 ev 21707 [x0,x1,x2,x3,x4,x5,x6,x7,x8,x9,x10,x11,.int i,.int j,pnsD a,pesD b,x16,x17,pnsD an,pesD ae,x20,x21,x22,x23,x24,pnsD acc,pesD []]=some [pnsD (acc++mrg Pn.id (an.drop i) (a.drop j)),pesD (mrg Pe.id ae b),.bool true]:=by
 have step:∀ (i j:Nat) (acc:List Pn),i≤an.length→j≤a.length→ev 21705 [x0,x1,x2,x3,x4,x5,x6,x7,x8,x9,x10,x11,.int i,.int j,pnsD a,pesD b,x16,x17,pnsD an,pesD ae,x20,x21,x22,x23,x24,pnsD acc,pesD []]=ev 21707 [x0,x1,x2,x3,x4,x5,x6,x7,x8,x9,x10,x11,.int i,.int j,pnsD a,pesD b,x16,x17,pnsD an,pesD ae,x20,x21,x22,x23,x24,pnsD acc,pesD []]:=by
  intro i j acc hi hj
  rw [ev_eq u21705 rfl]
  simp only [t21705,go_sem,lm]
  rw [cond_le (by omega)]
 intro k
 induction k with
 | zero =>
  intro i j acc hi hj hacc hk
  obtain rfl:i=an.length:=by omega
  obtain rfl:j=a.length:=by omega
  have hend:ev 21705 [x0,x1,x2,x3,x4,x5,x6,x7,x8,x9,x10,x11,.int an.length,.int (a.length+1:Nat),pnsD a,pesD b,x16,x17,pnsD an,pesD ae,x20,x21,x22,x23,x24,pnsD acc,pesD []]=some [pnsD acc,pesD (mrg Pe.id ae b),.bool true]:=by
   have h:=e21711 h1 h2 h3 h4 x0 x1 x2 x3 x4 x5 x6 x7 x8 x9 x10 x11 (.int (a.length+1:Nat)) (pnsD a) x16 x17 (pnsD an) x20 x21 x22 x23 x24 (pnsD acc) _ 0 0 [] (by omega) (by omega) rfl rfl
   have h2:ev 21709 [x0,x1,x2,x3,x4,x5,x6,x7,x8,x9,x10,x11,.int 0,.int (a.length+1:Nat),.int 0,pnsD a,pesD b,x16,x17,pnsD an,pesD ae,x20,x21,x22,x23,x24,pnsD acc,pesD []]=ev 21711 [x0,x1,x2,x3,x4,x5,x6,x7,x8,x9,x10,x11,.int 0,.int (a.length+1:Nat),.int 0,pnsD a,pesD b,x16,x17,pnsD an,pesD ae,x20,x21,x22,x23,x24,pnsD acc,pesD []]:=by
    rw [ev_eq u21709 rfl]
    simp only [t21709,go_sem,lm]
    rw [cond_le (by omega)]
   rw [List.drop_zero,List.drop_zero,List.nil_append] at h
   refine ev_by u21705 ?_
   simp only [t21705,go_sem,lm]
   rw [cond_nle (by omega)]
   exact h2.trans h
  rw [List.drop_eq_nil_of_le (Nat.le_refl _),List.drop_eq_nil_of_le (Nat.le_refl _),mrg_nil,List.append_nil]
  refine ev_by u21707 ?_
  simp only [t21707,go_sem,lm,ltI_irr,wrapS a.length (by omega),hend]
 | succ k ih =>
  intro i j acc hi hj hacc hk
  have e1:∀ n:Pn,acc.map Pn.d++[.agg [.int n.id,.int n.ty,.list (n.vals.map D.int)]]=(acc++[n]).map Pn.d:=fun n=>by simp
  have hlk:=le_ok (show acc.length≤1073741824 by omega)
  by_cases hie:i=an.length
  · subst hie
    have hj2:j < a.length:=by omega
    have h:=ih an.length (j+1) (acc++[a.getD j default]) (by omega) (by omega) (by simp [hacc]; omega) (by omega)
    rw [←step _ _ _ (by omega) (by omega)] at h
    rw [List.drop_eq_nil_of_le (Nat.le_refl _)] at h ⊢
    rw [drop_step hj2]
    rw [mrg,List.append_assoc,List.singleton_append] at h
    rw [mrg]
    refine ev_by u21707 ?_
    simp only [t21707,go_sem,lm,ltI_irr,in_range hj2,idx_map _ _ _ hj2,hlk,e1,wrapS j (by omega),lt_t (show (j:Int) < a.length by omega)]
    exact h
  · have hi2:i < an.length:=by omega
    by_cases hje:j=a.length
    · subst hje
      have h:=ih (i+1) a.length (acc++[an.getD i default]) (by omega) (by omega) (by simp [hacc]; omega) (by omega)
      have hda:a.drop a.length=[]:=List.drop_eq_nil_of_le (Nat.le_refl _)
      rw [hda,mrg_nil,List.append_assoc,List.singleton_append,←drop_step hi2] at h
      rw [hda,mrg_nil]
      refine ev_by u21707 ?_
      simp only [t21707,go_sem,lm,in_range hi2,idx_map _ _ _ hi2,hlk,e1,wrapS i (by omega)]
      rw [cond_lt (by omega),cond_eq rfl]
      exact h
    · have hj2:j < a.length:=by omega
      by_cases hlt:(an.getD i default).id < (a.getD j default).id
      · have h:=ih (i+1) j (acc++[an.getD i default]) (by omega) (by omega) (by simp [hacc]; omega) (by omega)
        rw [drop_step hi2,drop_step hj2,mrg,if_pos hlt,←drop_step hj2]
        rw [List.append_assoc,List.singleton_append] at h
        refine ev_by u21707 ?_
        simp only [t21707,go_sem,lm,in_range hi2,idx_map _ _ _ hi2,in_range hj2,idx_map _ _ _ hj2,hlk,e1,wrapS i (by omega)]
        rw [cond_lt (by omega),cond_ne (by omega),cond_lt hlt]
        exact h
      · have h:=ih i (j+1) (acc++[a.getD j default]) (by omega) (by omega) (by simp [hacc]; omega) (by omega)
        rw [←step _ _ _ (by omega) (by omega)] at h
        rw [drop_step hi2,drop_step hj2,mrg,if_neg hlt,←drop_step hi2]
        rw [List.append_assoc,List.singleton_append] at h
        refine ev_by u21707 ?_
        simp only [t21707,go_sem,lm,in_range hi2,idx_map _ _ _ hi2,in_range hj2,idx_map _ _ _ hj2,hlk,e1,wrapS j (by omega),lt_t (show (j:Int) < a.length by omega)]
        rw [cond_lt (by omega),cond_ne (by omega),cond_nlt (Int.not_lt.1 hlt)]
        exact h
theorem e21703 (x0 x1 x2 x3 x4 x5 x6 x7 x8 x9 x10 x14 x15 x18 x19 x20 x21 x22:D):∀ i,i≤ae.length→Gives (ev 21703 [x0,x1,x2,x3,x4,x5,x6,x7,x8,x9,x10,.int i,pnsD a,pesD b,x14,x15,pnsD an,pesD ae,x18,x19,x20,x21,x22])
 (bif anyK (fun j=>takenB a b (ae.getD j default).id) (ae.length - i) i then none else some (mrg Pn.id an a,mrg Pe.id ae b)):=by
 refine down ?_ fun i hi ih=>?_
 · rw [anyK_end]
   show _=_
   have h:=e21707 h1 h2 h3 h4 x0 x1 x2 x3 x4 x5 x6 x7 x8 x9 x10 (.int ae.length) x14 x15 x18 x19 x20 x21 x22 _ 0 0 [] (by omega) (by omega) rfl rfl
   rw [List.drop_zero,List.drop_zero,List.nil_append] at h
   have h2:ev 21705 [x0,x1,x2,x3,x4,x5,x6,x7,x8,x9,x10,.int ae.length,.int 0,.int 0,pnsD a,pesD b,x14,x15,pnsD an,pesD ae,x18,x19,x20,x21,x22,pnsD [],pesD []]=ev 21707 [x0,x1,x2,x3,x4,x5,x6,x7,x8,x9,x10,.int ae.length,.int 0,.int 0,pnsD a,pesD b,x14,x15,pnsD an,pesD ae,x18,x19,x20,x21,x22,pnsD [],pesD []]:=by
    rw [ev_eq u21705 rfl]
    simp only [t21705,go_sem,lm]
    rw [cond_le (by omega)]
   refine ev_by u21703 ?_
   simp only [t21703,go_sem,lm,ltI_irr]
   exact h2.trans h
 · have h:=e21800 a (by omega) b (by omega) (ae.getD i default).id
   rw [anyK_step _ hi]
   cases hc:takenB a b (ae.getD i default).id
   · rw [Bool.false_or]
     rw [hc] at h
     have key:ev 21703 [x0,x1,x2,x3,x4,x5,x6,x7,x8,x9,x10,.int i,pnsD a,pesD b,x14,x15,pnsD an,pesD ae,x18,x19,x20,x21,x22]=ev 21703 [x0,x1,x2,x3,x4,x5,x6,x7,x8,x9,x10,.int (i+1:Nat),pnsD a,pesD b,x14,x15,pnsD an,pesD ae,x18,x19,x20,x21,x22]:=by
      rw [ev_eq u21703 rfl]
      simp only [t21703,go_sem,lm,idx_map _ _ _ hi,in_range hi,h,wrapS i (by omega)]
      rw [cond_lt (by omega)]
     rw [key]
     exact ih
   · rw [hc] at h
     refine ⟨pnsD a,pesD b,?_⟩
     refine ev_by u21703 ?_
     simp only [t21703,go_sem,lm,idx_map _ _ _ hi,in_range hi,h]
     rw [cond_lt (by omega)]
theorem e21701 (x0 x1 x2 x3 x4 x5 x6 x7 x8 x9 x13 x14 x17 x18 x19 x20 x21:D):∀ i,i≤an.length→Gives (ev 21701 [x0,x1,x2,x3,x4,x5,x6,x7,x8,x9,.int i,pnsD a,pesD b,x13,x14,pnsD an,pesD ae,x17,x18,x19,x20,x21])
 (bif anyK (fun j=>takenB a b (an.getD j default).id) (an.length - i) i then none else bif anyK (fun j=>takenB a b (ae.getD j default).id) ae.length 0 then none else some (mrg Pn.id an a,mrg Pe.id ae b)):=by
 refine down ?_ fun i hi ih=>?_
 · rw [anyK_end]
   have h:=e21703 h1 h2 h3 h4 x0 x1 x2 x3 x4 x5 x6 x7 x8 x9 (.int an.length) x13 x14 x17 x18 x19 x20 x21 0 (by omega)
   have key:ev 21701 [x0,x1,x2,x3,x4,x5,x6,x7,x8,x9,.int an.length,pnsD a,pesD b,x13,x14,pnsD an,pesD ae,x17,x18,x19,x20,x21]=ev 21703 [x0,x1,x2,x3,x4,x5,x6,x7,x8,x9,.int an.length,.int (0:Nat),pnsD a,pesD b,x13,x14,pnsD an,pesD ae,x17,x18,x19,x20,x21]:=by
    rw [ev_eq u21701 rfl]
    simp only [t21701,go_sem,lm,ltI_irr]
    rfl
   rw [key]
   exact h
 · have h:=e21800 a (by omega) b (by omega) (an.getD i default).id
   rw [anyK_step _ hi]
   cases hc:takenB a b (an.getD i default).id
   · rw [Bool.false_or]
     rw [hc] at h
     have key:ev 21701 [x0,x1,x2,x3,x4,x5,x6,x7,x8,x9,.int i,pnsD a,pesD b,x13,x14,pnsD an,pesD ae,x17,x18,x19,x20,x21]=ev 21701 [x0,x1,x2,x3,x4,x5,x6,x7,x8,x9,.int (i+1:Nat),pnsD a,pesD b,x13,x14,pnsD an,pesD ae,x17,x18,x19,x20,x21]:=by
      rw [ev_eq u21701 rfl]
      simp only [t21701,go_sem,lm,idx_map _ _ _ hi,in_range hi,h,wrapS i (by omega)]
      rw [cond_lt (by omega)]
     rw [key]
     exact ih
   · rw [hc] at h
     refine ⟨pnsD a,pesD b,?_⟩
     refine ev_by u21701 ?_
     simp only [t21701,go_sem,lm,idx_map _ _ _ hi,in_range hi,h]
     rw [cond_lt (by omega)]
end
theorem e21700 (rn re vl n0 n1:D) {a an:List Pn} {b ae:List Pe} (hs:St' a b) (hok:AddOk an ae):Gives (ev 21700 [pnsD a,pesD b,rn,re,pnsD an,pesD ae,vl,n0,n1]) (addS a b an ae):=by
 have h:=e21701 hs.an hs.bn hok.n hok.e (pnsD a) (pesD b) rn re (pnsD an) (pesD ae) vl n0 n1 (.bool false) rn re vl n0 n1 (.list []) (.list []) 0 (by omega)
 have key:ev 21700 [pnsD a,pesD b,rn,re,pnsD an,pesD ae,vl,n0,n1]=ev 21701 [pnsD a,pesD b,rn,re,pnsD an,pesD ae,vl,n0,n1,.bool false,.int (0:Nat),pnsD a,pesD b,rn,re,pnsD an,pesD ae,vl,n0,n1,.list [],.list []]:=by
  rw [ev_eq u21700 rfl]
  simp only [t21700,go_sem]
  rfl
 rw [key]
 refine Eq.mp ?_ h
 congr 1
 unfold addS
 rw [Nat.sub_zero]
 cases c1:anyK (fun j=>takenB a b (an.getD j default).id) an.length 0
 · cases c2:anyK (fun j=>takenB a b (ae.getD j default).id) ae.length 0
   · have s1:mrg Pn.id an a=mrg Pn.id a an:=mrg_comm hs.ao hok.no fun x hx y hy=>by
      obtain ⟨q,hq,rfl⟩:=List.getElem_of_mem hy
      have:=anyK_zero c1 q hq
      rw [getD_get hq] at this
      exact (takenN this).1 x hx
     have s2:mrg Pe.id ae b=mrg Pe.id b ae:=mrg_comm hs.bo hok.eo fun x hx y hy=>by
      obtain ⟨q,hq,rfl⟩:=List.getElem_of_mem hy
      have:=anyK_zero c2 q hq
      rw [getD_get hq] at this
      exact (takenN this).2 x hx
     rw [s1,s2]
   · rfl
 · rfl
end Go.SX.T57
namespace Go.SX.T57
open Go.SX
def geOf (ids:List Int) (e:Pe):Ge:=⟨e.ty,posI ids e.src,posI ids e.dst⟩
def trkOf (a:List Pn) (b:List Pe) (next:Int):Trk:=⟨a.map Pn.ty,b.map (geOf (a.map Pn.id)),a.map Pn.vals,a.map Pn.id,b.map Pe.id,next⟩
def lostB (ids:List Int) (e:Pe):Bool:=ltI (posI ids e.src) 0 || ltI (posI ids e.dst) 0
section
variable {a:List Pn} {b:List Pe} (h1:a.length≤1000000) (h2:b.length≤1000000)
include h1 h2
theorem e21903 (x0 x2 x3 x6:D) (n:Int) (gn vs:D):∀ i,i≤b.length→∀ (ge:List Ge) (es:List Int),ge.length=i→es.length=i →
 ev 21903 [x0,pesD b,x2,x3,.int i,.int n,gn,gesD ge,vs,intsD (a.map Pn.id),intsD es]=some [gn,gesD (ge++(b.drop i).map (geOf (a.map Pn.id))),vs,intsD (a.map Pn.id),intsD (es++(b.drop i).map Pe.id),.int n]:=by
 refine down ?_ fun i hi ih=>?_
 · intro ge es hg he
   rw [List.drop_eq_nil_of_le (Nat.le_refl _)]
   refine ev_by u21903 ?_
   simp only [t21903,go_sem,lm,ltI_irr,List.map_nil,List.append_nil]
 · intro ge es hg he
   have hil:(a.map Pn.id).length≤1000000:=by simpa using h1
   have h:=ih (ge++[geOf (a.map Pn.id) (b.getD i default)]) (es++[(b.getD i default).id]) (by simp [hg]) (by simp [he])
   rw [List.append_assoc,List.append_assoc,List.singleton_append,List.singleton_append] at h
   rw [drop_step hi,List.map_cons,List.map_cons]
   have e1:ge.map Ge.d++[.agg [.int (b.getD i default).ty,.int (posI (a.map Pn.id) (b.getD i default).src),.int (posI (a.map Pn.id) (b.getD i default).dst)]]=(ge++[geOf (a.map Pn.id) (b.getD i default)]).map Ge.d:=by simp [geOf]
   have e2:es.map D.int++[.int (b.getD i default).id]=(es++[(b.getD i default).id]).map D.int:=by simp
   refine ev_by u21903 ?_
   simp only [t21903,go_sem,lm,idx_map _ _ _ hi,in_range hi,e20200 _ hil,wrapS i (by omega),le_ok (show ge.length≤1073741824 by omega),le_ok (show es.length≤1073741824 by omega),e1,e2]
   rw [cond_lt (by omega)]
   exact h
theorem e21901 (x2:D) (n:Int) (hv:∀ x,x∈a→x.vals.length≤1000000):∀ i,i≤a.length→∀ (gn ns:List Int) (vs:List (List Int)),gn.length=i→ns.length=i→vs.length=i →
 gn++(a.drop i).map Pn.ty=a.map Pn.ty→vs++(a.drop i).map Pn.vals=a.map Pn.vals→ns++(a.drop i).map Pn.id=a.map Pn.id →
 ev 21901 [pnsD a,pesD b,x2,.int i,.int n,intsD gn,gesD [],valsD vs,intsD ns,intsD []]=some (trkOf a b n).ds:=by
 refine down ?_ fun i hi ih=>?_
 · intro gn ns vs hg hn hv2 q1 q2 q3
   have hz:a.drop a.length=[]:=List.drop_eq_nil_of_le (Nat.le_refl _)
   rw [hz,List.map_nil,List.append_nil] at q1 q2 q3
   have h:=e21903 h1 h2 (pnsD a) x2 (.int a.length) (.list []) n (intsD gn) (valsD vs) 0 (by omega) [] [] rfl rfl
   rw [List.drop_zero,List.nil_append,List.nil_append] at h
   rw [q1,q2] at *
   rw [q3]
   refine ev_by u21901 ?_
   simp only [t21901,go_sem,lm,ltI_irr]
   exact h
 · intro gn ns vs hg hn hv2 q1 q2 q3
   have hx:=hv _ (getD_mem hi)
   rw [drop_step hi,List.map_cons,←List.singleton_append,←List.append_assoc] at q1 q2 q3
   have h:=ih _ _ _ (by simp [hg]) (by simp [hn]) (by simp [hv2]) q1 q2 q3
   have e1:gn.map D.int++[.int (a.getD i default).ty]=(gn++[(a.getD i default).ty]).map D.int:=by simp
   have e2:ns.map D.int++[.int (a.getD i default).id]=(ns++[(a.getD i default).id]).map D.int:=by simp
   have e3:vs.map intsD++[.list ((a.getD i default).vals.map D.int)]=(vs++[(a.getD i default).vals]).map intsD:=by simp
   refine ev_by u21901 ?_
   simp only [t21901,go_sem,lm,idx_map _ _ _ hi,in_range hi,wrapS i (by omega),le_ok (show gn.length≤1073741824 by omega),le_ok (show ns.length≤1073741824 by omega),le_ok (show vs.length≤1073741824 by omega),le_ok (show (a.getD i default).vals.length≤1073741824 by omega),e1,e2,e3]
   rw [cond_lt (by omega)]
   exact h
theorem e21900 (n:Int) (hv:∀ x,x∈a→x.vals.length≤1000000):ev 21900 [pnsD a,pesD b,.int n]=some (trkOf a b n).ds:=by
 refine ev_by u21900 ?_
 simp only [t21900,go_sem]
 exact e21901 h1 h2 _ n hv 0 (by omega) [] [] [] rfl rfl rfl rfl rfl rfl
def trkRes (n:Int) (gn vs:D) (ids:List Int) (ge:List Ge) (es:List Int) (lost:Bool):List D :=
 bif lost then [.list [],.list [],.list [],.list [],.list [],.int 0,.bool false] else [gn,gesD ge,vs,intsD ids,intsD es,.int n,.bool true]
theorem e10603 (x0 x2 x3 x4 x5 x8 y0 y1 y2 y3 y4:D) (n:Int) (gn vs:D):∀ i,i≤b.length→∀ (ge:List Ge) (es:List Int),ge.length=i→es.length=i →
 ev 10603 [x0,pesD b,x2,x3,x4,x5,.int b.length,.int i,x8,.int n,y0,y1,y2,y3,y4,gn,gesD ge,vs,intsD (a.map Pn.id),intsD es] =
  some (trkRes n gn vs (a.map Pn.id) (ge++(b.drop i).map (geOf (a.map Pn.id))) (es++(b.drop i).map Pe.id) ((b.drop i).any (lostB (a.map Pn.id)))):=by
 refine down ?_ fun i hi ih=>?_
 · intro ge es hg he
   rw [List.drop_eq_nil_of_le (Nat.le_refl _)]
   refine ev_by u10603 ?_
   simp only [t10603,go_sem,lm,ltI_irr,List.map_nil,List.append_nil]
   rfl
 · intro ge es hg he
   have hil:(a.map Pn.id).length≤1000000:=by simpa using h1
   have h:=ih (ge++[geOf (a.map Pn.id) (b.getD i default)]) (es++[(b.getD i default).id]) (by simp [hg]) (by simp [he])
   rw [List.append_assoc,List.append_assoc,List.singleton_append,List.singleton_append] at h
   rw [drop_step hi,List.map_cons,List.map_cons,List.any_cons]
   have e1:ge.map Ge.d++[.agg [.int (b.getD i default).ty,.int (posI (a.map Pn.id) (b.getD i default).src),.int (posI (a.map Pn.id) (b.getD i default).dst)]]=(ge++[geOf (a.map Pn.id) (b.getD i default)]).map Ge.d:=by simp [geOf]
   have e2:es.map D.int++[.int (b.getD i default).id]=(es++[(b.getD i default).id]).map D.int:=by simp
   refine ev_by u10603 ?_
   simp only [t10603,go_sem,lm,idx_map _ _ _ hi,in_range hi,e6400i _ hil,wrapS i (by omega),le_ok (show ge.length≤1073741824 by omega),le_ok (show es.length≤1073741824 by omega),e1,e2,h]
   rw [cond_lt (by omega)]
   unfold lostB
   cases ltI (posI (a.map Pn.id) (b.getD i default).src) 0 <;> cases ltI (posI (a.map Pn.id) (b.getD i default).dst) 0 <;> rfl
theorem e10601 (x2:D) (n:Int) (hv:∀ x,x∈a→x.vals.length≤1000000):∀ i,i≤a.length→∀ (gn ns:List Int) (vs:List (List Int)),gn.length=i→ns.length=i→vs.length=i →
 gn++(a.drop i).map Pn.ty=a.map Pn.ty→vs++(a.drop i).map Pn.vals=a.map Pn.vals→ns++(a.drop i).map Pn.id=a.map Pn.id →
 ev 10601 [pnsD a,pesD b,x2,.int a.length,.int i,.int n,intsD gn,gesD [],valsD vs,intsD ns,intsD []]=some (trkRes n (intsD (a.map Pn.ty)) (valsD (a.map Pn.vals)) (a.map Pn.id) (b.map (geOf (a.map Pn.id))) (b.map Pe.id) (b.any (lostB (a.map Pn.id)))):=by
 refine down ?_ fun i hi ih=>?_
 · intro gn ns vs hg hn hv2 q1 q2 q3
   have hz:a.drop a.length=[]:=List.drop_eq_nil_of_le (Nat.le_refl _)
   rw [hz,List.map_nil,List.append_nil] at q1 q2 q3
   have h:=e10603 h1 h2 (pnsD a) x2 (.bool false) (.int a.length) (.int a.length) (.int 0) (.list []) (.list []) (.list []) (.list []) (.list []) n (intsD gn) (valsD vs) 0 (by omega) [] [] rfl rfl
   rw [List.drop_zero,List.nil_append,List.nil_append] at h
   rw [q1,q2] at *
   rw [q3]
   refine ev_by u10601 ?_
   simp only [t10601,go_sem,lm,ltI_irr]
   exact h
 · intro gn ns vs hg hn hv2 q1 q2 q3
   have hx:=hv _ (getD_mem hi)
   rw [drop_step hi,List.map_cons,←List.singleton_append,←List.append_assoc] at q1 q2 q3
   have h:=ih _ _ _ (by simp [hg]) (by simp [hn]) (by simp [hv2]) q1 q2 q3
   have e1:gn.map D.int++[.int (a.getD i default).ty]=(gn++[(a.getD i default).ty]).map D.int:=by simp
   have e2:ns.map D.int++[.int (a.getD i default).id]=(ns++[(a.getD i default).id]).map D.int:=by simp
   have e3:vs.map intsD++[.list ((a.getD i default).vals.map D.int)]=(vs++[(a.getD i default).vals]).map intsD:=by simp
   refine ev_by u10601 ?_
   simp only [t10601,go_sem,lm,idx_map _ _ _ hi,in_range hi,wrapS i (by omega),le_ok (show gn.length≤1073741824 by omega),le_ok (show ns.length≤1073741824 by omega),le_ok (show vs.length≤1073741824 by omega),e8100 hx,e1,e2,e3]
   rw [cond_lt (by omega)]
   exact h
theorem e10600 (n:Int) (hv:∀ x,x∈a→x.vals.length≤1000000):ev 10600 [pnsD a,pesD b,.int n]=some (bif b.any (lostB (a.map Pn.id)) then [.list [],.list [],.list [],.list [],.list [],.int 0,.bool false] else (trkOf a b n).ds++[.bool true]):=by
 have h:=e10601 h1 h2 (.int n) n hv 0 (by omega) [] [] [] rfl rfl rfl rfl rfl rfl
 refine ev_by u10600 ?_
 simp only [t10600,go_sem,lm]
 refine h.trans ?_
 unfold trkRes
 cases b.any (lostB (a.map Pn.id)) <;> rfl
end
/-! ### What a valid tracked host is -/
theorem thenE_zero {x y:Int} (h:thenE x y=0):x=0∧y=0:=by
 unfold thenE at h
 split at h
 · rename_i h0; exact ⟨h0,h⟩
 · rename_i h0; exact absurd h h0
theorem scan_zero {f:Nat→Int}:∀ (k i:Nat),scan f k i=0→∀ j,i≤j→j < i+k→f j=0
 | 0,i,_,j,h1,h2=>by omega
 | k+1,i,h,j,h1,h2=>by
  unfold scan at h
  split at h
  · rename_i h0
    by_cases hj:j=i
    · rw [hj]; exact h0
    · exact scan_zero k (i+1) h j (by omega) (by omega)
  · rename_i h0; exact absurd h h0
theorem nodeErr_attrs {ns:List Nd} {i:Nat} (h:nodeErr ns i=0):(attrsN ns (i+1) i).length≤8:=by
 unfold nodeErr at h
 revert h
 cases isName (ns.getD i default).name
 · intro h; cases h
 · cases nodeDup ns i
   · intro h
     replace h:(if (ns.getD i default).parent < -1 ∨ (i:Int)≤(ns.getD i default).parent then (6:Int) else _)=0:=h
     split at h
     · cases h
     · split at h
       · cases h
       · split at h
         · cases h
         · omega
   · intro h; cases h
theorem nodeVErr_len {ns:List Nd} {t:Int} {vs:List Int} (h:nodeVErr ns t vs=0):vs.length=(attrsN ns (t.toNat+1) t.toNat).length:=by
 unfold nodeVErr at h
 revert h
 cases leI ns.length t
 · cases (ns.getD t.toNat default).abs
   · intro h
     replace h:(if vs.length=(attrsN ns (t.toNat+1) t.toNat).length then _ else (20:Int))=0:=h
     split at h
     · assumption
     · cases h
   · intro h; cases h
 · intro h; cases h
theorem idsErr_asc {l:List Int} {n:Int} (h:idsErr l n=0):l.Pairwise fun a b=>a < b:=by
 have hz:=scan_zero _ _ h
 have hstep:∀ i,0 < i→i < l.length→l.getD (i - 1) default < l.getD i default:=by
  intro i h1 h2
  have:=hz i (by omega) (by omega)
  unfold idErr at this
  split at this
  · cases this
  · split at this
    · cases this
    · split at this
      · cases this
      · rename_i hn
        omega
 have hlt:∀ k i,i+k+1 < l.length→l.getD i default < l.getD (i+k+1) default:=by
  intro k
  induction k with
  | zero =>
   intro i hi
   have:=hstep (i+1) (by omega) (by omega)
   simpa using this
  | succ k ih =>
   intro i hi
   have g1:=ih i (by omega)
   have g2:=hstep (i+(k+1)+1) (by omega) (by omega)
   have e:i+(k+1)+1 - 1=i+k+1:=by omega
   rw [e] at g2
   exact Int.lt_trans g1 g2
 rw [List.pairwise_iff_getElem]
 intro i j hi hj hij
 have:=hlt (j - i - 1) i (by omega)
 have e:i+(j - i - 1)+1=j:=by omega
 rw [e,getD_get hi,getD_get hj] at this
 exact this
theorem trackErr_ok {ns:List Nd} {es:List Ed} {x:Trk} (h:trackErr ns es x=0):typesErr ns es=0∧Sane x∧(∀ j,j < x.ns.length→(x.vs.getD j default).length≤8)∧x.ns.Pairwise (fun a b=>a < b)∧x.es.Pairwise (fun a b=>a < b)∧0≤x.next∧x.next≤1000000:=by
 unfold trackErr at h
 obtain ⟨hh,h⟩:=thenE_zero h
 unfold hostErr at hh
 obtain ⟨ht,hh⟩:=thenE_zero hh
 obtain ⟨hg,hh⟩:=thenE_zero hh
 split at hh
 · rename_i hvl
   obtain ⟨hn,he⟩:=thenE_zero hh
   split at h
   · rename_i l1
     split at h
     · rename_i l2
       split at h
       · cases h
       · split at h
         · cases h
         · rename_i n1 n2
           obtain ⟨i1,h⟩:=thenE_zero h
           obtain ⟨i2,h⟩:=thenE_zero h
           obtain ⟨g1,g2,g3,g4⟩:=graphErr_ok hg
           have hv8:∀ j,j < x.ns.length→(x.vs.getD j default).length≤8:=by
            intro j hj
            have hz:=scan_zero _ _ hn j (by omega) (by omega)
            have h8:=nodeVErr_len hz
            have hin:=nodeVErr_in hz
            have h0:=g3 j (by omega)
            have:=nodeErr_attrs ((typesErr_ok ht).2.2.2.1 (x.gn.getD j default).toNat (by omega))
            omega
           refine ⟨ht,⟨by omega,by omega,by omega,by omega,by omega,?_,?_,fun j hj=>Nat.le_trans (hv8 j hj) (by omega)⟩,hv8,idsErr_asc i1,idsErr_asc i2,by omega,by omega⟩
           · intro j hj
             have:=g4 j (by omega)
             omega
           · intro j hj
             have:=g4 j (by omega)
             omega
     · cases h
   · cases h
 · cases hh
theorem state_of {ns:List Nd} {es:List Ed} {x:Trk} (h:trackErr ns es x=0):St' (nodesOf x) (edgesOf x):=by
 obtain ⟨_,hs,hv,h1,h2,_,_⟩:=trackErr_ok h
 have e1:(nodesOf x).map Pn.id=x.ns:=by
  refine List.ext_getElem (by simp [nodesOf]) fun q g1 g2=>?_
  rw [List.getElem_map,←getD_get g2]
  simp [nodesOf,nodeOf]
 have e2:(edgesOf x).map Pe.id=x.es:=by
  refine List.ext_getElem (by simp [edgesOf]) fun q g1 g2=>?_
  rw [List.getElem_map,←getD_get g2]
  simp [edgesOf,edgeOf]
 have n3:=hs.n3
 have n4:=hs.e2
 refine ⟨by simp [nodesOf]; omega,by simp [edgesOf]; omega,?_,?_,?_⟩
 · rw [←e1,List.pairwise_map] at h1
   exact h1
 · rw [←e2,List.pairwise_map] at h2
   exact h2
 · intro y hy
   unfold nodesOf at hy
   obtain ⟨i,hi,rfl⟩:=List.mem_map.1 hy
   exact Nat.le_trans (hv i (List.mem_range.1 hi)) (by omega)
theorem lost_bad {ns:List Nd} {es:List Ed} {a:List Pn} {b:List Pe} {n:Int} (h:b.any (lostB (a.map Pn.id))=true):trackErr ns es (trkOf a b n)≠0:=by
 intro h0
 obtain ⟨_,hs,_,_,_,_,_⟩:=trackErr_ok h0
 obtain ⟨e,he,hl⟩:=List.any_eq_true.1 h
 obtain ⟨j,hj,rfl⟩:=List.getElem_of_mem he
 have hje:j < (trkOf a b n).es.length:=by simpa [trkOf] using hj
 have h1:=(hs.src j hje).1
 have h2:=(hs.dst j hje).1
 have e1:(trkOf a b n).ge.getD j default=geOf (a.map Pn.id) b[j]:=by
  show (b.map _).getD j default=_
  rw [getD_get (by simpa using hj),List.getElem_map]
 rw [e1] at h1 h2
 unfold lostB at hl
 rw [lt_f (show 0≤posI (a.map Pn.id) b[j].src from h1),lt_f (show 0≤posI (a.map Pn.id) b[j].dst from h2)] at hl
 cases hl
end Go.SX.T57
namespace Go.SX.T57
open Go.SX
def finS (ns:List Nd) (es:List Ed) (a:List Pn) (b:List Pe) (n:Int):Except Int Trk:=if trackErr ns es (trkOf a b n)=0 then .ok (trkOf a b n) else .error 1
def restS (ns:List Nd) (es:List Ed) (a:List Pn) (b:List Pe) (p:Pt):Except Int Trk:=match lessS a b p.rn p.re p.vl with
 | none=>.error 11
 | some q=>match addS q.1 q.2 p.an p.ae with
  | none=>.error 11
  | some r=>finS ns es r.1 r.2 p.n1
def afterS (ns:List Nd) (es:List Ed) (x:Trk) (p:Pt):Except Int Trk :=
 if shapeErr p=0 then (if p.n0=x.next then restS ns es (nodesOf x) (edgesOf x) p else .error 11) else .error (shapeErr p)
def applyS (ns:List Nd) (es:List Ed) (x:Trk) (p:Pt):Except Int Trk:=if trackErr ns es x=0 then afterS ns es x p else .error (trackErr ns es x)
def exR:Except Int Trk→List D
 | .ok t=>t.ds++[.int 0]
 | .error e=>[.list [],.list [],.list [],.list [],.list [],.int 0,.int e]
theorem ascB_pw {α:Type} [Inhabited α] {f:α→Int}:∀ {l:List α},ascB (fun a b=>ltI (f a) (f b)) l=true→l.Pairwise fun a b=>f a < f b
 | [],_=>List.Pairwise.nil
 | [a],_=>by simp
 | a::b::r,h=>by
  simp only [ascB,Bool.and_eq_true,ltI_iff] at h
  have ih:=ascB_pw (l:=b::r) h.2
  refine List.pairwise_cons.2 ⟨fun z hz=>?_,ih⟩
  rcases List.mem_cons.1 hz with rfl | hz
  · exact h.1
  · exact Int.lt_trans h.1 ((List.pairwise_cons.1 ih).1 z hz)
structure ShOk (p:Pt):Prop where
 l1:p.rn.length≤500
 l2:p.re.length≤500
 l3:p.an.length≤500
 l4:p.ae.length≤500
 l5:p.vl.length≤500
 o1:p.rn.Pairwise fun a b=>a.id < b.id
 o2:p.re.Pairwise fun a b=>a.id < b.id
 o3:p.an.Pairwise fun a b=>a.id < b.id
 o4:p.ae.Pairwise fun a b=>a.id < b.id
 o5:ascB ltV p.vl=true
theorem shape_ok {p:Pt} (h:shapeErr p=0):ShOk p:=by
 unfold shapeErr at h
 split at h
 · cases h
 · rename_i hl
   revert h
   cases h1:ascB ltN p.rn
   · intro h; cases h
   · cases h2:ascB ltE p.re
     · intro h; cases h
     · cases h3:ascB ltN p.an
       · intro h; cases h
       · cases h4:ascB ltE p.ae
         · intro h; cases h
         · cases h5:ascB ltV p.vl
           · intro h; cases h
           · intro _
             exact ⟨by omega,by omega,by omega,by omega,by omega,ascB_pw h1,ascB_pw h2,ascB_pw h3,ascB_pw h4,h5⟩
theorem cut_le {α:Type} [DecidableEq α] {l l' : List α} {n:α} (h:cut l n=some l'):l'.length≤l.length:=(cut_some h).2.2.length_le
theorem cuts_sub {α:Type} [DecidableEq α]:∀ {r l l' : List α},cuts l r=some l'→l'.Sublist l
 | [],l,l',h=>by cases h; exact .refl _
 | n::r,l,l',h=>by
  unfold cuts at h
  obtain ⟨m,h1,h2⟩:=Option.bind_eq_some_iff.1 h
  exact (cuts_sub h2).trans (cut_some h1).2.2
theorem setVs_len:∀ {r:List Pv} {a a' : List Pn},setVs a r=some a'→a'.length=a.length
 | [],a,a',hc=>by cases hc; rfl
 | n::r,a,a',hc=>by
  unfold setVs at hc
  obtain ⟨m,h1,h2⟩:=Option.bind_eq_some_iff.1 hc
  rw [setVs_len h2,(setV_some h1).2,lm]
theorem lessS_len {a:List Pn} {b:List Pe} {rn:List Pn} {re:List Pe} {vl:List Pv} {q:List Pn × List Pe} (hl:lessS a b rn re vl=some q):q.1.length≤a.length∧q.2.length≤b.length:=by
 unfold lessS at hl
 obtain ⟨a1,h1,hl⟩:=Option.bind_eq_some_iff.1 hl
 obtain ⟨b1,h2,hl⟩:=Option.bind_eq_some_iff.1 hl
 obtain ⟨a2,h3,hl⟩:=Option.map_eq_some_iff.1 hl
 subst hl
 exact ⟨by rw [setVs_len h3]; exact (cuts_sub h1).length_le,(cuts_sub h2).length_le⟩
theorem mrg_len {α:Type} (f:α→Int) (a b:List α):(mrg f a b).length=a.length+b.length:=by rw [(mrg_perm f a b).length_eq,List.length_append]
theorem addS_some {a an:List Pn} {b ae:List Pe} {r:List Pn × List Pe} (h:addS a b an ae=some r):(∀ x,x∈an→takenB a b x.id=false)∧(∀ x,x∈ae→takenB a b x.id=false)∧r=(mrg Pn.id a an,mrg Pe.id b ae):=by
 unfold addS at h
 revert h
 cases c1:anyK (fun j=>takenB a b (an.getD j default).id) an.length 0
 · cases c2:anyK (fun j=>takenB a b (ae.getD j default).id) ae.length 0
   · intro h
     refine ⟨fun x hx=>?_,fun x hx=>?_,?_⟩
     · obtain ⟨q,hq,rfl⟩:=List.getElem_of_mem hx
       have:=anyK_zero c1 q hq
       rw [getD_get hq] at this
       exact this
     · obtain ⟨q,hq,rfl⟩:=List.getElem_of_mem hx
       have:=anyK_zero c2 q hq
       rw [getD_get hq] at this
       exact this
     · cases h; rfl
   · intro h; cases h
 · intro h; cases h
def ValP (p:Pt):Prop:=(∀ x,x∈p.rn→x.vals.length≤1000000)∧∀ x,x∈p.an→x.vals.length≤1000000
section
variable {ns:List Nd} {es:List Ed} (ht:OkT ns es)
include ht
theorem fin_len {a:List Pn} {b:List Pe} {n:Int} (h1:a.length≤1000) (h2:b.length≤1000):ev 700 ([ndsD ns,edsD es]++(trkOf a b n).ds)=some [.int (trackErr ns es (trkOf a b n))]∧ev 17400 ([ndsD ns,edsD es]++(trkOf a b n).ds)=some [.int (trackErr ns es (trkOf a b n))]:=by
 have g1:(trkOf a b n).gn.length≤1000:=by simpa [trkOf] using h1
 have g2:(trkOf a b n).ge.length≤1000:=by simpa [trkOf] using h2
 have g3:(trkOf a b n).ns.length≤1000000:=by simp [trkOf]; omega
 have g4:(trkOf a b n).es.length≤1000000:=by simp [trkOf]; omega
 exact ⟨e700 ht g1 g2 g3 g4,e17400 ht g1 g2 g3 g4⟩
theorem e600 {x:Trk} {p:Pt} (h1:x.gn.length≤1000) (h2:x.ge.length≤1000) (h3:x.ns.length≤1000000) (h4:x.es.length≤1000000) (hp:LenP p) (hv:ValP p):ev 600 ([ndsD ns,edsD es]++x.ds++p.ds)=some (exR (applyS ns es x p)):=by
 have h7:=e700 ht h1 h2 h3 h4
 have h70:=e7000 hp
 have hlen:=hp
 obtain ⟨l1,l2,l3,l4,l5⟩:=hlen
 show ev 600 [ndsD ns,edsD es,intsD x.gn,gesD x.ge,valsD x.vs,intsD x.ns,intsD x.es,.int x.next,pnsD p.rn,pesD p.re,pnsD p.an,pesD p.ae,pvsD p.vl,.int p.n0,.int p.n1]=_
 replace h7:ev 700 [ndsD ns,edsD es,intsD x.gn,gesD x.ge,valsD x.vs,intsD x.ns,intsD x.es,.int x.next]=_:=h7
 replace h70:ev 7000 [pnsD p.rn,pesD p.re,pnsD p.an,pesD p.ae,pvsD p.vl,.int p.n0,.int p.n1]=_:=h70
 have after:trackErr ns es x=0→ev 6900 [ndsD ns,edsD es,intsD x.gn,gesD x.ge,valsD x.vs,intsD x.ns,intsD x.es,.int x.next,pnsD p.rn,pesD p.re,pnsD p.an,pesD p.ae,pvsD p.vl,.int p.n0,.int p.n1]=some (exR (afterS ns es x p)):=by
  intro h0
  have hst:=state_of h0
  obtain ⟨_,hs,_⟩:=trackErr_ok h0
  unfold afterS
  by_cases hsh:shapeErr p=0
  · rw [if_pos hsh]
    rw [hsh] at h70
    have hso:=shape_ok hsh
    have h80:=e8000 hs
    have h82:=e8200 hs
    replace h80:ev 8000 [intsD x.gn,gesD x.ge,valsD x.vs,intsD x.ns,intsD x.es,.int x.next]=_:=h80
    replace h82:ev 8200 [intsD x.gn,gesD x.ge,valsD x.vs,intsD x.ns,intsD x.es,.int x.next]=_:=h82
    have hrem:=e8300 p.rn p.re l1 l2 (pnsD p.an) (pesD p.ae) (pvsD p.vl) (.int p.n0) (.int p.n1) hst
    have h00:eqI 0 0=true:=by decide
    by_cases hn:p.n0=x.next
    · rw [if_pos hn]
      unfold restS lessS
      cases c1:cuts (nodesOf x) p.rn with
      | none =>
       simp only [c1,Option.bind_none] at hrem
       obtain ⟨u,v,hrem⟩:=hrem
       refine ev_by u6900 ?_
       simp only [t6900,go_sem,h70,h00,h80,h82,hrem]
       rw [cond_eq hn]
       rfl
      | some a1 =>
       cases c2:cuts (edgesOf x) p.re with
       | none =>
        simp only [c1,c2,Option.bind_some,Option.map_none] at hrem
        obtain ⟨u,v,hrem⟩:=hrem
        refine ev_by u6900 ?_
        simp only [t6900,go_sem,h70,h00,h80,h82,hrem]
        rw [cond_eq hn]
        rfl
       | some b1 =>
        simp only [c1,c2,Option.bind_some,Option.map_some] at hrem
        replace hrem:_=_:=hrem
        have hst1:St' a1 b1:=(hst.cutsN c1).cutsE c2
        have hset:=e9400 (pnsD p.rn) (pesD p.re) (pnsD p.an) (pesD p.ae) (.int p.n0) (.int p.n1) p.vl l5 hst1
        cases c3:setVs a1 p.vl with
        | none =>
         simp only [c3,Option.map_none] at hset
         obtain ⟨u,v,hset⟩:=hset
         simp only [Option.bind_some,c3,Option.map_none]
         refine ev_by u6900 ?_
         simp only [t6900,go_sem,h70,h00,h80,h82,hrem,hset]
         rw [cond_eq hn]
         rfl
        | some a2 =>
         simp only [c3,Option.map_some] at hset
         replace hset:_=_:=hset
         have hst2:St' a2 b1:=hst1.setVs c3
         have hok:AddOk p.an p.ae:=⟨by have:=hso.l3; omega,by have:=hso.l4; omega,hso.o3,hso.o4⟩
         have hadd:=e9600 (pnsD p.rn) (pesD p.re) (pvsD p.vl) (.int p.n0) (.int p.n1) hst2 hok
         simp only [Option.bind_some,c3,Option.map_some]
         cases c4:addS a2 b1 p.an p.ae with
         | none =>
          rw [c4] at hadd
          obtain ⟨u,v,hadd⟩:=hadd
          refine ev_by u6900 ?_
          simp only [t6900,go_sem,h70,h00,h80,h82,hrem,hset,hadd]
          rw [cond_eq hn]
          rfl
         | some r =>
          rw [c4] at hadd
          replace hadd:_=some [pnsD r.1,pesD r.2,.bool true]:=hadd
          obtain ⟨_,_,hr⟩:=addS_some c4
          have hln:a2.length≤40:=by
           rw [setVs_len c3]
           have:=(cuts_sub c1).length_le
           have h5:=hs.n3
           simp [nodesOf] at this
           omega
          have hle:b1.length≤80:=by
           have:=(cuts_sub c2).length_le
           have h5:=hs.e2
           simp [edgesOf] at this
           omega
          have k1:=hso.l3
          have k2:=hso.l4
          have hr1:r.1.length≤1000:=by rw [hr]; show (mrg _ _ _).length≤_; rw [mrg_len]; omega
          have hr2:r.2.length≤1000:=by rw [hr]; show (mrg _ _ _).length≤_; rw [mrg_len]; omega
          have hrv:∀ y,y∈r.1→y.vals.length≤1000000:=by
           rw [hr]
           intro y hy
           have:=(mrg_perm _ _ _).mem_iff.1 hy
           rcases List.mem_append.1 this with h | h
           · exact hst2.av y h
           · exact hv.2 y h
          have htr:=e10600 (a:=r.1) (b:=r.2) (by omega) (by omega) p.n1 hrv
          have hfin:=(fin_len ht (n:=p.n1) hr1 hr2).1
          replace hfin:ev 700 [ndsD ns,edsD es,intsD (trkOf r.1 r.2 p.n1).gn,gesD (trkOf r.1 r.2 p.n1).ge,valsD (trkOf r.1 r.2 p.n1).vs,intsD (trkOf r.1 r.2 p.n1).ns,intsD (trkOf r.1 r.2 p.n1).es,.int p.n1]=_:=hfin
          unfold finS
          dsimp only
          cases c5:r.2.any (lostB (r.1.map Pn.id))
          · rw [c5] at htr
            replace htr:ev 10600 [pnsD r.1,pesD r.2,.int p.n1]=some [intsD (trkOf r.1 r.2 p.n1).gn,gesD (trkOf r.1 r.2 p.n1).ge,valsD (trkOf r.1 r.2 p.n1).vs,intsD (trkOf r.1 r.2 p.n1).ns,intsD (trkOf r.1 r.2 p.n1).es,.int p.n1,.bool true]:=htr
            refine ev_by u6900 ?_
            simp only [t6900,go_sem,h70,h00,h80,h82,hrem,hset,hadd,htr,hfin]
            rw [cond_eq hn]
            by_cases c6:trackErr ns es (trkOf r.1 r.2 p.n1)=0
            · rw [cond_eq c6,if_pos c6]
              rfl
            · rw [cond_ne c6,if_neg c6]
              rfl
          · rw [c5] at htr
            replace htr:ev 10600 [pnsD r.1,pesD r.2,.int p.n1]=some [.list [],.list [],.list [],.list [],.list [],.int 0,.bool false]:=htr
            rw [if_neg (lost_bad c5)]
            refine ev_by u6900 ?_
            simp only [t6900,go_sem,h70,h00,h80,h82,hrem,hset,hadd,htr]
            rw [cond_eq hn]
            rfl
    · rw [if_neg hn]
      refine ev_by u6900 ?_
      simp only [t6900,go_sem,h70,h00,h80,h82]
      rw [cond_ne hn]
      rfl
  · rw [if_neg hsh]
    refine ev_by u6900 ?_
    simp only [t6900,go_sem,h70]
    rw [cond_ne hsh]
    rfl
 unfold applyS
 by_cases h0:trackErr ns es x=0
 · have h00:eqI 0 0=true:=by decide
   have ha:=after h0
   rw [if_pos h0]
   rw [h0] at h7
   cases hr:afterS ns es x p with
   | ok t =>
    rw [hr] at ha
    replace ha:_=some [intsD t.gn,gesD t.ge,valsD t.vs,intsD t.ns,intsD t.es,.int t.next,.int 0]:=ha
    refine ev_by u600 ?_
    simp only [t600,go_sem,h7,h00,ha]
    rfl
   | error e =>
    rw [hr] at ha
    replace ha:_=some [D.list [],D.list [],D.list [],D.list [],D.list [],D.int 0,D.int e]:=ha
    refine ev_by u600 ?_
    simp only [t600,go_sem,h7,h00,ha]
    rfl
 · rw [if_neg h0]
   refine ev_by u600 ?_
   simp only [t600,go_sem,h7]
   rw [cond_ne h0]
   rfl
theorem e17300 {x:Trk} {p:Pt} (h1:x.gn.length≤1000) (h2:x.ge.length≤1000) (h3:x.ns.length≤1000000) (h4:x.es.length≤1000000) (hp:LenP p) (hv:ValP p):ev 17300 ([ndsD ns,edsD es]++x.ds++p.ds)=some (exR (applyS ns es x p)):=by
 have h7:=e17400 ht h1 h2 h3 h4
 have h70:=e20400 hp
 have hlen:=hp
 obtain ⟨l1,l2,l3,l4,l5⟩:=hlen
 show ev 17300 [ndsD ns,edsD es,intsD x.gn,gesD x.ge,valsD x.vs,intsD x.ns,intsD x.es,.int x.next,pnsD p.rn,pesD p.re,pnsD p.an,pesD p.ae,pvsD p.vl,.int p.n0,.int p.n1]=_
 replace h7:ev 17400 [ndsD ns,edsD es,intsD x.gn,gesD x.ge,valsD x.vs,intsD x.ns,intsD x.es,.int x.next]=_:=h7
 replace h70:ev 20400 [pnsD p.rn,pesD p.re,pnsD p.an,pesD p.ae,pvsD p.vl,.int p.n0,.int p.n1]=_:=h70
 have after:trackErr ns es x=0→ev 20300 [ndsD ns,edsD es,intsD x.gn,gesD x.ge,valsD x.vs,intsD x.ns,intsD x.es,.int x.next,pnsD p.rn,pesD p.re,pnsD p.an,pesD p.ae,pvsD p.vl,.int p.n0,.int p.n1]=some (exR (afterS ns es x p)):=by
  intro h0
  have hst:=state_of h0
  obtain ⟨_,hs,_⟩:=trackErr_ok h0
  unfold afterS
  by_cases hsh:shapeErr p=0
  · rw [if_pos hsh]
    rw [hsh] at h70
    have hso:=shape_ok hsh
    have h80:=e20800 hs
    replace h80:ev 20800 [intsD x.gn,gesD x.ge,valsD x.vs,intsD x.ns,intsD x.es,.int x.next]=_:=h80
    have hrem:=e21100 hst hp
    have h00:eqI 0 0=true:=by decide
    by_cases hn:p.n0=x.next
    · rw [if_pos hn]
      unfold restS
      cases c1:lessS (nodesOf x) (edgesOf x) p.rn p.re p.vl with
      | none =>
       rw [c1] at hrem
       obtain ⟨u,v,hrem⟩:=hrem
       replace hrem:ev 21100 [pnsD (nodesOf x),pesD (edgesOf x),pnsD p.rn,pesD p.re,pnsD p.an,pesD p.ae,pvsD p.vl,.int p.n0,.int p.n1]=_:=hrem
       refine ev_by u20300 ?_
       simp only [t20300,go_sem,h70,h00,h80,hrem]
       rw [cond_eq hn]
       rfl
      | some q =>
       rw [c1] at hrem
       replace hrem:ev 21100 [pnsD (nodesOf x),pesD (edgesOf x),pnsD p.rn,pesD p.re,pnsD p.an,pesD p.ae,pvsD p.vl,.int p.n0,.int p.n1]=some [pnsD q.1,pesD q.2,.bool true]:=hrem
       have hst2:=hst.lessS c1
       have hok:AddOk p.an p.ae:=⟨by have:=hso.l3; omega,by have:=hso.l4; omega,hso.o3,hso.o4⟩
       have hadd:=e21700 (pnsD p.rn) (pesD p.re) (pvsD p.vl) (.int p.n0) (.int p.n1) hst2 hok
       cases c4:addS q.1 q.2 p.an p.ae with
       | none =>
        rw [c4] at hadd
        obtain ⟨u,v,hadd⟩:=hadd
        simp only [c4]
        refine ev_by u20300 ?_
        simp only [t20300,go_sem,h70,h00,h80,hrem,hadd]
        rw [cond_eq hn]
        rfl
       | some r =>
        rw [c4] at hadd
        replace hadd:_=some [pnsD r.1,pesD r.2,.bool true]:=hadd
        simp only [c4]
        obtain ⟨_,_,hr⟩:=addS_some c4
        have hll:=lessS_len c1
        simp only [nodesOf,edgesOf,lm,List.length_range] at hll
        have k3:=hs.n3
        have k4:=hs.e2
        have k1:=hso.l3
        have k2:=hso.l4
        have hr1:r.1.length≤1000:=by rw [hr]; show (mrg _ _ _).length≤_; rw [mrg_len]; omega
        have hr2:r.2.length≤1000:=by rw [hr]; show (mrg _ _ _).length≤_; rw [mrg_len]; omega
        have hrv:∀ y,y∈r.1→y.vals.length≤1000000:=by
         rw [hr]
         intro y hy
         have:=(mrg_perm _ _ _).mem_iff.1 hy
         rcases List.mem_append.1 this with h | h
         · exact hst2.av y h
         · exact hv.2 y h
        have htr:=e21900 (a:=r.1) (b:=r.2) (by omega) (by omega) p.n1 hrv
        have hfin:=(fin_len ht (n:=p.n1) hr1 hr2).2
        replace hfin:ev 17400 [ndsD ns,edsD es,intsD (trkOf r.1 r.2 p.n1).gn,gesD (trkOf r.1 r.2 p.n1).ge,valsD (trkOf r.1 r.2 p.n1).vs,intsD (trkOf r.1 r.2 p.n1).ns,intsD (trkOf r.1 r.2 p.n1).es,.int p.n1]=_:=hfin
        replace htr:ev 21900 [pnsD r.1,pesD r.2,.int p.n1]=some [intsD (trkOf r.1 r.2 p.n1).gn,gesD (trkOf r.1 r.2 p.n1).ge,valsD (trkOf r.1 r.2 p.n1).vs,intsD (trkOf r.1 r.2 p.n1).ns,intsD (trkOf r.1 r.2 p.n1).es,.int p.n1]:=htr
        unfold finS
        refine ev_by u20300 ?_
        simp only [t20300,go_sem,h70,h00,h80,hrem,hadd,htr,hfin]
        rw [cond_eq hn]
        by_cases c6:trackErr ns es (trkOf r.1 r.2 p.n1)=0
        · rw [cond_eq c6,if_pos c6]
          rfl
        · rw [cond_ne c6,if_neg c6]
          rfl
    · rw [if_neg hn]
      refine ev_by u20300 ?_
      simp only [t20300,go_sem,h70,h00]
      rw [cond_ne hn]
      rfl
  · rw [if_neg hsh]
    refine ev_by u20300 ?_
    simp only [t20300,go_sem,h70]
    rw [cond_ne hsh]
    rfl
 unfold applyS
 by_cases h0:trackErr ns es x=0
 · have h00:eqI 0 0=true:=by decide
   have ha:=after h0
   rw [if_pos h0]
   rw [h0] at h7
   cases hr:afterS ns es x p with
   | ok t =>
    rw [hr] at ha
    replace ha:_=some [intsD t.gn,gesD t.ge,valsD t.vs,intsD t.ns,intsD t.es,.int t.next,.int 0]:=ha
    refine ev_by u17300 ?_
    simp only [t17300,go_sem,h7,h00,ha]
    rfl
   | error e =>
    rw [hr] at ha
    replace ha:_=some [D.list [],D.list [],D.list [],D.list [],D.list [],D.int 0,D.int e]:=ha
    refine ev_by u17300 ?_
    simp only [t17300,go_sem,h7,h00,ha]
    rfl
 · rw [if_neg h0]
   refine ev_by u17300 ?_
   simp only [t17300,go_sem,h7]
   rw [cond_ne h0]
   rfl
end
end Go.SX.T57
namespace Go.SX.T57
open Go.SX
/-! ### Few -/
def FewT (x:Trk):Prop:=FewH x.gn x.ge x.vs∧x.ns.length+x.es.length≤140
def FewP (p:Pt):Prop:=(p.rn.length≤510∧p.re.length≤510∧p.an.length≤510∧p.ae.length≤510∧p.vl.length≤510)∧(∀ x,x∈p.rn→x.vals.length≤12)∧∀ x,x∈p.an→x.vals.length≤12
theorem e16200 {x:Trk} (hv:Len x.vs.length) (h1:Len x.ns.length) (h2:Len x.es.length):Q 16200 x.ds (FewT x):=by
 obtain ⟨b,hb,hi⟩:=e16300 (gn:=x.gn) (ge:=x.ge) (vs:=x.vs) hv
 show Q 16200 [intsD x.gn,gesD x.ge,valsD x.vs,intsD x.ns,intsD x.es,.int x.next] _
 cases b
 · refine Q.no ?_
   refine ev_by u16200 ?_
   simp only [t16200,go_sem,hb]
 · refine ⟨leI (x.ns.length+x.es.length) 140,?_,fun h=>⟨hi rfl,?_⟩⟩
   · refine ev_by u16200 ?_
     simp only [t16200,go_sem,hb,lm,nowrap (n:=(x.ns.length:Int)+x.es.length) (by omega) (by omega)]
   · rw [leI_iff] at h
     omega
theorem e16503 (l:List Pn) (hl:l.length≤1000000) (x0 x1 x3 x4 x5 x6 x7 x8 x9:D):∀ i,i≤l.length→Q 16503 [x0,x1,pnsD l,x3,x4,x5,x6,x7,x8,x9,.int i] (∀ j,i≤j→j < l.length→(l.getD j default).vals.length≤12):=by
 refine down ?_ fun i hi ih=>?_
 · refine ⟨true,?_,fun _ j h1 h2=>by omega⟩
   refine ev_by u16503 ?_
   simp only [t16503,go_sem,lm,ltI_irr]
 · by_cases hc:(l.getD i default).vals.length≤12
   · refine ih.imp ?_ fun hp j h1 h2=>?_
     · rw [ev_eq u16503 rfl]
       simp only [t16503,go_sem,lm,idx_map _ _ _ hi,in_range hi,wrapS i (by omega)]
       rw [cond_lt (by omega),cond_nlt (by omega)]
     · by_cases hj:j=i
       · rw [hj]; exact hc
       · exact hp j (by omega) h2
   · refine Q.no ?_
     refine ev_by u16503 ?_
     simp only [t16503,go_sem,lm,idx_map _ _ _ hi,in_range hi]
     rw [cond_lt (by omega),cond_lt (by omega)]
theorem e16501 (l m:List Pn) (hl:l.length≤1000000) (hm:m.length≤1000000) (x1 x3 x4 x5 x6 x7 x8:D):∀ i,i≤l.length→Q 16501 [pnsD l,x1,pnsD m,x3,x4,x5,x6,x7,x8,.int i] ((∀ j,i≤j→j < l.length→(l.getD j default).vals.length≤12)∧∀ j,j < m.length→(m.getD j default).vals.length≤12):=by
 refine down ?_ fun i hi ih=>?_
 · refine (e16503 m hm (pnsD l) x1 x3 x4 x5 x6 x7 x8 (.int l.length) 0 (by omega)).imp ?_ fun hp=>⟨fun j h1 h2=>by omega,fun j hj=>hp j (by omega) hj⟩
   rw [ev_eq u16501 rfl]
   simp only [t16501,go_sem,lm,ltI_irr]
   rfl
 · by_cases hc:(l.getD i default).vals.length≤12
   · refine ih.imp ?_ fun hp=>⟨fun j h1 h2=>?_,hp.2⟩
     · rw [ev_eq u16501 rfl]
       simp only [t16501,go_sem,lm,idx_map _ _ _ hi,in_range hi,wrapS i (by omega)]
       rw [cond_lt (by omega),cond_nlt (by omega)]
     · by_cases hj:j=i
       · rw [hj]; exact hc
       · exact hp.1 j (by omega) h2
   · refine Q.no ?_
     refine ev_by u16501 ?_
     simp only [t16501,go_sem,lm,idx_map _ _ _ hi,in_range hi]
     rw [cond_lt (by omega),cond_lt (by omega)]
theorem all_mem {α:Type} [Inhabited α] {l:List α} {P:α→Prop} (h:∀ j,j < l.length→P (l.getD j default)):∀ x,x∈l→P x:=by
 intro x hx
 obtain ⟨q,hq,rfl⟩:=List.getElem_of_mem hx
 rw [←getD_get hq]
 exact h q hq
theorem e16500 {p:Pt}:Q 16500 p.ds (FewP p):=by
 show Q 16500 [pnsD p.rn,pesD p.re,pnsD p.an,pesD p.ae,pvsD p.vl,.int p.n0,.int p.n1] _
 have hbig:∀ q:Int,max (max (max (max (p.rn.length:Int) p.re.length) p.an.length) p.ae.length) p.vl.length≤q→(p.rn.length:Int)≤q∧(p.re.length:Int)≤q∧(p.an.length:Int)≤q∧(p.ae.length:Int)≤q∧(p.vl.length:Int)≤q:=fun q h=>by omega
 by_cases h1:(510:Int) < max (max (max (max (p.rn.length:Int) p.re.length) p.an.length) p.ae.length) p.vl.length
 · refine Q.no ?_
   refine ev_by u16500 ?_
   simp only [t16500,go_sem,o_max,lm]
   rw [cond_lt h1]
 · have hb:=hbig 510 (Int.not_lt.1 h1)
   have key:=(e16501 p.rn p.an (by omega) (by omega) (pesD p.re) (pesD p.ae) (pvsD p.vl) (.int p.n0) (.int p.n1) (.bool false) (.int (max (max (max (max (p.rn.length:Int) p.re.length) p.an.length) p.ae.length) p.vl.length)) 0 (by omega))
   have fin:((∀ j,0≤j→j < p.rn.length→(p.rn.getD j default).vals.length≤12)∧∀ j,j < p.an.length→(p.an.getD j default).vals.length≤12)→FewP p:=fun h=>⟨by omega,all_mem (P:=fun x:Pn=>x.vals.length≤12) fun j hj=>h.1 j (Nat.zero_le _) hj,all_mem (P:=fun x:Pn=>x.vals.length≤12) h.2⟩
   by_cases h2:(60:Int) < max (max (max (max (p.rn.length:Int) p.re.length) p.an.length) p.ae.length) p.vl.length
   · by_cases h3:max (max (max (max (p.rn.length:Int) p.re.length) p.an.length) p.ae.length) p.vl.length≤(500:Int)
     · refine Q.no ?_
       refine ev_by u16500 ?_
       simp only [t16500,go_sem,o_max,lm]
       rw [cond_nlt (Int.not_lt.1 h1),cond_lt h2,cond_le h3]
     · refine key.imp ?_ fin
       rw [ev_eq u16500 rfl]
       simp only [t16500,go_sem,o_max,lm]
       rw [cond_nlt (Int.not_lt.1 h1),cond_lt h2,cond_nle (Int.not_le.1 h3)]
       rfl
   · refine key.imp ?_ fin
     rw [ev_eq u16500 rfl]
     simp only [t16500,go_sem,o_max,lm]
     rw [cond_nlt (Int.not_lt.1 h1),cond_nlt (Int.not_lt.1 h2)]
     rfl
theorem FewP.len {p:Pt} (h:FewP p):LenP p:=by
 obtain ⟨h,_⟩:=h
 exact ⟨by omega,by omega,by omega,by omega,by omega⟩
theorem FewP.val {p:Pt} (h:FewP p):ValP p:=⟨fun x hx=>by have:=h.2.1 x hx; omega,fun x hx=>by have:=h.2.2 x hx; omega⟩
/-! ### Copied -/
theorem e16701 (l:List (List Int)) (hl:l.length≤1000000) (hv:∀ x,x∈l→x.length≤1000000) (x0 x1 a b:D):∀ i,i≤l.length→∀ acc:List (List Int),acc.length=i→ev 16701 [x0,x1,valsD l,.int i,a,b,valsD acc]=some [a,b,valsD (acc++l.drop i)]:=by
 refine down ?_ fun i hi ih=>?_
 · intro acc ha
   rw [List.drop_eq_nil_of_le (Nat.le_refl _),List.append_nil]
   refine ev_by u16701 ?_
   simp only [t16701,go_sem,lm,ltI_irr]
 · intro acc ha
   have hx:=hv _ (getD_mem hi)
   have h:=ih (acc++[l.getD i default]) (by simp [ha])
   rw [List.append_assoc,List.singleton_append] at h
   rw [drop_step hi]
   have e1:acc.map intsD++[.list ((l.getD i default).map D.int)]=(acc++[l.getD i default]).map intsD:=by simp
   refine ev_by u16701 ?_
   simp only [t16701,go_sem,lm,idx_map _ _ _ hi,in_range hi,wrapS i (by omega),le_ok (show (l.getD i default).length≤1073741824 by omega),le_ok (show acc.length≤1073741824 by omega),e1]
   rw [cond_lt (by omega)]
   exact h
theorem e16600 {x:Trk} (h:FewT x):ev 16600 x.ds=some x.ds:=by
 obtain ⟨⟨h1,h2,h3,h4⟩,h5⟩:=h
 show ev 16600 [intsD x.gn,gesD x.ge,valsD x.vs,intsD x.ns,intsD x.es,.int x.next]=_
 have hc:ev 16800 [intsD x.gn,gesD x.ge]=some [intsD x.gn,gesD x.ge]:=by
  refine ev_by u16800 ?_
  simp only [t16800,go_sem,lm,le_ok (show x.gn.length≤1073741824 by omega),le_ok (show x.ge.length≤1073741824 by omega)]
 have hb:=e16701 x.vs (by omega) (all_mem (P:=fun v:List Int=>v.length≤1000000) fun j hj=>by have:=h4 j hj; omega) (intsD x.gn) (gesD x.ge) (intsD x.gn) (gesD x.ge) 0 (by omega) [] rfl
 rw [List.drop_zero,List.nil_append] at hb
 have hd:ev 16700 [intsD x.gn,gesD x.ge,valsD x.vs]=some [intsD x.gn,gesD x.ge,valsD x.vs]:=by
  refine ev_by u16700 ?_
  simp only [t16700,go_sem,hc]
  exact hb
 refine ev_by u16600 ?_
 simp only [t16600,go_sem,hd,lm,le_ok (show x.ns.length≤1073741824 by omega),le_ok (show x.es.length≤1073741824 by omega)]
theorem e17001 (l:List Pn) (hl:l.length≤1000000) (hv:∀ x,x∈l→x.vals.length≤1000000):∀ i,i≤l.length→∀ acc:List Pn,acc.length=i→ev 17001 [pnsD l,.int i,pnsD acc]=some [pnsD (acc++l.drop i)]:=by
 refine down ?_ fun i hi ih=>?_
 · intro acc ha
   rw [List.drop_eq_nil_of_le (Nat.le_refl _),List.append_nil]
   refine ev_by u17001 ?_
   simp only [t17001,go_sem,lm,ltI_irr]
 · intro acc ha
   have hx:=hv _ (getD_mem hi)
   have h:=ih (acc++[l.getD i default]) (by simp [ha])
   rw [List.append_assoc,List.singleton_append] at h
   rw [drop_step hi]
   have e1:acc.map Pn.d++[.agg [.int (l.getD i default).id,.int (l.getD i default).ty,.list ((l.getD i default).vals.map D.int)]]=(acc++[l.getD i default]).map Pn.d:=by simp
   refine ev_by u17001 ?_
   simp only [t17001,go_sem,lm,idx_map _ _ _ hi,in_range hi,wrapS i (by omega),le_ok (show (l.getD i default).vals.length≤1073741824 by omega),le_ok (show acc.length≤1073741824 by omega),e1]
   rw [cond_lt (by omega)]
   exact h
theorem e17000 (l:List Pn) (hl:l.length≤1000000) (hv:∀ x,x∈l→x.vals.length≤1000000):ev 17000 [pnsD l]=some [pnsD l]:=by
 have h:=e17001 l hl hv 0 (by omega) [] rfl
 refine ev_by u17000 ?_
 simp only [t17000,go_sem]
 exact h
theorem e16900 {p:Pt} (h:LenP p) (hv:ValP p):ev 16900 p.ds=some p.ds:=by
 obtain ⟨h1,h2,h3,h4,h5⟩:=h
 show ev 16900 [pnsD p.rn,pesD p.re,pnsD p.an,pesD p.ae,pvsD p.vl,.int p.n0,.int p.n1]=_
 refine ev_by u16900 ?_
 simp only [t16900,go_sem,e17000 p.rn h1 hv.1,e17000 p.an h3 hv.2,lm,le_ok (show p.re.length≤1073741824 by omega),le_ok (show p.ae.length≤1073741824 by omega),le_ok (show p.vl.length≤1073741824 by omega)]
/-! ### Grows -/
def growsB (p:Pt):Bool:=leI p.n0 p.n1&&(!anyK (fun j=>ltI (p.an.getD j default).id p.n0) p.an.length 0&&!anyK (fun j=>ltI (p.ae.getD j default).id p.n0) p.ae.length 0)
theorem e10901 (l:List Pn) (hl:l.length≤1000000) (n:Int) (x1 x2 x3 x4 x5 x7 y:D):∀ i,i≤l.length→ev 10901 [pnsD l,x1,x2,x3,x4,x5,.int n,x7,y,.int l.length,.int i]=some [.int (findK (fun j=>ltI (l.getD j default).id n) (l.length - i) i)]:=by
 have h99:∀ (m:Int) (u v:D),ev 11000 [.int m,u,v,x1,x2,x3,x4,x5,.int n,x7]=some [.bool (ltI m n)]:=fun m u v=>by
  refine ev_by u11000 ?_
  simp only [t11000,go_sem]
 refine down ?_ fun i hi ih=>?_
 · refine ev_by u10901 ?_
   simp only [t10901,go_sem,findK_end,ltI_irr]
 · refine ev_by u10901 ?_
   simp only [t10901,go_sem,lm,idx_map _ _ _ hi,in_range hi,h99,wrapS i (by omega),ih]
   rw [findK_step _ hi,cond_lt (by omega)]
   cases ltI (l.getD i default).id n <;> rfl
theorem e10800 (l:List Pn) (hl:l.length≤1000000) (n:Int) (x1 x2 x3 x4 x5 x7:D):ev 10800 [pnsD l,x1,x2,x3,x4,x5,.int n,x7]=some [.bool (anyK (fun j=>ltI (l.getD j default).id n) l.length 0)]:=by
 have h:ev 10900 [pnsD l,x1,x2,x3,x4,x5,.int n,x7]=some [.int (findK (fun j=>ltI (l.getD j default).id n) l.length 0)]:=by
  refine ev_by u10900 ?_
  simp only [t10900,go_sem,lm]
  exact e10901 l hl n _ _ _ _ _ _ _ 0 (by omega)
 refine ev_by u10800 ?_
 simp only [t10800,go_sem,h,leI_find]
theorem e11201 (l:List Pe) (hl:l.length≤1000000) (n:Int) (x1 x2 x3 x4 x5 x7 y:D):∀ i,i≤l.length→ev 11201 [pesD l,x1,x2,x3,x4,x5,.int n,x7,y,.int l.length,.int i]=some [.int (findK (fun j=>ltI (l.getD j default).id n) (l.length - i) i)]:=by
 have h99:∀ (m:Int) (u v w:D),ev 11300 [.int m,u,v,w,x1,x2,x3,x4,x5,.int n,x7]=some [.bool (ltI m n)]:=fun m u v w=>by
  refine ev_by u11300 ?_
  simp only [t11300,go_sem]
 refine down ?_ fun i hi ih=>?_
 · refine ev_by u11201 ?_
   simp only [t11201,go_sem,findK_end,ltI_irr]
 · refine ev_by u11201 ?_
   simp only [t11201,go_sem,lm,idx_map _ _ _ hi,in_range hi,h99,wrapS i (by omega),ih]
   rw [findK_step _ hi,cond_lt (by omega)]
   cases ltI (l.getD i default).id n <;> rfl
theorem e11100 (l:List Pe) (hl:l.length≤1000000) (n:Int) (x1 x2 x3 x4 x5 x7:D):ev 11100 [pesD l,x1,x2,x3,x4,x5,.int n,x7]=some [.bool (anyK (fun j=>ltI (l.getD j default).id n) l.length 0)]:=by
 have h:ev 11200 [pesD l,x1,x2,x3,x4,x5,.int n,x7]=some [.int (findK (fun j=>ltI (l.getD j default).id n) l.length 0)]:=by
  refine ev_by u11200 ?_
  simp only [t11200,go_sem,lm]
  exact e11201 l hl n _ _ _ _ _ _ _ 0 (by omega)
 refine ev_by u11100 ?_
 simp only [t11100,go_sem,h,leI_find]
theorem e10700 {p:Pt} (h:LenP p):ev 10700 p.ds=some [.bool (growsB p)]:=by
 obtain ⟨h1,h2,h3,h4,h5⟩:=h
 show ev 10700 [pnsD p.rn,pesD p.re,pnsD p.an,pesD p.ae,pvsD p.vl,.int p.n0,.int p.n1]=_
 refine ev_by u10700 ?_
 simp only [t10700,go_sem,e10800 p.an h3,e11100 p.ae h4]
 unfold growsB
 cases leI p.n0 p.n1 <;> cases anyK (fun j=>ltI (p.an.getD j default).id p.n0) p.an.length 0 <;> cases anyK (fun j=>ltI (p.ae.getD j default).id p.n0) p.ae.length 0 <;> rfl
theorem e22003 (l:List Pe) (hl:l.length≤1000000) (n n1:Int) (x0 x1 x2 x4 x7 x8:D):∀ i,i≤l.length→ev 22003 [x0,x1,x2,pesD l,x4,.int n,.int n1,x7,x8,.int i]=some [.bool (leI n n1&&!anyK (fun j=>ltI (l.getD j default).id n) (l.length - i) i)]:=by
 refine down ?_ fun i hi ih=>?_
 · refine ev_by u22003 ?_
   simp only [t22003,go_sem,lm,ltI_irr,anyK_end,Bool.not_false,Bool.and_true]
 · refine ev_by u22003 ?_
   simp only [t22003,go_sem,lm,idx_map _ _ _ hi,in_range hi,wrapS i (by omega),ih]
   rw [anyK_step _ hi,cond_lt (by omega)]
   cases ltI (l.getD i default).id n
   · rfl
   · rw [Bool.true_or,Bool.not_true,Bool.and_false]
     rfl
theorem e22001 (l:List Pn) (hl:l.length≤1000000) (m:List Pe) (hm:m.length≤1000000) (n n1:Int) (x0 x1 x4 x7:D):∀ i,i≤l.length→ev 22001 [x0,x1,pnsD l,pesD m,x4,.int n,.int n1,x7,.int i]=some [.bool (leI n n1&&(!anyK (fun j=>ltI (l.getD j default).id n) (l.length - i) i&&!anyK (fun j=>ltI (m.getD j default).id n) m.length 0))]:=by
 refine down ?_ fun i hi ih=>?_
 · have h:=e22003 m hm n n1 x0 x1 (pnsD l) x4 x7 (.int l.length) 0 (by omega)
   refine ev_by u22001 ?_
   simp only [t22001,go_sem,lm,ltI_irr,anyK_end,Bool.not_false,Bool.true_and]
   exact h
 · refine ev_by u22001 ?_
   simp only [t22001,go_sem,lm,idx_map _ _ _ hi,in_range hi,wrapS i (by omega),ih]
   rw [anyK_step _ hi,cond_lt (by omega)]
   cases ltI (l.getD i default).id n
   · rfl
   · rw [Bool.true_or,Bool.not_true,Bool.false_and,Bool.and_false]
     rfl
theorem e22000 {p:Pt} (h:LenP p):ev 22000 p.ds=some [.bool (growsB p)]:=by
 obtain ⟨h1,h2,h3,h4,h5⟩:=h
 show ev 22000 [pnsD p.rn,pesD p.re,pnsD p.an,pesD p.ae,pvsD p.vl,.int p.n0,.int p.n1]=_
 refine ev_by u22000 ?_
 simp only [t22000,go_sem]
 exact e22001 p.an h3 p.ae h4 p.n0 p.n1 _ _ _ _ 0 (by omega)
/-! ### What is asked of the arguments -/
theorem finS_ok {ns:List Nd} {es:List Ed} {a:List Pn} {b:List Pe} {n:Int} {y:Trk} (h:finS ns es a b n=.ok y):y=trkOf a b n∧trackErr ns es y=0:=by
 unfold finS at h
 split at h
 · rename_i h0
   cases h
   exact ⟨rfl,h0⟩
 · cases h
theorem finS_err {ns:List Nd} {es:List Ed} {a:List Pn} {b:List Pe} {n e:Int} (h:finS ns es a b n=.error e):e≠0:=by
 unfold finS at h
 split at h
 · cases h
 · cases h; omega
theorem restS_err {ns:List Nd} {es:List Ed} {a:List Pn} {b:List Pe} {p:Pt} {e:Int} (h:restS ns es a b p=.error e):e≠0:=by
 unfold restS at h
 split at h
 · cases h; omega
 · split at h
   · cases h; omega
   · exact finS_err h
theorem applyS_err {ns:List Nd} {es:List Ed} {x:Trk} {p:Pt} {e:Int} (h:applyS ns es x p=.error e):e≠0:=by
 unfold applyS at h
 split at h
 · unfold afterS at h
   split at h
   · split at h
     · exact restS_err h
     · cases h; omega
   · rename_i h0
     cases h
     exact h0
 · rename_i h0
   cases h
   exact h0
structure App (ns:List Nd) (es:List Ed) (x:Trk) (p:Pt) (y:Trk):Prop where
 track:trackErr ns es x=0
 shape:ShOk p
 at0:p.n0=x.next
 run:∃ q r,lessS (nodesOf x) (edgesOf x) p.rn p.re p.vl=some q∧addS q.1 q.2 p.an p.ae=some r∧y=trkOf r.1 r.2 p.n1
 valid:trackErr ns es y=0
theorem applyS_ok {ns:List Nd} {es:List Ed} {x:Trk} {p:Pt} {y:Trk} (h:applyS ns es x p=.ok y):App ns es x p y:=by
 unfold applyS at h
 split at h
 · rename_i h0
   unfold afterS at h
   split at h
   · rename_i h1
     split at h
     · rename_i h2
       unfold restS at h
       split at h
       · cases h
       · rename_i q hq
         split at h
         · cases h
         · rename_i r hr
           obtain ⟨h3,h4⟩:=finS_ok h
           exact ⟨h0,shape_ok h1,h2,⟨q,r,hq,hr,h3⟩,h4⟩
     · cases h
   · cases h
 · cases h
theorem App.next {ns:List Nd} {es:List Ed} {x:Trk} {p:Pt} {y:Trk} (h:App ns es x p y):y.next=p.n1∧0≤p.n1∧p.n1≤1000000:=by
 obtain ⟨q,r,_,_,rfl⟩:=h.run
 obtain ⟨_,_,_,_,_,h1,h2⟩:=trackErr_ok h.valid
 exact ⟨rfl,h1,h2⟩
def givenErr (ns:List Nd) (es:List Ed) (x:Trk) (p q:Pt):Int:=match applyS ns es x p with
 | .error e=>e
 | .ok _=>match applyS ns es x q with
  | .error e=>e
  | .ok _=>bif growsB p&&growsB q then (if 1000000 < p.n1+q.n1 - q.n0 then 6 else 0) else 8
section
variable {ns:List Nd} {es:List Ed} (ht:OkT ns es) {x:Trk} {p q:Pt} (h1:x.gn.length≤1000) (h2:x.ge.length≤1000) (h3:x.ns.length≤1000000) (h4:x.es.length≤1000000) (hp:LenP p) (hpv:ValP p) (hq:LenP q) (hqv:ValP q)
include ht h1 h2 h3 h4 hp hpv hq hqv
theorem sum_wrap {y z:Trk} (hy:applyS ns es x p=.ok y) (hz:applyS ns es x q=.ok z):IntKind.i64.wrap (IntKind.i64.wrap (p.n1+q.n1) - q.n0)=p.n1+q.n1 - q.n0:=by
 have a1:=applyS_ok hy
 have a2:=applyS_ok hz
 have b1:=a1.next
 have b2:=a2.next
 obtain ⟨_,_,_,_,_,c1,c2⟩:=trackErr_ok a2.track
 have:=a2.at0
 rw [nowrap (n:=p.n1+q.n1) (by omega) (by omega),nowrap (by omega) (by omega)]
theorem e500:ev 500 ([ndsD ns,edsD es]++x.ds++p.ds++q.ds)=some [.int (givenErr ns es x p q)]:=by
 have a1:=e600 ht h1 h2 h3 h4 hp hpv
 have a2:=e600 ht h1 h2 h3 h4 hq hqv
 replace a1:ev 600 [ndsD ns,edsD es,intsD x.gn,gesD x.ge,valsD x.vs,intsD x.ns,intsD x.es,.int x.next,pnsD p.rn,pesD p.re,pnsD p.an,pesD p.ae,pvsD p.vl,.int p.n0,.int p.n1]=_:=a1
 replace a2:ev 600 [ndsD ns,edsD es,intsD x.gn,gesD x.ge,valsD x.vs,intsD x.ns,intsD x.es,.int x.next,pnsD q.rn,pesD q.re,pnsD q.an,pesD q.ae,pvsD q.vl,.int q.n0,.int q.n1]=_:=a2
 show ev 500 [ndsD ns,edsD es,intsD x.gn,gesD x.ge,valsD x.vs,intsD x.ns,intsD x.es,.int x.next,pnsD p.rn,pesD p.re,pnsD p.an,pesD p.ae,pvsD p.vl,.int p.n0,.int p.n1,pnsD q.rn,pesD q.re,pnsD q.an,pesD q.ae,pvsD q.vl,.int q.n0,.int q.n1]=_
 have g1:=e10700 hp
 have g2:=e10700 hq
 replace g1:ev 10700 [pnsD p.rn,pesD p.re,pnsD p.an,pesD p.ae,pvsD p.vl,.int p.n0,.int p.n1]=_:=g1
 replace g2:ev 10700 [pnsD q.rn,pesD q.re,pnsD q.an,pesD q.ae,pvsD q.vl,.int q.n0,.int q.n1]=_:=g2
 have w1:IntKind.i64.wrap (0+1)=1:=by decide
 have w2:IntKind.i64.wrap (1+1)=2:=by decide
 have hc:∀ a:Int,eqI a a=true:=fun a=>eq_t rfl
 unfold givenErr
 have r0:(leI 0 0&&ltI 0 2)=true:=by decide
 have r1:(leI 0 1&&ltI 1 2)=true:=by decide
 have l0:ltI 0 2=true:=by decide
 have l1:ltI 1 2=true:=by decide
 have l2:ltI 2 2=false:=by decide
 have ll:((([D.agg p.ds,D.agg q.ds]:List D).length:Nat):Int)=2:=rfl
 cases hy:applyS ns es x p with
 | error e =>
  rw [hy] at a1
  replace a1:_=some [D.list [],D.list [],D.list [],D.list [],D.list [],D.int 0,D.int e]:=a1
  have he:=applyS_err hy
  refine ev_by u500 ?_
  simp only [t500,go_sem]
  refine ev_by u501 ?_
  simp only [t501,go_sem,l0,a1]
  rw [cond_in (by omega) (by simp),cond_ne he]
 | ok y =>
  rw [hy] at a1
  replace a1:_=some [intsD y.gn,gesD y.ge,valsD y.vs,intsD y.ns,intsD y.es,.int y.next,.int 0]:=a1
  cases hz:applyS ns es x q with
  | error e =>
   rw [hz] at a2
   replace a2:_=some [D.list [],D.list [],D.list [],D.list [],D.list [],D.int 0,D.int e]:=a2
   have he:=applyS_err hz
   refine ev_by u500 ?_
   simp only [t500,go_sem]
   refine ev_by u501 ?_
   simp only [t501,go_sem,l0,a1,hc,w1]
   rw [cond_in (by omega) (by simp)]
   refine ev_by u501 ?_
   simp only [t501,go_sem,l1,a2]
   rw [cond_in (by omega) (by simp),cond_ne he]
  | ok z =>
   rw [hz] at a2
   replace a2:_=some [intsD z.gn,gesD z.ge,valsD z.vs,intsD z.ns,intsD z.es,.int z.next,.int 0]:=a2
   have hw:=sum_wrap ht h1 h2 h3 h4 hp hpv hq hqv hy hz
   refine ev_by u500 ?_
   simp only [t500,go_sem]
   refine ev_by u501 ?_
   simp only [t501,go_sem,l0,a1,hc,w1]
   rw [cond_in (by omega) (by simp)]
   refine ev_by u501 ?_
   simp only [t501,go_sem,l1,a2,hc,w2]
   rw [cond_in (by omega) (by simp)]
   refine ev_by u501 ?_
   simp only [t501,go_sem,l2,g1,g2,hw]
   cases growsB p
   · rfl
   · cases growsB q
     · rfl
     · by_cases h6:1000000 < p.n1+q.n1 - q.n0
       · rw [cond_lt h6]
         simp [h6]
       · rw [cond_nlt (Int.not_lt.1 h6)]
         simp [h6]
theorem e17200:ev 17200 ([ndsD ns,edsD es]++x.ds++p.ds++q.ds)=some [.int (givenErr ns es x p q)]:=by
 have a1:=e17300 ht h1 h2 h3 h4 hp hpv
 have a2:=e17300 ht h1 h2 h3 h4 hq hqv
 replace a1:ev 17300 [ndsD ns,edsD es,intsD x.gn,gesD x.ge,valsD x.vs,intsD x.ns,intsD x.es,.int x.next,pnsD p.rn,pesD p.re,pnsD p.an,pesD p.ae,pvsD p.vl,.int p.n0,.int p.n1]=_:=a1
 replace a2:ev 17300 [ndsD ns,edsD es,intsD x.gn,gesD x.ge,valsD x.vs,intsD x.ns,intsD x.es,.int x.next,pnsD q.rn,pesD q.re,pnsD q.an,pesD q.ae,pvsD q.vl,.int q.n0,.int q.n1]=_:=a2
 show ev 17200 [ndsD ns,edsD es,intsD x.gn,gesD x.ge,valsD x.vs,intsD x.ns,intsD x.es,.int x.next,pnsD p.rn,pesD p.re,pnsD p.an,pesD p.ae,pvsD p.vl,.int p.n0,.int p.n1,pnsD q.rn,pesD q.re,pnsD q.an,pesD q.ae,pvsD q.vl,.int q.n0,.int q.n1]=_
 have g1:=e22000 hp
 have g2:=e22000 hq
 replace g1:ev 22000 [pnsD p.rn,pesD p.re,pnsD p.an,pesD p.ae,pvsD p.vl,.int p.n0,.int p.n1]=_:=g1
 replace g2:ev 22000 [pnsD q.rn,pesD q.re,pnsD q.an,pesD q.ae,pvsD q.vl,.int q.n0,.int q.n1]=_:=g2
 have hc:∀ a:Int,eqI a a=true:=fun a=>eq_t rfl
 unfold givenErr
 cases hy:applyS ns es x p with
 | error e =>
  rw [hy] at a1
  replace a1:_=some [D.list [],D.list [],D.list [],D.list [],D.list [],D.int 0,D.int e]:=a1
  have he:=applyS_err hy
  refine ev_by u17200 ?_
  simp only [t17200,go_sem,a1]
  rw [cond_ne he]
 | ok y =>
  rw [hy] at a1
  replace a1:_=some [intsD y.gn,gesD y.ge,valsD y.vs,intsD y.ns,intsD y.es,.int y.next,.int 0]:=a1
  cases hz:applyS ns es x q with
  | error e =>
   rw [hz] at a2
   replace a2:_=some [D.list [],D.list [],D.list [],D.list [],D.list [],D.int 0,D.int e]:=a2
   have he:=applyS_err hz
   refine ev_by u17200 ?_
   simp only [t17200,go_sem,a1,a2,hc]
   rw [cond_ne he]
  | ok z =>
   rw [hz] at a2
   replace a2:_=some [intsD z.gn,gesD z.ge,valsD z.vs,intsD z.ns,intsD z.es,.int z.next,.int 0]:=a2
   have hw:=sum_wrap ht h1 h2 h3 h4 hp hpv hq hqv hy hz
   refine ev_by u17200 ?_
   simp only [t17200,go_sem,a1,a2,hc,g1,g2,hw]
   cases growsB p
   · rfl
   · cases growsB q
     · rfl
     · by_cases h6:1000000 < p.n1+q.n1 - q.n0
       · rw [cond_lt h6]
         simp [h6]
       · rw [cond_nlt (Int.not_lt.1 h6)]
         simp [h6]
end
end Go.SX.T57
namespace Go.SX.T57
open Go.SX
abbrev cosD (l:List Co):D:=.list (l.map cD)
theorem anyK_any {α:Type} [Inhabited α] (f:α→Bool) (l:List α):∀ i,i≤l.length→anyK (fun j=>f (l.getD j default)) (l.length - i) i=(l.drop i).any f:=by
 refine down ?_ fun i hi ih=>?_
 · rw [List.drop_eq_nil_of_le (Nat.le_refl _),anyK_end]
   rfl
 · rw [anyK_step _ hi,ih,drop_step hi,List.any_cons]
def remB (p:Pt) (n:Int):Bool:=p.rn.any fun v=>eqI v.id n
def useB (p:Pt) (n:Int):Bool:=p.ae.any fun e=>eqI e.src n || eqI e.dst n
def goneB (p:Pt) (n:Int):Bool:=p.re.any fun v=>eqI v.id n
def isV (n a:Int) (v:Pv):Bool:=eqI v.id n&&eqI v.attr a
def findV (p:Pt) (n a:Int):Option Pv:=p.vl.find? (isV n a)
def hasV (p:Pt) (n a:Int):Bool:=p.vl.any (isV n a)
def valR:Option Pv→List D
 | some v=>[.int v.id,.int v.attr,.int v.old,.int v.new,.bool true]
 | none=>[.int 0,.int 0,.int 0,.int 0,.bool false]
theorem find_has (p:Pt) (n a:Int):(findV p n a).isSome=hasV p n a:=by
 unfold findV hasV
 rw [Bool.eq_iff_iff,List.find?_isSome,List.any_eq_true]
section
variable {p:Pt} (hp:LenP p)
include hp
theorem e22201 (n:Int) (x1 x2 x3 x4 x5 x6 x8:D):∀ i,i≤p.rn.length→ev 22201 [pnsD p.rn,x1,x2,x3,x4,x5,x6,.int n,x8,.int i]=some [.bool ((p.rn.drop i).any fun v=>eqI v.id n)]:=by
 have h1:=hp.1
 refine down ?_ fun i hi ih=>?_
 · rw [List.drop_eq_nil_of_le (Nat.le_refl _)]
   refine ev_by u22201 ?_
   simp only [t22201,go_sem,lm,ltI_irr,List.any_nil]
 · rw [drop_step hi,List.any_cons]
   refine ev_by u22201 ?_
   simp only [t22201,go_sem,lm,idx_map _ _ _ hi,in_range hi,wrapS i (by omega),ih]
   rw [cond_lt (by omega)]
   cases eqI (p.rn.getD i default).id n <;> rfl
theorem e22200 (n:Int):ev 22200 [pnsD p.rn,pesD p.re,pnsD p.an,pesD p.ae,pvsD p.vl,.int p.n0,.int p.n1,.int n]=some [.bool (remB p n)]:=by
 refine ev_by u22200 ?_
 simp only [t22200,go_sem]
 exact e22201 hp n _ _ _ _ _ _ _ 0 (by omega)
theorem e22301 (n:Int) (x0 x1 x2 x4 x5 x6 x8:D):∀ i,i≤p.ae.length→ev 22301 [x0,x1,x2,pesD p.ae,x4,x5,x6,.int n,x8,.int i]=some [.bool ((p.ae.drop i).any fun e=>eqI e.src n || eqI e.dst n)]:=by
 have h1:=hp.2.2.2.1
 refine down ?_ fun i hi ih=>?_
 · rw [List.drop_eq_nil_of_le (Nat.le_refl _)]
   refine ev_by u22301 ?_
   simp only [t22301,go_sem,lm,ltI_irr,List.any_nil]
 · rw [drop_step hi,List.any_cons]
   refine ev_by u22301 ?_
   simp only [t22301,go_sem,lm,idx_map _ _ _ hi,in_range hi,wrapS i (by omega),ih]
   rw [cond_lt (by omega)]
   cases eqI (p.ae.getD i default).src n
   · cases eqI (p.ae.getD i default).dst n <;> rfl
   · rfl
theorem e22300 (n:Int):ev 22300 [pnsD p.rn,pesD p.re,pnsD p.an,pesD p.ae,pvsD p.vl,.int p.n0,.int p.n1,.int n]=some [.bool (useB p n)]:=by
 refine ev_by u22300 ?_
 simp only [t22300,go_sem]
 exact e22301 hp n _ _ _ _ _ _ _ 0 (by omega)
theorem e22901 (n:Int) (x0 x2 x3 x4 x5 x6 x8:D):∀ i,i≤p.re.length→ev 22901 [x0,pesD p.re,x2,x3,x4,x5,x6,.int n,x8,.int i]=some [.bool ((p.re.drop i).any fun v=>eqI v.id n)]:=by
 have h1:=hp.2.1
 refine down ?_ fun i hi ih=>?_
 · rw [List.drop_eq_nil_of_le (Nat.le_refl _)]
   refine ev_by u22901 ?_
   simp only [t22901,go_sem,lm,ltI_irr,List.any_nil]
 · rw [drop_step hi,List.any_cons]
   refine ev_by u22901 ?_
   simp only [t22901,go_sem,lm,idx_map _ _ _ hi,in_range hi,wrapS i (by omega),ih]
   rw [cond_lt (by omega)]
   cases eqI (p.re.getD i default).id n <;> rfl
theorem e22900 (n:Int):ev 22900 [pnsD p.rn,pesD p.re,pnsD p.an,pesD p.ae,pvsD p.vl,.int p.n0,.int p.n1,.int n]=some [.bool (goneB p n)]:=by
 refine ev_by u22900 ?_
 simp only [t22900,go_sem]
 exact e22901 hp n _ _ _ _ _ _ _ 0 (by omega)
theorem e22401 (n a:Int) (x0 x1 x2 x3 x5 x6 x9 x11 x12 x13 x14:D):∀ i,i≤p.vl.length→ev 22401 [x0,x1,x2,x3,pvsD p.vl,x5,x6,.int n,.int a,x9,.int i,x11,x12,x13,x14]=some (valR ((p.vl.drop i).find? (isV n a))):=by
 have h1:=hp.2.2.2.2
 refine down ?_ fun i hi ih=>?_
 · rw [List.drop_eq_nil_of_le (Nat.le_refl _)]
   refine ev_by u22401 ?_
   simp only [t22401,go_sem,lm,ltI_irr]
   rfl
 · rw [drop_step hi,List.find?_cons]
   refine ev_by u22401 ?_
   simp only [t22401,go_sem,lm,idx_map _ _ _ hi,in_range hi,wrapS i (by omega),ih]
   rw [cond_lt (by omega)]
   unfold isV
   cases eqI (p.vl.getD i default).id n
   · rfl
   · cases eqI (p.vl.getD i default).attr a <;> rfl
theorem e22400 (n a:Int):ev 22400 [pnsD p.rn,pesD p.re,pnsD p.an,pesD p.ae,pvsD p.vl,.int p.n0,.int p.n1,.int n,.int a]=some (valR (findV p n a)):=by
 refine ev_by u22400 ?_
 simp only [t22400,go_sem]
 exact e22401 hp n a _ _ _ _ _ _ _ _ _ _ _ 0 (by omega)
end
/-! ### The lists -/
def hit1 (p q:Pt) (n:Int):Bool:=(remB p n&&useB q n) || (remB q n&&useB p n)
def col1 (x:Trk) (p q:Pt):List Co:=(x.ns.filter (hit1 p q)).map fun n=>(1,n,-1)
def hit2 (p q:Pt) (n:Int) (j:Nat):Bool:=(remB p n&&hasV q n j) || (remB q n&&hasV p n j)
def row2 (x:Trk) (p q:Pt) (i:Nat):List Co:=((List.range (x.vs.getD i default).length).filter (hit2 p q (x.ns.getD i default))).map fun (j:Nat)=>((2,x.ns.getD i default,(j:Int)):Co)
def col2 (x:Trk) (p q:Pt):List Co:=(List.range x.ns.length).flatMap (row2 x p q)
def hit3 (q:Pt) (a:Pv):Bool:=match findV q a.id a.attr with
 | some v=>!eqI v.new a.new
 | none=>false
def col3 (p q:Pt):List Co:=(p.vl.filter (hit3 q)).map fun a=>(3,a.id,a.attr)
def colS (x:Trk) (p q:Pt):List Co:=col1 x p q++(col2 x p q++col3 p q)
theorem filter_drop {α:Type} [Inhabited α] {f:α→Bool} {l:List α} {i:Nat} (h:i < l.length):(l.drop i).filter f=(bif f (l.getD i default) then [l.getD i default] else [])++(l.drop (i+1)).filter f:=by
 rw [drop_step h,List.filter_cons]
 cases f (l.getD i default) <;> simp
theorem rng_drop {n i:Nat} (h:i < n):(List.range n).drop i=i::(List.range n).drop (i+1):=by
 rw [drop_step (by simpa using h),List.getD_eq_getElem?_getD,List.getElem?_range h]
 rfl
section
variable {x:Trk} {p q:Pt} (hs:Sane x) (hp:LenP p) (hq:LenP q)
include hs hp hq
theorem e22107 (x0 x1 x2 x3 x4 x5 x6 x7 x8 x9 x10 x11 x12 x13 x14 x15 x16 x17 x18 x19 x20 x21 x22 x23 x24 x25 x26 x28 x29:D):∀ i,i≤p.vl.length→∀ acc:List Co,acc.length+(p.vl.length - i)≤1073741824 →
 ev 22107 [x0,x1,x2,x3,x4,x5,x6,x7,x8,x9,x10,x11,x12,x13,x14,x15,x16,x17,x18,x19,x20,x21,.int i,x23,x24,x25,x26,pvsD p.vl,x28,x29,pnsD q.rn,pesD q.re,pnsD q.an,pesD q.ae,pvsD q.vl,.int q.n0,.int q.n1,cosD acc]=some [cosD (acc++((p.vl.drop i).filter (hit3 q)).map fun a=>(3,a.id,a.attr))]:=by
 have h1:=hp.2.2.2.2
 refine down ?_ fun i hi ih=>?_
 · intro acc ha
   rw [List.drop_eq_nil_of_le (Nat.le_refl _)]
   refine ev_by u22107 ?_
   simp only [t22107,go_sem,lm,ltI_irr,List.filter_nil,List.map_nil,List.append_nil]
 · intro acc ha
   have hv:=e22400 hq (p.vl.getD i default).id (p.vl.getD i default).attr
   rw [filter_drop hi]
   have hh:hit3 q (p.vl.getD i default)=match findV q (p.vl.getD i default).id (p.vl.getD i default).attr with
    | some v=>!eqI v.new (p.vl.getD i default).new
    | none=>false:=rfl
   cases hf:findV q (p.vl.getD i default).id (p.vl.getD i default).attr with
   | none =>
    rw [hf] at hv hh
    replace hh:hit3 q (p.vl.getD i default)=false:=hh
    rw [hh]
    replace hv:_=some [D.int 0,D.int 0,D.int 0,D.int 0,D.bool false]:=hv
    have h:=ih acc (by omega)
    refine ev_by u22107 ?_
    simp only [t22107,go_sem,lm,idx_map _ _ _ hi,in_range hi,wrapS i (by omega),hv]
    rw [cond_lt (by omega)]
    exact h
   | some v =>
    rw [hf] at hv hh
    replace hv:_=some [D.int v.id,D.int v.attr,D.int v.old,D.int v.new,D.bool true]:=hv
    replace hh:hit3 q (p.vl.getD i default)=!eqI v.new (p.vl.getD i default).new:=hh
    rw [hh]
    by_cases he:v.new=(p.vl.getD i default).new
    · rw [eq_t he]
      have h:=ih acc (by omega)
      refine ev_by u22107 ?_
      simp only [t22107,go_sem,lm,idx_map _ _ _ hi,in_range hi,wrapS i (by omega),hv]
      rw [cond_lt (by omega),cond_eq he]
      exact h
    · rw [eq_f he]
      have h:=ih (acc++[(3,(p.vl.getD i default).id,(p.vl.getD i default).attr)]) (by simp; omega)
      have e1:acc.map cD++[.agg [.int 3,.int (p.vl.getD i default).id,.int (p.vl.getD i default).attr]]=(acc++[((3:Int),(p.vl.getD i default).id,(p.vl.getD i default).attr)]).map cD:=by simp [cD]
      refine ev_by u22107 ?_
      simp only [t22107,go_sem,lm,idx_map _ _ _ hi,in_range hi,wrapS i (by omega),hv,le_ok (show acc.length≤1073741824 by omega),e1]
      rw [cond_lt (by omega),cond_ne he]
      refine h.trans ?_
      rw [List.append_assoc]
      rfl
theorem e22105 (x0 x1 x3 x4 x5 x6 x7 x8 x9 x10 x11 x12 x13 x14 x15 x16 x17 x18 x19 x20:D) {k:Nat} (hk:k < x.ns.length):∀ j,j≤(x.vs.getD k default).length→∀ acc:List Co,acc.length+((x.vs.getD k default).length - j)≤1073741824 →
 ev 22105 [x0,x1,valsD x.vs,x3,x4,x5,x6,x7,x8,x9,x10,x11,x12,x13,x14,x15,x16,x17,x18,x19,x20,.int k,.int (x.ns.getD k default),.int j,pnsD p.rn,pesD p.re,pnsD p.an,pesD p.ae,pvsD p.vl,.int p.n0,.int p.n1,pnsD q.rn,pesD q.re,pnsD q.an,pesD q.ae,pvsD q.vl,.int q.n0,.int q.n1,cosD acc] =
 ev 22103 [x0,x1,valsD x.vs,x3,x4,x5,x6,x7,x8,x9,x10,x11,x12,x13,x14,x15,x16,x17,x18,x19,x20,.int (k+1:Nat),pnsD p.rn,pesD p.re,pnsD p.an,pesD p.ae,pvsD p.vl,.int p.n0,.int p.n1,pnsD q.rn,pesD q.re,pnsD q.an,pesD q.ae,pvsD q.vl,.int q.n0,.int q.n1,cosD (acc++(((List.range (x.vs.getD k default).length).drop j).filter (hit2 p q (x.ns.getD k default))).map fun (j:Nat)=>((2,x.ns.getD k default,(j:Int)):Co))]:=by
 have hn3:=hs.n3
 have hkv:k < x.vs.length:=by have:=hs.n2; omega
 have hvl:=hs.vl k hk
 refine down ?_ fun j hj ih=>?_
 · intro acc ha
   rw [List.drop_eq_nil_of_le (by simp)]
   rw [List.filter_nil,List.map_nil,List.append_nil]
   rw [ev_eq u22105 rfl]
   simp only [t22105,go_sem,lm,ltI_irr,idx_map _ _ _ hkv,in_range hkv,wrapS k (by omega)]
 · intro acc ha
   rw [rng_drop hj,List.filter_cons]
   have hv1:=e22400 hp (x.ns.getD k default) j
   have hv2:=e22400 hq (x.ns.getD k default) j
   have hr1:=e22200 hp (x.ns.getD k default)
   have hr2:=e22200 hq (x.ns.getD k default)
   have f1:=find_has p (x.ns.getD k default) j
   have f2:=find_has q (x.ns.getD k default) j
   obtain ⟨a1,a2,a3,a4,hv1⟩ : ∃ a1 a2 a3 a4,ev 22400 [pnsD p.rn,pesD p.re,pnsD p.an,pesD p.ae,pvsD p.vl,.int p.n0,.int p.n1,.int (x.ns.getD k default),.int j]=some [.int a1,.int a2,.int a3,.int a4,.bool (hasV p (x.ns.getD k default) j)]:=by
    rw [hv1,←f1]
    cases findV p (x.ns.getD k default) j <;> exact ⟨_,_,_,_,rfl⟩
   obtain ⟨b1,b2,b3,b4,hv2⟩ : ∃ a1 a2 a3 a4,ev 22400 [pnsD q.rn,pesD q.re,pnsD q.an,pesD q.ae,pvsD q.vl,.int q.n0,.int q.n1,.int (x.ns.getD k default),.int j]=some [.int a1,.int a2,.int a3,.int a4,.bool (hasV q (x.ns.getD k default) j)]:=by
    rw [hv2,←f2]
    cases findV q (x.ns.getD k default) j <;> exact ⟨_,_,_,_,rfl⟩
   have e1:acc.map cD++[.agg [.int 2,.int (x.ns.getD k default),.int j]]=(acc++[((2:Int),x.ns.getD k default,(j:Int))]).map cD:=by simp [cD]
   have e2:∀ l:List Nat,acc++(j::l).map (fun (j:Nat)=>((2,x.ns.getD k default,(j:Int)):Co))=(acc++[((2:Int),x.ns.getD k default,(j:Int))])++l.map (fun (j:Nat)=>((2,x.ns.getD k default,(j:Int)):Co)):=fun l=>by simp
   have hyes:=ih (acc++[((2:Int),x.ns.getD k default,(j:Int))]) (by rw [List.length_append,List.length_singleton]; omega)
   have hlk:=le_ok (show acc.length≤1073741824 by omega)
   cases c1:remB p (x.ns.getD k default) <;> cases c2:remB q (x.ns.getD k default) <;> cases c3:hasV p (x.ns.getD k default) j <;> cases c4:hasV q (x.ns.getD k default) j <;>
    rw [c1] at hr1 <;> rw [c2] at hr2 <;> rw [c3] at hv1 <;> rw [c4] at hv2 <;>
    (first
      | (rw [if_neg (show ¬ hit2 p q (x.ns.getD k default) j=true by (unfold hit2; rw [c1,c2,c3,c4]; exact Bool.false_ne_true))]
         refine Eq.trans ?_ (ih acc (by omega))
         rw [ev_eq u22105 rfl]
         simp only [t22105,go_sem,lm,idx_map _ _ _ hkv,in_range hkv,hv1,hv2,hr1,hr2,wrapS j (by omega)]
         rw [cond_lt (by omega)])
      | (rw [if_pos (show hit2 p q (x.ns.getD k default) j=true by (unfold hit2; rw [c1,c2,c3,c4] <;> rfl)),e2]
         refine Eq.trans ?_ hyes
         rw [ev_eq u22105 rfl]
         simp only [t22105,go_sem,lm,idx_map _ _ _ hkv,in_range hkv,hv1,hv2,hr1,hr2,wrapS j (by omega),hlk,e1]
         rw [cond_lt (by omega)]))
end
end Go.SX.T57
