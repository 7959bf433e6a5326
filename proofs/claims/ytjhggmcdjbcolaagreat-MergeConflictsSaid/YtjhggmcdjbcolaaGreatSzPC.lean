/-
Chapter 57, plain: the specification's collisions, joined; lists of collisions put in order by the program.
-/
import Derived.Test.YtjhggmcdjbcolaaGreatSzPB
set_option linter.unusedVariables false
set_option linter.unusedSimpArgs false
set_option linter.unusedSectionVars false
namespace Go.SX.T57
open Go.SX
section
variable {x:Trk} {p q:Pt} (hs:Sane x) (hv8:∀ j,j < x.ns.length→(x.vs.getD j default).length≤8) (hp:LenP p) (hq:LenP q)
include hs hv8 hp hq
theorem e22103 (x0 x1 x4 x5 x6 x7 x8 x9 x10 x11 x12 x13 x14 x15 x16 x17 x18 x19 x20:D):∀ i,i≤x.ns.length→∀ acc:List Co,acc.length≤40+8 * i →
 ev 22103 [x0,x1,valsD x.vs,intsD x.ns,x4,x5,x6,x7,x8,x9,x10,x11,x12,x13,x14,x15,x16,x17,x18,x19,x20,.int i,pnsD p.rn,pesD p.re,pnsD p.an,pesD p.ae,pvsD p.vl,.int p.n0,.int p.n1,pnsD q.rn,pesD q.re,pnsD q.an,pesD q.ae,pvsD q.vl,.int q.n0,.int q.n1,cosD acc]=some [cosD (acc++(((List.range x.ns.length).drop i).flatMap (row2 x p q)++col3 p q))]:=by
 have hn3:=hs.n3
 have hl5:=hp.2.2.2.2
 refine down ?_ fun i hi ih=>?_
 · intro acc ha
   rw [List.drop_eq_nil_of_le (by simp),List.flatMap_nil,List.nil_append]
   have h:=e22107 hs hp hq x0 x1 (valsD x.vs) (intsD x.ns) x4 x5 x6 x7 x8 x9 x10 x11 x12 x13 x14 x15 x16 x17 x18 x19 x20 (.int x.ns.length) (.int 0) (pnsD p.rn) (pesD p.re) (pnsD p.an) (pesD p.ae) (.int p.n0) (.int p.n1) 0 (by omega) acc (by omega)
   rw [List.drop_zero] at h
   refine ev_by u22103 ?_
   simp only [t22103,go_sem,lm,ltI_irr]
   exact h
 · intro acc ha
   have h8:=hv8 i hi
   have h:=e22105 hs hp hq x0 x1 (intsD x.ns) x4 x5 x6 x7 x8 x9 x10 x11 x12 x13 x14 x15 x16 x17 x18 x19 x20 hi 0 (by omega) acc (by omega)
   rw [List.drop_zero] at h
   have hr:(row2 x p q i).length≤8:=by
    unfold row2
    rw [lm]
    refine Nat.le_trans (List.length_filter_le _ _) ?_
    rw [List.length_range]
    exact h8
   have h2:=ih (acc++row2 x p q i) (by rw [List.length_append]; omega)
   rw [rng_drop hi,List.flatMap_cons]
   rw [List.append_assoc] at h2 ⊢
   have key:ev 22103 [x0,x1,valsD x.vs,intsD x.ns,x4,x5,x6,x7,x8,x9,x10,x11,x12,x13,x14,x15,x16,x17,x18,x19,x20,.int i,pnsD p.rn,pesD p.re,pnsD p.an,pesD p.ae,pvsD p.vl,.int p.n0,.int p.n1,pnsD q.rn,pesD q.re,pnsD q.an,pesD q.ae,pvsD q.vl,.int q.n0,.int q.n1,cosD acc]=ev 22105 [x0,x1,valsD x.vs,intsD x.ns,x4,x5,x6,x7,x8,x9,x10,x11,x12,x13,x14,x15,x16,x17,x18,x19,x20,.int i,.int (x.ns.getD i default),.int (0:Nat),pnsD p.rn,pesD p.re,pnsD p.an,pesD p.ae,pvsD p.vl,.int p.n0,.int p.n1,pnsD q.rn,pesD q.re,pnsD q.an,pesD q.ae,pvsD q.vl,.int q.n0,.int q.n1,cosD acc]:=by
    rw [ev_eq u22103 rfl]
    simp only [t22103,go_sem,lm,idx_map _ _ _ hi,in_range hi]
    rw [cond_lt (by omega)]
    rfl
   rw [key,h]
   exact h2
set_option maxHeartbeats 2000000 in
theorem e22101 (x0 x1 x4 x5 x6 x7 x8 x9 x10 x11 x12 x13 x14 x15 x16 x17 x18 x19:D):∀ i,i≤x.ns.length→∀ acc:List Co,acc.length≤i →
 ev 22101 [x0,x1,valsD x.vs,intsD x.ns,x4,x5,x6,x7,x8,x9,x10,x11,x12,x13,x14,x15,x16,x17,x18,x19,.int i,pnsD p.rn,pesD p.re,pnsD p.an,pesD p.ae,pvsD p.vl,.int p.n0,.int p.n1,pnsD q.rn,pesD q.re,pnsD q.an,pesD q.ae,pvsD q.vl,.int q.n0,.int q.n1,cosD acc]=some [cosD (acc++((((x.ns.drop i).filter (hit1 p q)).map fun n=>(1,n,-1))++(col2 x p q++col3 p q)))]:=by
 have hn3:=hs.n3
 refine down ?_ fun i hi ih=>?_
 · intro acc ha
   rw [List.drop_eq_nil_of_le (Nat.le_refl _),List.filter_nil,List.map_nil,List.nil_append]
   have h:=e22103 hs hv8 hp hq x0 x1 x4 x5 x6 x7 x8 x9 x10 x11 x12 x13 x14 x15 x16 x17 x18 x19 (.int x.ns.length) 0 (by omega) acc (by omega)
   rw [List.drop_zero] at h
   refine ev_by u22101 ?_
   simp only [t22101,go_sem,lm,ltI_irr]
   exact h
 · intro acc ha
   rw [drop_step hi,List.filter_cons]
   have hr1:=e22200 hp (x.ns.getD i default)
   have hr2:=e22200 hq (x.ns.getD i default)
   have hu1:=e22300 hp (x.ns.getD i default)
   have hu2:=e22300 hq (x.ns.getD i default)
   have e1:acc.map cD++[.agg [.int 1,.int (x.ns.getD i default),.int (-1)]]=(acc++[((1:Int),x.ns.getD i default,(-1:Int))]).map cD:=by simp [cD]
   have e2:∀ (l:List Int) (m:List Co),acc++((x.ns.getD i default::l).map (fun n=>((1,n,-1):Co))++m)=(acc++[((1:Int),x.ns.getD i default,(-1:Int))])++(l.map (fun n=>((1,n,-1):Co))++m):=fun l m=>by simp
   have hyes:=ih (acc++[((1:Int),x.ns.getD i default,(-1:Int))]) (by rw [List.length_append,List.length_singleton]; omega)
   have hlk:=le_ok (show acc.length≤1073741824 by omega)
   cases c1:remB p (x.ns.getD i default) <;> cases c2:remB q (x.ns.getD i default) <;> cases c3:useB p (x.ns.getD i default) <;> cases c4:useB q (x.ns.getD i default) <;>
    rw [c1] at hr1 <;> rw [c2] at hr2 <;> rw [c3] at hu1 <;> rw [c4] at hu2 <;>
    (first
      | (rw [if_neg (show ¬ hit1 p q (x.ns.getD i default)=true by (unfold hit1; rw [c1,c2,c3,c4]; exact Bool.false_ne_true))]
         refine Eq.trans ?_ (ih acc (by omega))
         rw [ev_eq u22101 rfl]
         simp only [t22101,go_sem,lm,idx_map _ _ _ hi,in_range hi,hr1,hr2,hu1,hu2,wrapS i (by omega)]
         rw [cond_lt (by omega)])
      | (rw [if_pos (show hit1 p q (x.ns.getD i default)=true by (unfold hit1; rw [c1,c2,c3,c4] <;> rfl)),e2]
         refine Eq.trans ?_ hyes
         rw [ev_eq u22101 rfl]
         simp only [t22101,go_sem,lm,idx_map _ _ _ hi,in_range hi,hr1,hr2,hu1,hu2,wrapS i (by omega),hlk,e1]
         rw [cond_lt (by omega)]))
theorem e22100:ev 22100 (x.ds++p.ds++q.ds)=some [cosD (colS x p q)]:=by
 have h:=e22101 hs hv8 hp hq (intsD x.gn) (gesD x.ge) (intsD x.es) (.int x.next) (pnsD p.rn) (pesD p.re) (pnsD p.an) (pesD p.ae) (pvsD p.vl) (.int p.n0) (.int p.n1) (pnsD q.rn) (pesD q.re) (pnsD q.an) (pesD q.ae) (pvsD q.vl) (.int q.n0) (.int q.n1) 0 (by omega) [] (Nat.zero_le _)
 rw [List.drop_zero,List.nil_append] at h
 show ev 22100 [intsD x.gn,gesD x.ge,valsD x.vs,intsD x.ns,intsD x.es,.int x.next,pnsD p.rn,pesD p.re,pnsD p.an,pesD p.ae,pvsD p.vl,.int p.n0,.int p.n1,pnsD q.rn,pesD q.re,pnsD q.an,pesD q.ae,pvsD q.vl,.int q.n0,.int q.n1]=_
 refine ev_by u22100 ?_
 simp only [t22100,go_sem]
 exact h
end
/-! ### Sorted, and each once -/
def ndF (a:Co):List Co→List Co
 | []=>[]
 | b::r=>if b=a then ndF b r else b::ndF b r
def dd:List Co→List Co
 | []=>[]
 | a::r=>a::ndF a r
theorem co_eq (a b:Co):(eqI a.1 b.1&&(eqI a.2.1 b.2.1&&eqI a.2.2 b.2.2))=decide (a=b):=by
 obtain ⟨a1,a2,a3⟩:=a
 obtain ⟨b1,b2,b3⟩:=b
 rw [Bool.eq_iff_iff]
 simp only [Bool.and_eq_true,eqI_iff,decide_eq_true_eq,Prod.mk.injEq]
theorem c_cells (c:Co):cD c=.agg [.int c.1,.int c.2.1,.int c.2.2]:=rfl
theorem e12103 (l:List Co) (hl:l.length≤1000000) (y:D) (off:Nat):∀ m,m≤l.length→off < m→∀ (s:List Co) (w:Nat),s.length=l.length→w≤m - 1→s.drop (m - 1)=l.drop (m - 1) →
 ev 12103 [.int w,.int off,.int ((m - off:Nat):Int),cosD s,y]=some [cosD (s.take w++ndF (l.getD (m - 1) default) (l.drop m))]:=by
 refine down ?_ fun m hm ih=>?_
 · intro hoff s w hs hw hd
   rw [List.drop_eq_nil_of_le (Nat.le_refl _),ndF,List.append_nil]
   refine ev_by u12103 ?_
   simp only [t12103,go_sem,lm,hs,nowrap (n:=(l.length:Int) - off) (by omega) (by omega),Int.toNat_natCast]
   rw [cond_nlt (by omega),cond_le (by omega),cond_le (by omega),cond_le (by omega),cond_le (by simp [List.length_take,hs]; omega)]
   rw [List.take_append_of_le_length (by simp [hs]; omega),List.take_take,Nat.min_self,←List.map_take]
 · intro hoff s w hs hw hd
   have g0:m - 1 < l.length:=by omega
   have s0:m - 1 < s.length:=by omega
   have s1:m < s.length:=by omega
   have q0:s.getD (m - 1) default=l.getD (m - 1) default:=by
    have:=congrArg (fun z=>z.getD 0 default) hd
    simpa [List.getD_eq_getElem?_getD,List.getElem?_drop] using this
   have q1:s.getD m default=l.getD m default:=by
    have:=congrArg (fun z=>z.getD 1 default) hd
    have e:m - 1+1=m:=by omega
    simpa [List.getD_eq_getElem?_getD,List.getElem?_drop,e] using this
   have hd1:s.drop m=l.drop m:=by
    have:=congrArg (fun z=>z.drop 1) hd
    have e:m - 1+1=m:=by omega
    simpa [List.drop_drop,e] using this
   have w1:IntKind.i64.wrap ((off:Int)+((m - off:Nat):Int))=(m:Int):=by rw [nowrap (by omega) (by omega)]; omega
   have w2:IntKind.i64.wrap (((m - off:Nat):Int) - 1)=((m - off - 1:Nat):Int):=by rw [nowrap (by omega) (by omega)]; omega
   have w3:IntKind.i64.wrap ((off:Int)+((m - off - 1:Nat):Int))=((m - 1:Nat):Int):=by rw [nowrap (by omega) (by omega)]; omega
   have w4:IntKind.i64.wrap (((m - off:Nat):Int)+1)=((m+1 - off:Nat):Int):=by rw [nowrap (by omega) (by omega)]; omega
   have r1:(leI 0 ((m - off:Nat):Int)&&ltI ((m - off:Nat):Int) ((l.length:Int) - off))=true:=by rw [le_t (by omega),lt_t (by omega)]; rfl
   have r2:(leI 0 ((m - off - 1:Nat):Int)&&ltI ((m - off - 1:Nat):Int) ((l.length:Int) - off))=true:=by rw [le_t (by omega),lt_t (by omega)]; rfl
   rw [drop_step hm,ndF]
   by_cases he:l.getD m default=l.getD (m - 1) default
   · have hc:=co_eq (l.getD m default) (l.getD (m - 1) default)
     rw [decide_eq_true he] at hc
     rw [if_pos he]
     have h:=ih (by omega) s w hs (by omega) (by rw [Nat.add_sub_cancel]; exact hd1)
     rw [Nat.add_sub_cancel] at h
     refine ev_by u12103 ?_
     simp only [t12103,go_sem,lm,hs,nowrap (n:=(l.length:Int) - off) (by omega) (by omega),w1,w2,w3,w4,r1,r2,idx_map _ _ _ s0,idx_map _ _ _ s1,q0,q1,hc,c_cells]
     rw [cond_lt (by omega)]
     exact h
   · have hc:=co_eq (l.getD m default) (l.getD (m - 1) default)
     rw [decide_eq_false he] at hc
     rw [if_neg he]
     have hw' : w < s.length:=by omega
     have h:=ih (by omega) (s.set w (l.getD m default)) (w+1) (by rw [List.length_set,hs]) (by omega) (by
      rw [Nat.add_sub_cancel,List.drop_set,if_pos (by omega)]
      exact hd1)
     rw [Nat.add_sub_cancel] at h
     have e1:(s.map cD).set w (.agg [.int (l.getD m default).1,.int (l.getD m default).2.1,.int (l.getD m default).2.2])=(s.set w (l.getD m default)).map cD:=by
      rw [←map_set' cD]
      rfl
     have e2:(s.set w (l.getD m default)).take (w+1)=s.take w++[l.getD m default]:=by
      rw [List.take_succ_eq_append_getElem (by rw [List.length_set]; exact hw'),List.getElem_set_self,List.take_set_of_le (Nat.le_refl _)]
     rw [e2,List.append_assoc,List.singleton_append] at h
     refine ev_by u12103 ?_
     simp only [t12103,go_sem,lm,hs,nowrap (n:=(l.length:Int) - off) (by omega) (by omega),w1,w2,w3,w4,r1,r2,idx_map _ _ _ s0,idx_map _ _ _ s1,q0,q1,hc,c_cells,in_range (show w < l.length by omega),wrapS w (by omega),e1]
     rw [cond_lt (by omega)]
     exact h
theorem e12101 (l:List Co) (hl:l.length≤1000000) (y:D):∀ i,i≤l.length→1≤i→ev 12101 [.int i,cosD l,y]=some [cosD (l.take i++ndF (l.getD (i - 1) default) (l.drop i))]:=by
 refine down ?_ fun i hi ih=>?_
 · intro h1
   rw [List.drop_eq_nil_of_le (Nat.le_refl _),List.take_length,ndF,List.append_nil]
   refine ev_by u12101 ?_
   simp only [t12101,go_sem,lm,ltI_irr]
 · intro h1
   have hp:i - 1 < l.length:=by omega
   have hc:=co_eq (l.getD i default) (l.getD (i - 1) default)
   rw [drop_step hi,ndF]
   by_cases he:l.getD i default=l.getD (i - 1) default
   · rw [decide_eq_true he] at hc
     rw [if_pos he]
     have h:=e12103 l hl y i (i+1) (by omega) (by omega) l i rfl (by omega) rfl
     rw [Nat.add_sub_cancel,show i+1 - i=1 by omega] at h
     refine ev_by u12101 ?_
     simp only [t12101,go_sem,lm,idx_map _ _ _ hi,idx_map _ _ _ hp,in_range hi,in_range hp,wrapP h1 (by omega),hc,c_cells]
     rw [cond_lt (by omega),cond_le (by omega),cond_le (by omega)]
     exact h
   · rw [decide_eq_false he] at hc
     rw [if_neg he]
     have h:=ih (by omega)
     rw [Nat.add_sub_cancel,List.take_succ_eq_append_getElem hi,←getD_get hi,List.append_assoc,List.singleton_append] at h
     refine ev_by u12101 ?_
     simp only [t12101,go_sem,lm,idx_map _ _ _ hi,idx_map _ _ _ hp,in_range hi,in_range hp,wrapP h1 (by omega),wrapS i (by omega),hc,c_cells]
     rw [cond_lt (by omega)]
     exact h
theorem e12100 (l:List Co) (hl:l.length≤1000000):ev 12100 [cosD l]=some [cosD (dd l)]:=by
 match l,hl with
 | [],_ =>
  refine ev_by u12100 ?_
  simp only [t12100,go_sem]
  rfl
 | [a],_ =>
  refine ev_by u12100 ?_
  simp only [t12100,go_sem]
  rfl
 | a::b::r,hl =>
  have h:=e12101 (a::b::r) hl (.list []) 1 (by simp) (Nat.le_refl _)
  refine ev_by u12100 ?_
  simp only [t12100,go_sem,lm]
  rw [cond_nlt (by simp; omega)]
  exact h
theorem ndF_ok:∀ (r:List Co) (a:Co),(∀ b,b∈r→b.1=a.1)→(a::r).Pairwise (fun x y=>ltC y x=false)→(a::ndF a r).Pairwise (fun x y=>ltC x y=true)∧∀ c,c∈a::ndF a r ↔ c∈a::r
 | [],a,_,_=>⟨by simp [ndF],fun c=>by simp [ndF]⟩
 | b::r,a,hk,h=>by
  have h1:=List.pairwise_cons.1 h
  have h2:=List.pairwise_cons.1 h1.2
  have hb:=hk b (by simp)
  obtain ⟨ih1,ih2⟩:=ndF_ok r b (fun c hc=>by rw [hk c (by simp [hc]),hb]) h1.2
  rw [ndF]
  by_cases he:b=a
  · rw [if_pos he]
    subst he
    refine ⟨ih1,fun c=>?_⟩
    rw [ih2 c]
    simp
  · rw [if_neg he]
    have hab:ltC a b=true:=by
     have:=h1.1 b (by simp)
     rw [ltC_false] at this
     rw [ltC_iff]
     have hne:¬ (a.2.1=b.2.1∧a.2.2=b.2.2):=by
      rintro ⟨g1,g2⟩
      exact he (Prod.ext hb (Prod.ext g1.symm g2.symm))
     omega
    refine ⟨List.pairwise_cons.2 ⟨fun c hc=>?_,ih1⟩,fun c=>?_⟩
    · rcases List.mem_cons.1 hc with rfl | hc
      · exact hab
      · have hbc:=(List.pairwise_cons.1 ih1).1 c hc
        rw [ltC_iff] at hab hbc ⊢
        omega
    · rw [List.mem_cons,ih2 c,List.mem_cons,List.mem_cons,List.mem_cons]
theorem strict_unique {l m:List Co} (h1:l.Pairwise fun x y=>ltC x y=true) (h2:m.Pairwise fun x y=>ltC x y=true) (h:∀ c,c∈l ↔ c∈m):l=m:=by
 have irr:∀ c,ltC c c≠true:=fun c=>by rw [Ne,ltC_iff]; omega
 have n1:l.Nodup:=List.Pairwise.imp (fun {a b} hab=>show a≠b from fun he=>irr a (by rw [←he] at hab; exact hab)) h1
 have n2:m.Nodup:=List.Pairwise.imp (fun {a b} hab=>show a≠b from fun he=>irr a (by rw [←he] at hab; exact hab)) h2
 have hp:l.Perm m:=(List.perm_ext_iff_of_nodup n1 n2).2 h
 refine List.Perm.eq_of_pairwise (le:=fun a b=>ltC a b=true) ?_ h1 h2 hp
 intro a b _ _ ha hb
 rw [ltC_iff] at ha hb
 omega
theorem e11900 {xs zs:List Co} (hl:xs.length≤1000000) (hsm:∀ c,c∈xs→smallC c=true) (hk:∀ a b,a∈xs→b∈xs→a.1=b.1) (hz:zs.Pairwise fun x y=>ltC x y=true) (hm:∀ c,c∈zs ↔ c∈xs):ev 11900 [cosD xs]=some [cosD zs]:=by
 have h1:ev 12000 [cosD xs]=some [cosD (sortC xs)] :=
  ev_pr (by kernel_rfl) (.inr (.inr (.inr ⟨rfl,xs,sortC xs,rfl,rfl,by omega,List.all_eq_true.2 hsm,hk,sortC_perm xs,sortC_sorted xs⟩)))
 have h2:=e12100 (sortC xs) (by rw [(sortC_perm xs).length_eq]; exact hl)
 have h3:dd (sortC xs)=zs:=by
  have hs:=sortC_sorted xs
  have hp:=sortC_perm xs
  revert hs hp
  generalize sortC xs=ys
  intro hs hp
  cases ys with
  | nil =>
   refine strict_unique (by simp [dd]) hz fun c=>?_
   rw [hm c,←hp.mem_iff]
   simp [dd]
  | cons a r =>
   obtain ⟨g1,g2⟩:=ndF_ok r a (fun b hb=>hk b a (hp.mem_iff.1 (by simp [hb])) (hp.mem_iff.1 (by simp))) hs
   refine strict_unique g1 hz fun c=>?_
   rw [hm c,←hp.mem_iff]
   exact g2 c
 rw [h3] at h2
 refine ev_by u11900 ?_
 simp only [t11900,go_sem,h1,h2]
end Go.SX.T57
namespace Go.SX.T57
open Go.SX
theorem e11701 (l:List Pn) (hl:l.length≤1000000) (n:Int) (y:D):∀ i,i≤l.length→ev 11701 [pnsD l,.int n,y,.int l.length,.int i]=some [.int (findK (fun j=>eqI (l.getD j default).id n) (l.length - i) i)]:=by
 have h99:∀ (m:Int) (u v:D),ev 11800 [.int m,u,v,.int n]=some [.bool (eqI m n)]:=fun m u v=>by
  refine ev_by u11800 ?_
  simp only [t11800,go_sem]
 refine down ?_ fun i hi ih=>?_
 · refine ev_by u11701 ?_
   simp only [t11701,go_sem,findK_end,ltI_irr]
 · refine ev_by u11701 ?_
   simp only [t11701,go_sem,lm,idx_map _ _ _ hi,in_range hi,h99,wrapS i (by omega),ih]
   rw [findK_step _ hi,cond_lt (by omega)]
   cases eqI (l.getD i default).id n <;> rfl
theorem e11500 {p:Pt} (hp:LenP p) (n:Int):ev 11500 [pnsD p.rn,pesD p.re,pnsD p.an,pesD p.ae,pvsD p.vl,.int p.n0,.int p.n1,.int n]=some [.bool (remB p n)]:=by
 have h:ev 11700 [pnsD p.rn,.int n]=some [.int (findK (fun j=>eqI (p.rn.getD j default).id n) p.rn.length 0)]:=by
  refine ev_by u11700 ?_
  simp only [t11700,go_sem,lm]
  exact e11701 p.rn hp.1 n _ 0 (by omega)
 have h2:ev 11600 [pnsD p.rn,.int n]=some [.bool (remB p n)]:=by
  refine ev_by u11600 ?_
  simp only [t11600,go_sem,h,leI_find]
  rw [←Nat.sub_zero p.rn.length,anyK_any (fun v:Pn=>eqI v.id n) p.rn 0 (Nat.zero_le _)]
  rfl
 refine ev_by u11500 ?_
 simp only [t11500,go_sem,h2]
theorem e12300 (n:Int) (h0:0≤n) (h1:n≤10000000):ev 12300 [.int n]=some [cosD []]:=by
 have w0:IntKind.i64.wrap (0 - 0)=0:=by decide
 have w1:IntKind.i64.wrap (n - 0)=n:=by rw [nowrap (by omega) (by omega)]; omega
 rcases Int.lt_or_eq_of_le h0 with h | h
 · refine ev_by u12300 ?_
   simp only [t12300,go_sem,w0,w1]
   rw [cond_nlt h0,cond_lt h,cond_le h0,cond_le (by omega),cond_le (by omega)]
   rfl
 · subst h
   refine ev_by u12300 ?_
   simp only [t12300,go_sem,w0]
   rfl
theorem e12200 (a b c:List Co) (h1:a.length≤1000000) (h2:b.length≤1000000) (h3:c.length≤1000000):ev 12200 [.list [cosD a,cosD b,cosD c]]=some [cosD (a++(b++c))]:=by
 have l0:ltI 0 3=true:=by decide
 have l1:ltI 1 3=true:=by decide
 have l2:ltI 2 3=true:=by decide
 have l3:ltI 3 3=false:=by decide
 have w1:IntKind.i64.wrap (0+1)=1:=by decide
 have w2:IntKind.i64.wrap (1+1)=2:=by decide
 have w3:IntKind.i64.wrap (2+1)=3:=by decide
 have s1:IntKind.i64.wrap (0+(a.length:Int))=a.length:=by rw [nowrap (by omega) (by omega)]; omega
 have s2:IntKind.i64.wrap ((a.length:Int)+b.length)=((a.length+b.length:Nat):Int):=by rw [nowrap (by omega) (by omega)]; omega
 have s3:IntKind.i64.wrap (((a.length+b.length:Nat):Int)+c.length)=((a.length+b.length+c.length:Nat):Int):=by rw [nowrap (by omega) (by omega)]; omega
 have g:=e12300 ((a.length+b.length+c.length:Nat):Int) (by omega) (by omega)
 have nn:∀ k:Nat,ltI (k:Int) 0=false:=fun k=>lt_f (by omega)
 have q1:∀ x y:List Co,x.map cD++y.map cD=(x++y).map cD:=fun x y=>by rw [List.map_append]
 have d3:∀ s:D,ev 12203 [.list [cosD a,cosD b,cosD c],s,.int 3,.int 3,.int 3,.int 3,cosD (a++(b++c))]=some [cosD (a++(b++c))]:=fun s=>by
  refine ev_by u12203 ?_
  simp only [t12203,go_sem,l3]
 have d2:∀ s:D,ev 12203 [.list [cosD a,cosD b,cosD c],s,.int 3,.int 3,.int 3,.int 2,cosD (a++b)]=some [cosD (a++(b++c))]:=fun s=>by
  refine ev_by u12203 ?_
  simp only [t12203,go_sem,l2,lm,w3,le_ok (show (a++b).length≤1073741824 by rw [List.length_append]; omega),le_ok (show c.length≤1073741824 by omega),q1,List.append_assoc,d3]
  exact cond_in (by omega) (by simp)
 have d1:∀ s:D,ev 12203 [.list [cosD a,cosD b,cosD c],s,.int 3,.int 3,.int 3,.int 1,cosD a]=some [cosD (a++(b++c))]:=fun s=>by
  refine ev_by u12203 ?_
  simp only [t12203,go_sem,l1,lm,w2,le_ok (show a.length≤1073741824 by omega),le_ok (show b.length≤1073741824 by omega),q1,d2]
  exact cond_in (by omega) (by simp)
 have d0:∀ s:D,ev 12203 [.list [cosD a,cosD b,cosD c],s,.int 3,.int 3,.int 3,.int 0,cosD []]=some [cosD (a++(b++c))]:=fun s=>by
  refine ev_by u12203 ?_
  simp only [t12203,go_sem,l0,lm,w1,List.length_nil,le_ok (show 0≤1073741824 by omega),le_ok (show a.length≤1073741824 by omega),q1,List.nil_append,d1]
  exact cond_in (by omega) (by simp)
 have f3:ev 12201 [.list [cosD a,cosD b,cosD c],.int ((a.length+b.length+c.length:Nat):Int),.int 3,.int 3]=some [cosD (a++(b++c))]:=by
  refine ev_by u12201 ?_
  simp only [t12201,go_sem,l3,g]
  exact d0 _
 have f2:ev 12201 [.list [cosD a,cosD b,cosD c],.int ((a.length+b.length:Nat):Int),.int 3,.int 2]=some [cosD (a++(b++c))]:=by
  refine ev_by u12201 ?_
  simp only [t12201,go_sem,l2,lm,s3,nn,w3,f3]
  exact cond_in (by omega) (by simp)
 have f1:ev 12201 [.list [cosD a,cosD b,cosD c],.int a.length,.int 3,.int 1]=some [cosD (a++(b++c))]:=by
  refine ev_by u12201 ?_
  simp only [t12201,go_sem,l1,lm,s2,nn,w2,f2]
  exact cond_in (by omega) (by simp)
 have f0:ev 12201 [.list [cosD a,cosD b,cosD c],.int 0,.int 3,.int 0]=some [cosD (a++(b++c))]:=by
  refine ev_by u12201 ?_
  simp only [t12201,go_sem,l0,lm,s1,nn,w1,f1]
  exact cond_in (by omega) (by simp)
 refine ev_by u12200 ?_
 simp only [t12200,go_sem]
 exact f0
def ends1 (a:Pt) (e:Pe):List Co:=([e.src,e.dst].filter (remB a)).map fun n=>(1,n,-1)
def lst1 (a b:Pt):List Co:=b.ae.flatMap (ends1 a)
def lst2 (a b:Pt):List Co:=(b.vl.filter fun v=>remB a v.id).map fun v=>(2,v.id,v.attr)
def hit4 (a b:Pv):Bool:=eqI a.id b.id&&(eqI a.attr b.attr&&!eqI a.new b.new)
def row3 (q:Pt) (a:Pv):List Co:=(q.vl.filter (hit4 a)).map fun _=>(3,a.id,a.attr)
def lst3 (p q:Pt):List Co:=p.vl.flatMap (row3 q)
section
variable {a b:Pt} (ha:LenP a) (hb:LenP b)
include ha hb
theorem e11405 (x0 x1 x2 x3 x4 x5 x6 x7 x8 x9 x10 x11 x12 x13 x14 x15 x16 acc2 x35 x36 pl:D) (j:Nat) (hj:j < 1000000) (e:Pe) (acc:List Co) (hacc:acc.length≤1000000) :
 ev 11405 [x0,x1,x2,x3,x4,x5,x6,x7,x8,x9,x10,x11,x12,x13,x14,x15,x16,.int j,.int 0,cosD acc,acc2,pnsD a.rn,pesD a.re,pnsD a.an,pesD a.ae,pvsD a.vl,.int a.n0,.int a.n1,pnsD b.rn,pesD b.re,pnsD b.an,pesD b.ae,pvsD b.vl,.int b.n0,.int b.n1,.int e.id,.int e.ty,x35,x36,pl,.list [.int e.src,.int e.dst]] =
 ev 11403 [x0,x1,x2,x3,x4,x5,x6,x7,x8,x9,x10,x11,x12,x13,x14,x15,x16,.int (j+1:Nat),cosD (acc++ends1 a e),acc2,pnsD a.rn,pesD a.re,pnsD a.an,pesD a.ae,pvsD a.vl,.int a.n0,.int a.n1,pnsD b.rn,pesD b.re,pnsD b.an,pesD b.ae,pvsD b.vl,.int b.n0,.int b.n1,pl]:=by
 have r1:=e11500 ha e.src
 have r2:=e11500 ha e.dst
 have l0:ltI 0 2=true:=by decide
 have l1:ltI 1 2=true:=by decide
 have l2:ltI 2 2=false:=by decide
 have g0:(leI 0 0&&ltI 0 2)=true:=by decide
 have g1:(leI 0 1&&ltI 1 2)=true:=by decide
 have w1:IntKind.i64.wrap (0+1)=1:=by decide
 have w2:IntKind.i64.wrap (1+1)=2:=by decide
 have hend:∀ z:D,ev 11405 [x0,x1,x2,x3,x4,x5,x6,x7,x8,x9,x10,x11,x12,x13,x14,x15,x16,.int j,.int 2,z,acc2,pnsD a.rn,pesD a.re,pnsD a.an,pesD a.ae,pvsD a.vl,.int a.n0,.int a.n1,pnsD b.rn,pesD b.re,pnsD b.an,pesD b.ae,pvsD b.vl,.int b.n0,.int b.n1,.int e.id,.int e.ty,x35,x36,pl,.list [.int e.src,.int e.dst]]=ev 11403 [x0,x1,x2,x3,x4,x5,x6,x7,x8,x9,x10,x11,x12,x13,x14,x15,x16,.int (j+1:Nat),z,acc2,pnsD a.rn,pesD a.re,pnsD a.an,pesD a.ae,pvsD a.vl,.int a.n0,.int a.n1,pnsD b.rn,pesD b.re,pnsD b.an,pesD b.ae,pvsD b.vl,.int b.n0,.int b.n1,pl]:=fun z=>by
  rw [ev_eq u11405 rfl]
  simp only [t11405,go_sem,l2,wrapS j (by omega)]
 have hmid:∀ acc:List Co,acc.length≤1000001→ev 11405 [x0,x1,x2,x3,x4,x5,x6,x7,x8,x9,x10,x11,x12,x13,x14,x15,x16,.int j,.int 1,cosD acc,acc2,pnsD a.rn,pesD a.re,pnsD a.an,pesD a.ae,pvsD a.vl,.int a.n0,.int a.n1,pnsD b.rn,pesD b.re,pnsD b.an,pesD b.ae,pvsD b.vl,.int b.n0,.int b.n1,.int e.id,.int e.ty,x35,x36,pl,.list [.int e.src,.int e.dst]]=ev 11403 [x0,x1,x2,x3,x4,x5,x6,x7,x8,x9,x10,x11,x12,x13,x14,x15,x16,.int (j+1:Nat),cosD (acc++([e.dst].filter (remB a)).map fun n=>(1,n,-1)),acc2,pnsD a.rn,pesD a.re,pnsD a.an,pesD a.ae,pvsD a.vl,.int a.n0,.int a.n1,pnsD b.rn,pesD b.re,pnsD b.an,pesD b.ae,pvsD b.vl,.int b.n0,.int b.n1,pl]:=by
  intro acc hacc
  have e1:acc.map cD++[.agg [.int 1,.int e.dst,.int (-1)]]=(acc++[((1:Int),e.dst,(-1:Int))]).map cD:=by simp [cD]
  cases c:remB a e.dst
  · rw [c] at r2
    rw [List.filter_cons,c]
    refine Eq.trans ?_ (hend _)
    rw [ev_eq u11405 rfl]
    simp only [t11405,go_sem,l1,r2,w2]
    rw [cond_in (by omega) (by simp)]
    simp only [List.filter_nil,Bool.false_eq_true,if_false,List.map_nil,List.append_nil]
  · rw [c] at r2
    rw [List.filter_cons,c]
    refine Eq.trans ?_ (hend _)
    rw [ev_eq u11405 rfl]
    simp only [t11405,go_sem,l1,r2,w2,lm,le_ok (show acc.length≤1073741824 by omega),e1]
    rw [cond_in (by omega) (by simp)]
    rfl
 unfold ends1
 have e1:acc.map cD++[.agg [.int 1,.int e.src,.int (-1)]]=(acc++[((1:Int),e.src,(-1:Int))]).map cD:=by simp [cD]
 cases c:remB a e.src
 · rw [c] at r1
   rw [List.filter_cons,c]
   refine Eq.trans ?_ (hmid acc (by omega))
   rw [ev_eq u11405 rfl]
   simp only [t11405,go_sem,l0,r1,w1]
   rw [cond_in (by omega) (by simp)]
 · rw [c] at r1
   rw [List.filter_cons,c]
   have h:=hmid (acc++[((1:Int),e.src,(-1:Int))]) (by simp; omega)
   rw [List.append_assoc] at h
   refine Eq.trans ?_ h
   rw [ev_eq u11405 rfl]
   simp only [t11405,go_sem,l0,r1,w1,lm,le_ok (show acc.length≤1073741824 by omega),e1]
   rw [cond_in (by omega) (by simp)]
theorem ends_len (e:Pe):(ends1 a e).length≤2:=by
 unfold ends1
 rw [lm]
 exact Nat.le_trans (List.length_filter_le _ _) (by simp)
theorem e11407 (x0 x1 x2 x3 x4 x5 x6 x7 x8 x9 x10 x11 x12 x13 x14 x15 x16 x17 acc1 pl:D) (s:Nat) (hs:s < 10):∀ j,j≤b.vl.length→∀ acc:List Co,acc.length+(b.vl.length - j)≤1000000 →
 ev 11407 [x0,x1,x2,x3,x4,x5,x6,x7,x8,x9,x10,x11,x12,x13,.int s,x15,x16,x17,pvsD b.vl,.int b.vl.length,.int j,acc1,cosD acc,pnsD a.rn,pesD a.re,pnsD a.an,pesD a.ae,pvsD a.vl,.int a.n0,.int a.n1,pnsD b.rn,pesD b.re,pnsD b.an,pesD b.ae,pvsD b.vl,.int b.n0,.int b.n1,pl]=ev 11401 [x0,x1,x2,x3,x4,x5,x6,x7,x8,x9,x10,x11,x12,x13,.int (s+1:Nat),acc1,cosD (acc++((b.vl.drop j).filter fun v=>remB a v.id).map fun v=>(2,v.id,v.attr)),pl]:=by
 have hl:=hb.2.2.2.2
 refine down ?_ fun j hj ih=>?_
 · intro acc hacc
   rw [List.drop_eq_nil_of_le (Nat.le_refl _),List.filter_nil,List.map_nil,List.append_nil]
   rw [ev_eq u11407 rfl]
   simp only [t11407,go_sem,ltI_irr,wrapS s (by omega)]
 · intro acc hacc
   have r:=e11500 ha (b.vl.getD j default).id
   rw [drop_step hj,List.filter_cons]
   cases c:remB a (b.vl.getD j default).id
   · rw [c] at r
     refine Eq.trans ?_ (ih acc (by omega))
     rw [ev_eq u11407 rfl]
     simp only [t11407,go_sem,lm,idx_map _ _ _ hj,in_range hj,r,wrapS j (by omega)]
     rw [cond_lt (by omega)]
   · rw [c] at r
     have h:=ih (acc++[((2:Int),(b.vl.getD j default).id,(b.vl.getD j default).attr)]) (by rw [List.length_append,List.length_singleton]; omega)
     rw [List.append_assoc] at h
     have e1:acc.map cD++[.agg [.int 2,.int (b.vl.getD j default).id,.int (b.vl.getD j default).attr]]=(acc++[((2:Int),(b.vl.getD j default).id,(b.vl.getD j default).attr)]).map cD:=by simp [cD]
     refine Eq.trans ?_ h
     rw [ev_eq u11407 rfl]
     simp only [t11407,go_sem,lm,idx_map _ _ _ hj,in_range hj,r,wrapS j (by omega),le_ok (show acc.length≤1073741824 by omega),e1]
     rw [cond_lt (by omega)]
theorem e11403 (x0 x1 x2 x3 x4 x5 x6 x7 x8 x9 x10 x11 x12 x13 pl:D) (s:Nat) (hs:s < 10) (acc2:List Co) (h2:acc2.length+b.vl.length≤1000000):∀ j,j≤b.ae.length→∀ acc:List Co,acc.length+2 * (b.ae.length - j)≤1000000 →
 ev 11403 [x0,x1,x2,x3,x4,x5,x6,x7,x8,x9,x10,x11,x12,x13,.int s,pesD b.ae,.int b.ae.length,.int j,cosD acc,cosD acc2,pnsD a.rn,pesD a.re,pnsD a.an,pesD a.ae,pvsD a.vl,.int a.n0,.int a.n1,pnsD b.rn,pesD b.re,pnsD b.an,pesD b.ae,pvsD b.vl,.int b.n0,.int b.n1,pl]=ev 11401 [x0,x1,x2,x3,x4,x5,x6,x7,x8,x9,x10,x11,x12,x13,.int (s+1:Nat),cosD (acc++(b.ae.drop j).flatMap (ends1 a)),cosD (acc2++lst2 a b),pl]:=by
 have hl:=hb.2.2.2.1
 refine down ?_ fun j hj ih=>?_
 · intro acc hacc
   rw [List.drop_eq_nil_of_le (Nat.le_refl _),List.flatMap_nil,List.append_nil]
   have h:=e11407 ha hb x0 x1 x2 x3 x4 x5 x6 x7 x8 x9 x10 x11 x12 x13 (.int 0) (pesD b.ae) (.int b.ae.length) (.int b.ae.length) (cosD acc) pl s hs 0 (by omega) acc2 (by omega)
   refine Eq.trans ?_ h
   rw [ev_eq u11403 rfl]
   simp only [t11403,go_sem,lm,ltI_irr]
   rfl
 · intro acc hacc
   have he:=ends_len (a:=a) ha hb (b.ae.getD j default)
   have h:=ih (acc++ends1 a (b.ae.getD j default)) (by rw [List.length_append]; omega)
   rw [drop_step hj,List.flatMap_cons]
   rw [List.append_assoc] at h
   have h5:=e11405 ha hb x0 x1 x2 x3 x4 x5 x6 x7 x8 x9 x10 x11 x12 x13 (.int s) (pesD b.ae) (.int b.ae.length) (cosD acc2) (.int (b.ae.getD j default).src) (.int (b.ae.getD j default).dst) pl j (by omega) (b.ae.getD j default) acc (by omega)
   refine Eq.trans ?_ (h5.trans h)
   rw [ev_eq u11403 rfl]
   simp only [t11403,go_sem,lm,idx_map _ _ _ hj,in_range hj]
   rw [cond_lt (by omega)]
end
section
variable {p q:Pt} (hp:LenP p) (hq:LenP q) (hp5:p.vl.length≤500) (hq5:q.vl.length≤500)
include hp hq hp5 hq5
theorem e11411 (x0 x1 x2 x3 x5 x6 x7 x8 x9 x10 x12 x13 x14 x15 acc1 acc2 pl:D) (i:Nat) (hi:i < 500) (v:Pv):∀ j,j≤q.vl.length→∀ acc:List Co,acc.length≤500 * i+j →
 ev 11411 [x0,x1,x2,x3,pvsD p.vl,x5,x6,x7,x8,x9,x10,pvsD q.vl,x12,x13,x14,x15,.int i,.int q.vl.length,.int j,acc1,acc2,cosD acc,.int v.id,.int v.attr,.int v.old,.int v.new,pl] =
 ev 11409 [x0,x1,x2,x3,pvsD p.vl,x5,x6,x7,x8,x9,x10,pvsD q.vl,x12,x13,x14,x15,.int (i+1:Nat),acc1,acc2,cosD (acc++((q.vl.drop j).filter (hit4 v)).map fun _=>(3,v.id,v.attr)),pl]:=by
 refine down ?_ fun j hj ih=>?_
 · intro acc hacc
   rw [List.drop_eq_nil_of_le (Nat.le_refl _),List.filter_nil,List.map_nil,List.append_nil]
   rw [ev_eq u11411 rfl]
   simp only [t11411,go_sem,ltI_irr,wrapS i (by omega)]
 · intro acc hacc
   rw [drop_step hj,List.filter_cons]
   have hno:=ih acc (by omega)
   by_cases c1:v.id=(q.vl.getD j default).id
   · by_cases c2:v.attr=(q.vl.getD j default).attr
     · by_cases c3:v.new=(q.vl.getD j default).new
       · rw [if_neg (show ¬ hit4 v (q.vl.getD j default)=true by unfold hit4; rw [eq_t c3,Bool.not_true,Bool.and_false,Bool.and_false]; exact Bool.false_ne_true)]
         refine Eq.trans ?_ hno
         rw [ev_eq u11411 rfl]
         simp only [t11411,go_sem,lm,idx_map _ _ _ hj,in_range hj,wrapS j (by omega)]
         rw [cond_lt (by omega),cond_eq c1,cond_eq c2,cond_eq c3]
       · rw [if_pos (show hit4 v (q.vl.getD j default)=true by unfold hit4; rw [eq_t c1,eq_t c2,eq_f c3]; rfl)]
         have h:=ih (acc++[((3:Int),v.id,v.attr)]) (by rw [List.length_append,List.length_singleton]; omega)
         rw [List.append_assoc] at h
         have e1:acc.map cD++[.agg [.int 3,.int v.id,.int v.attr]]=(acc++[((3:Int),v.id,v.attr)]).map cD:=by simp [cD]
         refine Eq.trans ?_ h
         rw [ev_eq u11411 rfl]
         simp only [t11411,go_sem,lm,idx_map _ _ _ hj,in_range hj,wrapS j (by omega),le_ok (show acc.length≤1073741824 by omega),e1]
         rw [cond_lt (by omega),cond_eq c1,cond_eq c2,cond_ne c3]
     · rw [if_neg (show ¬ hit4 v (q.vl.getD j default)=true by unfold hit4; rw [eq_f c2,Bool.false_and,Bool.and_false]; exact Bool.false_ne_true)]
       refine Eq.trans ?_ hno
       rw [ev_eq u11411 rfl]
       simp only [t11411,go_sem,lm,idx_map _ _ _ hj,in_range hj,wrapS j (by omega)]
       rw [cond_lt (by omega),cond_eq c1,cond_ne c2]
   · rw [if_neg (show ¬ hit4 v (q.vl.getD j default)=true by unfold hit4; rw [eq_f c1,Bool.false_and]; exact Bool.false_ne_true)]
     refine Eq.trans ?_ hno
     rw [ev_eq u11411 rfl]
     simp only [t11411,go_sem,lm,idx_map _ _ _ hj,in_range hj,wrapS j (by omega)]
     rw [cond_lt (by omega),cond_ne c1]
theorem row3_len (v:Pv):(row3 q v).length≤500:=by
 unfold row3
 rw [lm]
 exact Nat.le_trans (List.length_filter_le _ _) hq5
theorem e11409 (x0 x1 x2 x3 x5 x6 x7 x8 x9 x10 x12 x13 x14 pl:D) (z1 z2:List Co) {c1 c2 c3:List Co} (o1:ev 11900 [cosD z1]=some [cosD c1]) (o2:ev 11900 [cosD z2]=some [cosD c2]) (o3:ev 11900 [cosD (lst3 p q)]=some [cosD c3]) (k1:c1.length≤1000000) (k2:c2.length≤1000000) (k3:c3.length≤1000000):∀ i,i≤p.vl.length→∀ acc:List Co,acc.length≤500 * i→acc++(p.vl.drop i).flatMap (row3 q)=lst3 p q →
 ev 11409 [x0,x1,x2,x3,pvsD p.vl,x5,x6,x7,x8,x9,x10,pvsD q.vl,x12,x13,x14,.int p.vl.length,.int i,cosD z1,cosD z2,cosD acc,pl]=some [cosD (c1++(c2++c3))]:=by
 refine down ?_ fun i hi ih=>?_
 · intro acc hacc hall
   rw [List.drop_eq_nil_of_le (Nat.le_refl _),List.flatMap_nil,List.append_nil] at hall
   subst hall
   have h:=e12200 c1 c2 c3 k1 k2 k3
   refine ev_by u11409 ?_
   simp only [t11409,go_sem,ltI_irr,o1,o2,o3,List.cons_append,List.nil_append,h]
 · intro acc hacc hall
   have hr:=row3_len hp hq hp5 hq5 (p.vl.getD i default)
   have h:=ih (acc++row3 q (p.vl.getD i default)) (by rw [List.length_append]; omega) (by rw [←hall,drop_step hi,List.flatMap_cons,List.append_assoc])
   have h5:=e11411 hp hq hp5 hq5 x0 x1 x2 x3 x5 x6 x7 x8 x9 x10 x12 x13 x14 (.int p.vl.length) (cosD z1) (cosD z2) pl i (by omega) (p.vl.getD i default) 0 (by omega) acc (by omega)
   refine Eq.trans ?_ (h5.trans h)
   rw [ev_eq u11409 rfl]
   simp only [t11409,go_sem,lm,idx_map _ _ _ hi,in_range hi]
   rw [cond_lt (by omega)]
   rfl
end
end Go.SX.T57
namespace Go.SX.T57
open Go.SX
/-! ### What an applied patch tells of the host -/
theorem cuts_mem {α:Type} [DecidableEq α]:∀ {r l l' : List α},cuts l r=some l'→∀ n,n∈r→n∈l
 | [],_,_,_,n,hn=>by cases hn
 | m::r,l,l',h,n,hn=>by
  unfold cuts at h
  obtain ⟨k,h1,h2⟩:=Option.bind_eq_some_iff.1 h
  rcases List.mem_cons.1 hn with rfl | hn
  · exact (cut_some h1).1
  · exact (cut_some h1).2.2.subset (cuts_mem h2 n hn)
theorem setVs_mem:∀ {r:List Pv} {a a' : List Pn},setVs a r=some a'→∀ v,v∈r→∃ n,n∈a∧n.id=v.id∧0≤v.attr∧v.attr < n.vals.length
 | [],_,_,_,n,hn=>by cases hn
 | m::r,a,a',h,v,hv=>by
  unfold setVs at h
  obtain ⟨k,h1,h2⟩:=Option.bind_eq_some_iff.1 h
  obtain ⟨g1,rfl⟩:=setV_some h1
  rcases List.mem_cons.1 hv with rfl | hv
  · obtain ⟨n,hn,hc⟩:=List.any_eq_true.1 g1
    simp only [canSet,Bool.and_eq_true,eqI_iff,leI_iff,ltI_iff] at hc
    exact ⟨n,hn,hc.1,hc.2.1,hc.2.2.1⟩
  · obtain ⟨n,hn,k1,k2,k3⟩:=setVs_mem h2 v hv
    obtain ⟨n0,hn0,rfl⟩:=List.mem_map.1 hn
    rw [upd_id] at k1
    rw [upd_len] at k3
    exact ⟨n0,hn0,k1,k2,k3⟩
theorem idsErr_range {l:List Int} {n:Int} (h:idsErr l n=0):∀ v,v∈l→0≤v∧v < n:=by
 intro v hv
 obtain ⟨q,hq,rfl⟩:=List.getElem_of_mem hv
 have:=scan_zero _ _ h q (by omega) (by omega)
 unfold idErr at this
 rw [getD_get hq] at this
 split at this
 · cases this
 · split at this
   · cases this
   · omega
theorem track_ids {ns:List Nd} {es:List Ed} {x:Trk} (h:trackErr ns es x=0):(∀ v,v∈x.ns→0≤v∧v < x.next)∧(∀ v,v∈x.es→0≤v∧v < x.next)∧x.next≤1000000:=by
 have h9:=(trackErr_ok h).2.2.2.2.2.2
 unfold trackErr at h
 obtain ⟨hh,h⟩:=thenE_zero h
 split at h
 · split at h
   · split at h
     · cases h
     · split at h
       · cases h
       · obtain ⟨i1,h⟩:=thenE_zero h
         obtain ⟨i2,h⟩:=thenE_zero h
         exact ⟨idsErr_range i1,idsErr_range i2,h9⟩
   · cases h
 · cases h
theorem node_mem {x:Trk} {n:Pn} (h:n∈nodesOf x):∃ i,i < x.ns.length∧n=nodeOf x i:=by
 unfold nodesOf at h
 obtain ⟨i,hi,rfl⟩:=List.mem_map.1 h
 exact ⟨i,List.mem_range.1 hi,rfl⟩
section
variable {ns:List Nd} {es:List Ed} {x:Trk} {p:Pt} {y:Trk} (h:App ns es x p y)
include h
theorem App.rn_mem:∀ n,n∈p.rn→n∈nodesOf x:=by
 obtain ⟨q,r,h1,_,_⟩:=h.run
 unfold lessS at h1
 obtain ⟨a1,g1,_⟩:=Option.bind_eq_some_iff.1 h1
 exact cuts_mem g1
theorem App.rem_ns:∀ n,remB p n=true→n∈x.ns:=by
 intro n hn
 unfold remB at hn
 obtain ⟨m,hm,he⟩:=List.any_eq_true.1 hn
 rw [eqI_iff] at he
 obtain ⟨i,hi,rfl⟩:=node_mem (h.rn_mem m hm)
 rw [←he]
 exact getD_mem hi
theorem App.vl_at:∀ v,v∈p.vl→∃ i,i < x.ns.length∧x.ns.getD i default=v.id∧0≤v.attr∧v.attr < (x.vs.getD i default).length:=by
 obtain ⟨q,r,h1,_,_⟩:=h.run
 unfold lessS at h1
 obtain ⟨a1,g1,h1⟩:=Option.bind_eq_some_iff.1 h1
 obtain ⟨b1,g2,h1⟩:=Option.bind_eq_some_iff.1 h1
 obtain ⟨a2,g3,h1⟩:=Option.map_eq_some_iff.1 h1
 intro v hv
 obtain ⟨n,hn,k1,k2,k3⟩:=setVs_mem g3 v hv
 obtain ⟨i,hi,rfl⟩:=node_mem ((cuts_sub g1).subset hn)
 exact ⟨i,hi,k1,k2,k3⟩
end
theorem ltV_trans {a b c:Pv} (h1:ltV a b=true) (h2:ltV b c=true):ltV a c=true:=by
 simp only [ltV,Bool.or_eq_true,Bool.and_eq_true,ltI_iff,eqI_iff] at *
 omega
theorem ascV_pw:∀ {l:List Pv},ascB ltV l=true→l.Pairwise fun a b=>ltV a b=true
 | [],_=>List.Pairwise.nil
 | [a],_=>by simp
 | a::b::r,h=>by
  simp only [ascB,Bool.and_eq_true] at h
  have ih:=ascV_pw (l:=b::r) h.2
  refine List.pairwise_cons.2 ⟨fun z hz=>?_,ih⟩
  rcases List.mem_cons.1 hz with rfl | hz
  · exact h.1
  · exact ltV_trans h.1 ((List.pairwise_cons.1 ih).1 z hz)
theorem find_uni {n a:Int}:∀ {l:List Pv},(l.Pairwise fun a b=>ltV a b=true)→∀ v,v∈l→isV n a v=true→l.find? (isV n a)=some v
 | [],_,v,hv,_=>by cases hv
 | w::l,h,v,hv,hi=>by
  have h':=List.pairwise_cons.1 h
  rcases List.mem_cons.1 hv with rfl | hv
  · rw [List.find?_cons,hi]
  · have hlt:=h'.1 v hv
    have hw:isV n a w=false:=by
     cases hc:isV n a w
     · rfl
     · simp only [isV,Bool.and_eq_true,eqI_iff] at hc hi
       simp only [ltV,Bool.or_eq_true,Bool.and_eq_true,ltI_iff,eqI_iff] at hlt
       omega
    rw [List.find?_cons,hw]
    exact find_uni h'.2 v hv hi
/-! ### The members -/
theorem mem_lst1 (a b:Pt) (c:Co):c∈lst1 a b ↔ ∃ n,remB a n=true∧useB b n=true∧c=(1,n,-1):=by
 unfold lst1 ends1 useB
 simp only [List.mem_flatMap,List.mem_map,List.mem_filter,List.mem_cons,List.not_mem_nil,or_false,List.any_eq_true,Bool.or_eq_true,eqI_iff]
 constructor
 · rintro ⟨e,he,n,⟨hn,hr⟩,rfl⟩
   exact ⟨n,hr,⟨e,he,by rcases hn with rfl | rfl <;> simp⟩,rfl⟩
 · rintro ⟨n,hr,⟨e,he,hn⟩,rfl⟩
   exact ⟨e,he,n,⟨by rcases hn with rfl | rfl <;> simp,hr⟩,rfl⟩
theorem mem_col1 (x:Trk) (p q:Pt) (c:Co):c∈col1 x p q ↔ ∃ n,n∈x.ns∧hit1 p q n=true∧c=(1,n,-1):=by
 unfold col1
 simp only [List.mem_map,List.mem_filter]
 constructor
 · rintro ⟨n,⟨h1,h2⟩,rfl⟩; exact ⟨n,h1,h2,rfl⟩
 · rintro ⟨n,h1,h2,rfl⟩; exact ⟨n,⟨h1,h2⟩,rfl⟩
theorem mem_lst2 (a b:Pt) (c:Co):c∈lst2 a b ↔ ∃ v,v∈b.vl∧remB a v.id=true∧c=(2,v.id,v.attr):=by
 unfold lst2
 simp only [List.mem_map,List.mem_filter]
 constructor
 · rintro ⟨n,⟨h1,h2⟩,rfl⟩; exact ⟨n,h1,h2,rfl⟩
 · rintro ⟨n,h1,h2,rfl⟩; exact ⟨n,⟨h1,h2⟩,rfl⟩
theorem mem_col2 (x:Trk) (p q:Pt) (c:Co):c∈col2 x p q ↔ ∃ i j:Nat,i < x.ns.length∧j < (x.vs.getD i default).length∧hit2 p q (x.ns.getD i default) j=true∧c=(2,x.ns.getD i default,(j:Int)):=by
 unfold col2 row2
 simp only [List.mem_flatMap,List.mem_map,List.mem_filter,List.mem_range]
 constructor
 · rintro ⟨i,hi,j,⟨h1,h2⟩,rfl⟩; exact ⟨i,j,hi,h1,h2,rfl⟩
 · rintro ⟨i,j,hi,h1,h2,rfl⟩; exact ⟨i,hi,j,⟨h1,h2⟩,rfl⟩
theorem mem_lst3 (p q:Pt) (c:Co):c∈lst3 p q ↔ ∃ a b,a∈p.vl∧b∈q.vl∧hit4 a b=true∧c=(3,a.id,a.attr):=by
 unfold lst3 row3
 simp only [List.mem_flatMap,List.mem_map,List.mem_filter]
 constructor
 · rintro ⟨a,ha,b,⟨h1,h2⟩,rfl⟩; exact ⟨a,b,ha,h1,h2,rfl⟩
 · rintro ⟨a,b,ha,h1,h2,rfl⟩; exact ⟨a,ha,b,⟨h1,h2⟩,rfl⟩
theorem mem_col3 (p q:Pt) (c:Co):c∈col3 p q ↔ ∃ a,a∈p.vl∧hit3 q a=true∧c=(3,a.id,a.attr):=by
 unfold col3
 simp only [List.mem_map,List.mem_filter]
 constructor
 · rintro ⟨n,⟨h1,h2⟩,rfl⟩; exact ⟨n,h1,h2,rfl⟩
 · rintro ⟨n,h1,h2,rfl⟩; exact ⟨n,⟨h1,h2⟩,rfl⟩
theorem hit3_iff {q:Pt} (hq:q.vl.Pairwise fun a b=>ltV a b=true) (a:Pv):hit3 q a=true ↔ ∃ b,b∈q.vl∧hit4 a b=true:=by
 unfold hit3 findV
 constructor
 · cases hf:q.vl.find? (isV a.id a.attr) with
   | none=>intro h; cases h
   | some v =>
    intro h
    replace h:(!eqI v.new a.new)=true:=h
    have hm:=List.mem_of_find?_eq_some hf
    have hv:=List.find?_some hf
    simp only [isV,Bool.and_eq_true,eqI_iff] at hv
    rw [Bool.not_eq_true',eqI_false] at h
    refine ⟨v,hm,?_⟩
    unfold hit4
    rw [eq_t hv.1.symm,eq_t hv.2.symm,eq_f (Ne.symm h)]
    rfl
 · rintro ⟨b,hb,hh⟩
   simp only [hit4,Bool.and_eq_true,eqI_iff,Bool.not_eq_true',eqI_false] at hh
   have hf:=find_uni hq b hb (n:=a.id) (a:=a.attr) (by
    unfold isV
    rw [eq_t hh.1.symm,eq_t hh.2.1.symm]
    rfl)
   rw [hf]
   show (!eqI b.new a.new)=true
   rw [eq_f (Ne.symm hh.2.2)]
   rfl
theorem hasV_iff (p:Pt) (n a:Int):hasV p n a=true ↔ ∃ v,v∈p.vl∧v.id=n∧v.attr=a:=by
 unfold hasV isV
 simp only [List.any_eq_true,Bool.and_eq_true,eqI_iff]
section
variable {ns:List Nd} {es:List Ed} {x:Trk} {p q:Pt} {y z:Trk} (hp:LenP p) (hq:LenP q) (ay:App ns es x p y) (az:App ns es x q z)
include ay az
theorem same1 (c:Co):c∈col1 x p q ↔ c∈lst1 p q++lst1 q p:=by
 rw [List.mem_append,mem_lst1,mem_lst1,mem_col1]
 simp only [hit1,Bool.or_eq_true,Bool.and_eq_true]
 constructor
 · rintro ⟨n,_,(⟨h1,h2⟩ | ⟨h1,h2⟩),rfl⟩
   · exact .inl ⟨n,h1,h2,rfl⟩
   · exact .inr ⟨n,h1,h2,rfl⟩
 · rintro (⟨n,h1,h2,rfl⟩ | ⟨n,h1,h2,rfl⟩)
   · exact ⟨n,ay.rem_ns n h1,.inl ⟨h1,h2⟩,rfl⟩
   · exact ⟨n,az.rem_ns n h1,.inr ⟨h1,h2⟩,rfl⟩
theorem same2 (c:Co):c∈col2 x p q ↔ c∈lst2 p q++lst2 q p:=by
 rw [List.mem_append,mem_lst2,mem_lst2,mem_col2]
 simp only [hit2,Bool.or_eq_true,Bool.and_eq_true]
 constructor
 · rintro ⟨i,j,_,_,(⟨h1,h2⟩ | ⟨h1,h2⟩),rfl⟩
   · obtain ⟨v,hv,e1,e2⟩:=(hasV_iff q _ _).1 h2
     exact .inl ⟨v,hv,by rw [e1]; exact h1,by rw [e1,e2]⟩
   · obtain ⟨v,hv,e1,e2⟩:=(hasV_iff p _ _).1 h2
     exact .inr ⟨v,hv,by rw [e1]; exact h1,by rw [e1,e2]⟩
 · rintro (⟨v,hv,h2,rfl⟩ | ⟨v,hv,h2,rfl⟩)
   · obtain ⟨i,hi,k1,k2,k3⟩:=az.vl_at v hv
     refine ⟨i,v.attr.toNat,hi,by omega,.inl ⟨by rw [k1]; exact h2,(hasV_iff q _ _).2 ⟨v,hv,k1.symm,by omega⟩⟩,?_⟩
     rw [k1,Int.toNat_of_nonneg k2]
   · obtain ⟨i,hi,k1,k2,k3⟩:=ay.vl_at v hv
     refine ⟨i,v.attr.toNat,hi,by omega,.inr ⟨by rw [k1]; exact h2,(hasV_iff p _ _).2 ⟨v,hv,k1.symm,by omega⟩⟩,?_⟩
     rw [k1,Int.toNat_of_nonneg k2]
theorem same3 (c:Co):c∈col3 p q ↔ c∈lst3 p q:=by
 have hqo:=ascV_pw az.shape.o5
 rw [mem_lst3,mem_col3]
 constructor
 · rintro ⟨a,ha,h,rfl⟩
   obtain ⟨b,hb,h4⟩:=(hit3_iff hqo a).1 h
   exact ⟨a,b,ha,hb,h4,rfl⟩
 · rintro ⟨a,b,ha,hb,h4,rfl⟩
   exact ⟨a,ha,(hit3_iff hqo a).2 ⟨b,hb,h4⟩,rfl⟩
theorem asc1:(col1 x p q).Pairwise fun a b=>ltC a b=true:=by
 obtain ⟨_,_,_,h1,_,_,_⟩:=trackErr_ok ay.track
 unfold col1
 rw [List.pairwise_map]
 refine List.Pairwise.filter _ (h1.imp fun {a b} hab=>?_)
 rw [ltC_iff]
 exact .inl hab
theorem asc2:(col2 x p q).Pairwise fun a b=>ltC a b=true:=by
 obtain ⟨_,_,_,h1,_,_,_⟩:=trackErr_ok ay.track
 unfold col2
 rw [List.pairwise_flatMap]
 constructor
 · intro i hi
   unfold row2
   rw [List.pairwise_map]
   refine List.Pairwise.filter _ (List.pairwise_lt_range.imp fun {a b} hab=>?_)
   rw [ltC_iff]
   exact .inr ⟨rfl,by show (a:Int) < b; omega⟩
 · refine List.Pairwise.imp_of_mem (fun {i j} hi hj hij=>?_) List.pairwise_lt_range
   intro c hc d hd
   unfold row2 at hc hd
   obtain ⟨_,_,rfl⟩:=List.mem_map.1 hc
   obtain ⟨_,_,rfl⟩:=List.mem_map.1 hd
   rw [ltC_iff]
   refine .inl ?_
   show x.ns.getD i default < x.ns.getD j default
   rw [getD_get (List.mem_range.1 hi),getD_get (List.mem_range.1 hj)]
   exact (List.pairwise_iff_getElem.1 h1) i j _ _ hij
theorem asc3:(col3 p q).Pairwise fun a b=>ltC a b=true:=by
 have hpo:=ascV_pw ay.shape.o5
 unfold col3
 rw [List.pairwise_map]
 refine List.Pairwise.filter _ (hpo.imp fun {a b} hab=>?_)
 simp only [ltV,Bool.or_eq_true,Bool.and_eq_true,ltI_iff,eqI_iff] at hab
 rw [ltC_iff]
 exact hab
theorem small1:∀ c,c∈col1 x p q→smallC c=true:=by
 intro c hc
 obtain ⟨n,hn,_,rfl⟩:=(mem_col1 _ _ _ _).1 hc
 have:=(track_ids ay.track).1 n hn
 have:=(track_ids ay.track).2.2
 simp only [smallC,decide_eq_true_eq]
 omega
theorem small2:∀ c,c∈col2 x p q→smallC c=true:=by
 intro c hc
 obtain ⟨i,j,hi,hj,_,rfl⟩:=(mem_col2 _ _ _ _).1 hc
 have h0:=(track_ids ay.track).1 _ (getD_mem hi)
 have h1:=(track_ids ay.track).2.2
 have h2:=(trackErr_ok ay.track).2.2.1 i hi
 simp only [smallC,decide_eq_true_eq]
 omega
theorem small3:∀ c,c∈col3 p q→smallC c=true:=by
 intro c hc
 obtain ⟨a,ha,_,rfl⟩:=(mem_col3 _ _ _).1 hc
 obtain ⟨i,hi,k1,k2,k3⟩:=ay.vl_at a ha
 have h0:=(track_ids ay.track).1 _ (getD_mem hi)
 have h1:=(track_ids ay.track).2.2
 have h2:=(trackErr_ok ay.track).2.2.1 i hi
 rw [k1] at h0
 simp only [smallC,decide_eq_true_eq]
 omega
theorem flatMap_len {α β:Type} (f:α→List β) (k:Nat):∀ l:List α,(∀ a,a∈l→(f a).length≤k)→(l.flatMap f).length≤k * l.length
 | [],_=>by simp
 | a::l,h=>by
  rw [List.flatMap_cons,List.length_append,List.length_cons]
  have:=flatMap_len f k l fun b hb=>h b (by simp [hb])
  have:=h a (by simp)
  rw [Nat.mul_succ]
  omega
include hp hq
theorem e11400:ev 11400 (p.ds++q.ds)=some [cosD (colS x p q)]:=by
 have sp:=ay.shape
 have sq:=az.shape
 have p4:=sp.l4
 have q4:=sq.l4
 have p5:=sp.l5
 have q5:=sq.l5
 have n1:∀ a b:Pt,(lst1 a b).length≤2 * b.ae.length:=fun a b=>flatMap_len ay az _ 2 _ fun e _=>by
  unfold ends1
  rw [lm]
  exact Nat.le_trans (List.length_filter_le _ _) (by simp)
 have n2:∀ a b:Pt,(lst2 a b).length≤b.vl.length:=fun a b=>by
  unfold lst2
  rw [lm]
  exact List.length_filter_le _ _
 have n3:(lst3 p q).length≤500 * p.vl.length:=flatMap_len ay az _ 500 _ fun e _=>row3_len hp hq p5 q5 e
 have m1:=n1 p q
 have m2:=n1 q p
 have m3:=n2 p q
 have m4:=n2 q p
 have hsn:=(trackErr_ok ay.track).2.1.n3
 have o1:=e11900 (xs:=lst1 p q++lst1 q p) (zs:=col1 x p q) (by rw [List.length_append]; omega) (fun c hc=>small1 ay az c ((same1 ay az c).2 hc)) (fun a b ha hb=>by
  obtain ⟨_,_,_,rfl⟩:=(mem_col1 _ _ _ _).1 ((same1 ay az a).2 ha)
  obtain ⟨_,_,_,rfl⟩:=(mem_col1 _ _ _ _).1 ((same1 ay az b).2 hb)
  rfl) (asc1 ay az) (same1 ay az)
 have o2:=e11900 (xs:=lst2 p q++lst2 q p) (zs:=col2 x p q) (by rw [List.length_append]; omega) (fun c hc=>small2 ay az c ((same2 ay az c).2 hc)) (fun a b ha hb=>by
  obtain ⟨_,_,_,_,_,rfl⟩:=(mem_col2 _ _ _ _).1 ((same2 ay az a).2 ha)
  obtain ⟨_,_,_,_,_,rfl⟩:=(mem_col2 _ _ _ _).1 ((same2 ay az b).2 hb)
  rfl) (asc2 ay az) (same2 ay az)
 have o3:=e11900 (xs:=lst3 p q) (zs:=col3 p q) (by omega) (fun c hc=>small3 ay az c ((same3 ay az c).2 hc)) (fun a b ha hb=>by
  obtain ⟨_,_,_,rfl⟩:=(mem_col3 _ _ _).1 ((same3 ay az a).2 ha)
  obtain ⟨_,_,_,rfl⟩:=(mem_col3 _ _ _).1 ((same3 ay az b).2 hb)
  rfl) (asc3 ay az) (same3 ay az)
 have k1:(col1 x p q).length≤1000000:=by
  unfold col1
  rw [lm]
  exact Nat.le_trans (List.length_filter_le _ _) (by omega)
 have k2:(col2 x p q).length≤1000000:=by
  have:=flatMap_len ay az (row2 x p q) 8 (List.range x.ns.length) fun i hi=>by
   unfold row2
   rw [lm]
   refine Nat.le_trans (List.length_filter_le _ _) ?_
   rw [List.length_range]
   exact (trackErr_ok ay.track).2.2.1 i (List.mem_range.1 hi)
  rw [List.length_range] at this
  unfold col2
  omega
 have k3:(col3 p q).length≤1000000:=by
  unfold col3
  rw [lm]
  exact Nat.le_trans (List.length_filter_le _ _) (by omega)
 have l0:ltI 0 2=true:=by decide
 have l1:ltI 1 2=true:=by decide
 have l2:ltI 2 2=false:=by decide
 have a3:=e11409 hp hq p5 q5 (pnsD p.rn) (pesD p.re) (pnsD p.an) (pesD p.ae) (.int p.n0) (.int p.n1) (pnsD q.rn) (pesD q.re) (pnsD q.an) (pesD q.ae) (.int q.n0) (.int q.n1) (.int 2) (.list [.agg [pnsD p.rn,pesD p.re,pnsD p.an,pesD p.ae,pvsD p.vl,.int p.n0,.int p.n1,pnsD q.rn,pesD q.re,pnsD q.an,pesD q.ae,pvsD q.vl,.int q.n0,.int q.n1],.agg [pnsD q.rn,pesD q.re,pnsD q.an,pesD q.ae,pvsD q.vl,.int q.n0,.int q.n1,pnsD p.rn,pesD p.re,pnsD p.an,pesD p.ae,pvsD p.vl,.int p.n0,.int p.n1]]) (lst1 p q++lst1 q p) (lst2 p q++lst2 q p) o1 o2 o3 k1 k2 k3 0 (by omega) [] (Nat.zero_le _) (by rw [List.drop_zero,List.nil_append]; rfl)
 have a2:ev 11401 [pnsD p.rn,pesD p.re,pnsD p.an,pesD p.ae,pvsD p.vl,.int p.n0,.int p.n1,pnsD q.rn,pesD q.re,pnsD q.an,pesD q.ae,pvsD q.vl,.int q.n0,.int q.n1,.int 2,cosD (lst1 p q++lst1 q p),cosD (lst2 p q++lst2 q p),.list [.agg [pnsD p.rn,pesD p.re,pnsD p.an,pesD p.ae,pvsD p.vl,.int p.n0,.int p.n1,pnsD q.rn,pesD q.re,pnsD q.an,pesD q.ae,pvsD q.vl,.int q.n0,.int q.n1],.agg [pnsD q.rn,pesD q.re,pnsD q.an,pesD q.ae,pvsD q.vl,.int q.n0,.int q.n1,pnsD p.rn,pesD p.re,pnsD p.an,pesD p.ae,pvsD p.vl,.int p.n0,.int p.n1]]]=some [cosD (colS x p q)]:=by
  refine ev_by u11401 ?_
  simp only [t11401,go_sem,l2,lm]
  exact a3
 have a1:ev 11401 [pnsD p.rn,pesD p.re,pnsD p.an,pesD p.ae,pvsD p.vl,.int p.n0,.int p.n1,pnsD q.rn,pesD q.re,pnsD q.an,pesD q.ae,pvsD q.vl,.int q.n0,.int q.n1,.int 1,cosD (lst1 p q),cosD (lst2 p q),.list [.agg [pnsD p.rn,pesD p.re,pnsD p.an,pesD p.ae,pvsD p.vl,.int p.n0,.int p.n1,pnsD q.rn,pesD q.re,pnsD q.an,pesD q.ae,pvsD q.vl,.int q.n0,.int q.n1],.agg [pnsD q.rn,pesD q.re,pnsD q.an,pesD q.ae,pvsD q.vl,.int q.n0,.int q.n1,pnsD p.rn,pesD p.re,pnsD p.an,pesD p.ae,pvsD p.vl,.int p.n0,.int p.n1]]]=some [cosD (colS x p q)]:=by
  have h:=e11403 hq hp (pnsD p.rn) (pesD p.re) (pnsD p.an) (pesD p.ae) (pvsD p.vl) (.int p.n0) (.int p.n1) (pnsD q.rn) (pesD q.re) (pnsD q.an) (pesD q.ae) (pvsD q.vl) (.int q.n0) (.int q.n1) (.list [.agg [pnsD p.rn,pesD p.re,pnsD p.an,pesD p.ae,pvsD p.vl,.int p.n0,.int p.n1,pnsD q.rn,pesD q.re,pnsD q.an,pesD q.ae,pvsD q.vl,.int q.n0,.int q.n1],.agg [pnsD q.rn,pesD q.re,pnsD q.an,pesD q.ae,pvsD q.vl,.int q.n0,.int q.n1,pnsD p.rn,pesD p.re,pnsD p.an,pesD p.ae,pvsD p.vl,.int p.n0,.int p.n1]]) 1 (by omega) (lst2 p q) (by omega) 0 (by omega) (lst1 p q) (by omega)
  refine ev_by u11401 ?_
  simp only [t11401,go_sem,l1,lm]
  rw [cond_in (by omega) (by simp)]
  exact h.trans a2
 have a0:ev 11401 [pnsD p.rn,pesD p.re,pnsD p.an,pesD p.ae,pvsD p.vl,.int p.n0,.int p.n1,pnsD q.rn,pesD q.re,pnsD q.an,pesD q.ae,pvsD q.vl,.int q.n0,.int q.n1,.int 0,cosD [],cosD [],.list [.agg [pnsD p.rn,pesD p.re,pnsD p.an,pesD p.ae,pvsD p.vl,.int p.n0,.int p.n1,pnsD q.rn,pesD q.re,pnsD q.an,pesD q.ae,pvsD q.vl,.int q.n0,.int q.n1],.agg [pnsD q.rn,pesD q.re,pnsD q.an,pesD q.ae,pvsD q.vl,.int q.n0,.int q.n1,pnsD p.rn,pesD p.re,pnsD p.an,pesD p.ae,pvsD p.vl,.int p.n0,.int p.n1]]]=some [cosD (colS x p q)]:=by
  have h:=e11403 hp hq (pnsD p.rn) (pesD p.re) (pnsD p.an) (pesD p.ae) (pvsD p.vl) (.int p.n0) (.int p.n1) (pnsD q.rn) (pesD q.re) (pnsD q.an) (pesD q.ae) (pvsD q.vl) (.int q.n0) (.int q.n1) (.list [.agg [pnsD p.rn,pesD p.re,pnsD p.an,pesD p.ae,pvsD p.vl,.int p.n0,.int p.n1,pnsD q.rn,pesD q.re,pnsD q.an,pesD q.ae,pvsD q.vl,.int q.n0,.int q.n1],.agg [pnsD q.rn,pesD q.re,pnsD q.an,pesD q.ae,pvsD q.vl,.int q.n0,.int q.n1,pnsD p.rn,pesD p.re,pnsD p.an,pesD p.ae,pvsD p.vl,.int p.n0,.int p.n1]]) 0 (by omega) [] (by simp; omega) 0 (by omega) [] (by simp; omega)
  refine ev_by u11401 ?_
  simp only [t11401,go_sem,l0,lm]
  rw [cond_in (by omega) (by simp)]
  exact h.trans a1
 show ev 11400 [pnsD p.rn,pesD p.re,pnsD p.an,pesD p.ae,pvsD p.vl,.int p.n0,.int p.n1,pnsD q.rn,pesD q.re,pnsD q.an,pesD q.ae,pvsD q.vl,.int q.n0,.int q.n1]=_
 refine ev_by u11400 ?_
 simp only [t11400,go_sem]
 exact a0
end
end Go.SX.T57
namespace Go.SX.T57
open Go.SX
def mv (n0 d n:Int):Int:=if n0≤n then n+d else n
def mvN (n0 d:Int) (n:Pn):Pn:=⟨mv n0 d n.id,n.ty,n.vals⟩
def mvE (n0 d:Int) (e:Pe):Pe:=⟨mv n0 d e.id,e.ty,mv n0 d e.src,mv n0 d e.dst⟩
def shP (p q:Pt):Pt:=⟨q.rn,q.re,q.an.map (mvN q.n0 (p.n1 - p.n0)),q.ae.map (mvE q.n0 (p.n1 - p.n0)),q.vl,p.n1,p.n1+q.n1 - q.n0⟩
def lfP (p q:Pt):Pt:=⟨q.rn.filter fun n=>!remB p n.id,q.re.filter fun e=>!goneB p e.id,q.an,q.ae,q.vl.filter fun v=>!hasV p v.id v.attr,q.n0,q.n1⟩
def remN (p:Pt) (n:Pn):Bool:=remB p n.id
def goneE (p:Pt) (n:Pe):Bool:=goneB p n.id
def hasW (p:Pt) (n:Pv):Bool:=hasV p n.id n.attr
structure Mov (p q:Pt):Prop where
 d0 : -2000000≤p.n1 - p.n0
 d1:p.n1 - p.n0≤2000000
 b0 : -2000000≤q.n0
 b1:q.n0≤2000000
 b2 : -2000000≤q.n1
 b3:q.n1≤2000000
 c0 : -2000000≤p.n1
 c1:p.n1≤2000000
 an:∀ n,n∈q.an → -2000000≤n.id∧n.id≤2000000
 ae:∀ e,e∈q.ae→(-2000000≤e.id∧e.id≤2000000)∧(-2000000≤e.src∧e.src≤2000000)∧(-2000000≤e.dst∧e.dst≤2000000)
theorem e12600 (n n0 d:Int) (h1 : -2000000≤n∧n≤2000000) (h2 : -2000000≤d) (h3:d≤2000000) (x1 x2 x3 x4 x5 x7:D):ev 12600 [.int n,x1,x2,x3,x4,x5,.int n0,x7,.int d]=some [.int (mv n0 d n)]:=by
 refine ev_by u12600 ?_
 simp only [t12600,go_sem,nowrap (n:=n+d) (by omega) (by omega)]
 unfold mv
 by_cases h:n0≤n
 · rw [cond_le h,if_pos h]
 · rw [cond_nle (by omega),if_neg h]
theorem e22700 (n n0 d:Int) (h1 : -2000000≤n∧n≤2000000) (h2 : -2000000≤d) (h3:d≤2000000):ev 22700 [.int n,.int n0,.int d]=some [.int (mv n0 d n)]:=by
 refine ev_by u22700 ?_
 simp only [t22700,go_sem,nowrap (n:=n+d) (by omega) (by omega)]
 unfold mv
 by_cases h:n0≤n
 · rw [cond_le h,if_pos h]
 · rw [cond_nle (by omega),if_neg h]
section
variable {p q:Pt} (hp:LenP p) (hq:LenP q) (hm:Mov p q)
include hp hq hm
theorem e12503 (x0 x1 x2 x3 x4 x5 x6 x7 x8 x9 x10 x11 x12 x13 x14 x15 x29 x30 x31 x32:D):∀ j,j≤q.ae.length→∀ acc:List Pe,acc.length=j →
 ev 12503 [x0,x1,x2,x3,x4,x5,.int p.n1,x7,x8,x9,x10,x11,x12,x13,x14,x15,pesD q.ae,.int q.ae.length,.int j,pnsD q.rn,pesD q.re,pnsD q.an,pesD q.ae,pvsD q.vl,.int q.n0,.int q.n1,.int (p.n1 - p.n0),pnsD q.rn,pesD q.re,pvsD q.vl,x30,x31,x32,pesD acc]=some [pnsD q.rn,pesD q.re,x32,pesD (acc++(q.ae.drop j).map (mvE q.n0 (p.n1 - p.n0))),pvsD q.vl,.int p.n1,.int (p.n1+q.n1 - q.n0)]:=by
 have hl:=hq.2.2.2.1
 obtain ⟨d0,d1,b0,b1,b2,b3,c0,c1,han,hae⟩:=hm
 refine down ?_ fun j hj ih=>?_
 · intro acc hacc
   rw [List.drop_eq_nil_of_le (Nat.le_refl _),List.map_nil,List.append_nil]
   refine ev_by u12503 ?_
   simp only [t12503,go_sem,ltI_irr,nowrap (n:=p.n1+q.n1) (by omega) (by omega),nowrap (n:=p.n1+q.n1 - q.n0) (by omega) (by omega)]
 · intro acc hacc
   obtain ⟨g1,g2,g3⟩:=hae _ (getD_mem hj)
   have h:=ih (acc++[mvE q.n0 (p.n1 - p.n0) (q.ae.getD j default)]) (by simp [hacc])
   rw [List.append_assoc,List.singleton_append] at h
   rw [drop_step hj,List.map_cons]
   have e1:acc.map Pe.d++[.agg [.int (mv q.n0 (p.n1 - p.n0) (q.ae.getD j default).id),.int (q.ae.getD j default).ty,.int (mv q.n0 (p.n1 - p.n0) (q.ae.getD j default).src),.int (mv q.n0 (p.n1 - p.n0) (q.ae.getD j default).dst)]]=(acc++[mvE q.n0 (p.n1 - p.n0) (q.ae.getD j default)]).map Pe.d:=by simp [mvE]
   refine ev_by u12503 ?_
   simp only [t12503,go_sem,lm,idx_map _ _ _ hj,in_range hj,e12600 _ q.n0 (p.n1 - p.n0) g1 d0 d1,e12600 _ q.n0 (p.n1 - p.n0) g2 d0 d1,e12600 _ q.n0 (p.n1 - p.n0) g3 d0 d1,wrapS j (by omega),le_ok (show acc.length≤1073741824 by omega),e1]
   rw [cond_lt (by omega)]
   exact h
theorem e12501 (x0 x1 x2 x3 x4 x5 x7 x8 x9 x10 x11 x12 x13 x27 x28:D):∀ j,j≤q.an.length→∀ acc:List Pn,acc.length=j →
 ev 12501 [x0,x1,x2,x3,x4,x5,.int p.n1,x7,x8,pnsD q.an,x10,x11,x12,x13,.int q.an.length,.int j,pnsD q.rn,pesD q.re,pnsD q.an,pesD q.ae,pvsD q.vl,.int q.n0,.int q.n1,.int (p.n1 - p.n0),pnsD q.rn,pesD q.re,pvsD q.vl,x27,x28,pnsD acc,pesD []]=some [pnsD q.rn,pesD q.re,pnsD (acc++(q.an.drop j).map (mvN q.n0 (p.n1 - p.n0))),pesD (q.ae.map (mvE q.n0 (p.n1 - p.n0))),pvsD q.vl,.int p.n1,.int (p.n1+q.n1 - q.n0)]:=by
 have hl:=hq.2.2.1
 refine down ?_ fun j hj ih=>?_
 · intro acc hacc
   rw [List.drop_eq_nil_of_le (Nat.le_refl _),List.map_nil,List.append_nil]
   have h:=e12503 hp hq hm x0 x1 x2 x3 x4 x5 (.int p.n1) x7 x8 (pnsD q.an) x10 x11 x12 x13 (.int q.an.length) (.int q.an.length) x27 x27 x28 (pnsD acc) 0 (by omega) [] rfl
   rw [List.drop_zero,List.nil_append] at h
   refine ev_by u12501 ?_
   simp only [t12501,go_sem,lm,ltI_irr]
   exact h
 · intro acc hacc
   obtain ⟨d0,d1,b0,b1,b2,b3,c0,c1,han,hae⟩:=hm
   have g1:=han _ (getD_mem hj)
   have h:=ih (acc++[mvN q.n0 (p.n1 - p.n0) (q.an.getD j default)]) (by simp [hacc])
   rw [List.append_assoc,List.singleton_append] at h
   rw [drop_step hj,List.map_cons]
   have e1:acc.map Pn.d++[.agg [.int (mv q.n0 (p.n1 - p.n0) (q.an.getD j default).id),.int (q.an.getD j default).ty,.list ((q.an.getD j default).vals.map D.int)]]=(acc++[mvN q.n0 (p.n1 - p.n0) (q.an.getD j default)]).map Pn.d:=by simp [mvN]
   refine ev_by u12501 ?_
   simp only [t12501,go_sem,lm,idx_map _ _ _ hj,in_range hj,e12600 _ q.n0 (p.n1 - p.n0) g1 d0 d1,wrapS j (by omega),le_ok (show acc.length≤1073741824 by omega),e1]
   rw [cond_lt (by omega)]
   exact h
theorem e12500:ev 12500 (p.ds++q.ds)=some (shP p q).ds:=by
 have h:=e12501 hp hq hm (pnsD p.rn) (pesD p.re) (pnsD p.an) (pesD p.ae) (pvsD p.vl) (.int p.n0) (pnsD q.rn) (pesD q.re) (pnsD q.an) (pesD q.ae) (pvsD q.vl) (.int q.n0) (.int q.n1) (.int q.n0) (.int q.n1) 0 (by omega) [] rfl
 rw [List.drop_zero,List.nil_append] at h
 obtain ⟨d0,d1,b0,b1,b2,b3,c0,c1,han,hae⟩:=hm
 show ev 12500 [pnsD p.rn,pesD p.re,pnsD p.an,pesD p.ae,pvsD p.vl,.int p.n0,.int p.n1,pnsD q.rn,pesD q.re,pnsD q.an,pesD q.ae,pvsD q.vl,.int q.n0,.int q.n1]=_
 refine ev_by u12500 ?_
 simp only [t12500,go_sem,lm,nowrap (n:=p.n1 - p.n0) (by omega) (by omega)]
 exact h
end
def upto {α:Type} (f:α→α) (l:List α) (i:Nat):List α:=(l.take i).map f++l.drop i
theorem upto_len {α:Type} (f:α→α) (l:List α) (i:Nat):(upto f l i).length=l.length:=by unfold upto; simp; omega
theorem upto_get {α:Type} [Inhabited α] (f:α→α) {l:List α} {i:Nat} (h:i < l.length):(upto f l i).getD i default=l.getD i default:=by
 unfold upto
 rw [List.getD_eq_getElem?_getD,List.getElem?_append_right (by simp; omega),lm,List.length_take,Nat.min_eq_left (by omega),Nat.sub_self,List.getElem?_drop,Nat.add_zero,←List.getD_eq_getElem?_getD]
theorem upto_set {α:Type} [Inhabited α] (f:α→α) {l:List α} {i:Nat} (h:i < l.length):(upto f l i).set i (f (l.getD i default))=upto f l (i+1):=by
 unfold upto
 rw [List.set_append_right _ _ (by simp; omega),lm,List.length_take,Nat.min_eq_left (by omega),Nat.sub_self,drop_step h,List.set_cons_zero,List.take_succ_eq_append_getElem h,List.map_append,List.append_assoc,getD_get h]
 rfl
theorem upto_zero {α:Type} (f:α→α) (l:List α):upto f l 0=l:=by unfold upto; simp
theorem upto_end {α:Type} (f:α→α) (l:List α):upto f l l.length=l.map f:=by unfold upto; simp
section
variable {p q:Pt} (hp:LenP p) (hq:LenP q) (hm:Mov p q) (hqv:ValP q)
include hp hq hm
theorem e22603 (x0 x1 x2 x3 x4 x5 x6 x7 x8 x9 x10 x11 x12 x13 x14 x15 x17 x18 x19 x20 x21 x23:D):∀ j,j≤q.ae.length →
 ev 22603 [x0,x1,x2,x3,x4,x5,.int p.n1,x7,x8,x9,x10,x11,.int q.n0,.int q.n1,.int (p.n1 - p.n0),x15,.int j,x17,x18,x19,x20,x21,pesD (upto (mvE q.n0 (p.n1 - p.n0)) q.ae j),x23]=some [x19,x20,x21,pesD (q.ae.map (mvE q.n0 (p.n1 - p.n0))),x23,.int p.n1,.int (p.n1+q.n1 - q.n0)]:=by
 have hl:=hq.2.2.2.1
 obtain ⟨d0,d1,b0,b1,b2,b3,c0,c1,han,hae⟩:=hm
 refine down ?_ fun j hj ih=>?_
 · rw [upto_end]
   refine ev_by u22603 ?_
   simp only [t22603,go_sem,lm,ltI_irr,nowrap (n:=p.n1+q.n1) (by omega) (by omega),nowrap (n:=p.n1+q.n1 - q.n0) (by omega) (by omega)]
 · obtain ⟨g1,g2,g3⟩:=hae _ (getD_mem hj)
   have hlen:=upto_len (mvE q.n0 (p.n1 - p.n0)) q.ae j
   have hju:j < (upto (mvE q.n0 (p.n1 - p.n0)) q.ae j).length:=by omega
   have e1:((upto (mvE q.n0 (p.n1 - p.n0)) q.ae j).map Pe.d).set j (.agg [.int (mv q.n0 (p.n1 - p.n0) (q.ae.getD j default).id),.int (q.ae.getD j default).ty,.int (mv q.n0 (p.n1 - p.n0) (q.ae.getD j default).src),.int (mv q.n0 (p.n1 - p.n0) (q.ae.getD j default).dst)])=(upto (mvE q.n0 (p.n1 - p.n0)) q.ae (j+1)).map Pe.d:=by
    rw [←upto_set _ hj,←map_set' Pe.d]
    rfl
   refine ev_by u22603 ?_
   simp only [t22603,go_sem,lm,hlen,idx_map _ _ _ hju,upto_get _ hj,in_range hj,e22700 _ q.n0 (p.n1 - p.n0) g1 d0 d1,e22700 _ q.n0 (p.n1 - p.n0) g2 d0 d1,e22700 _ q.n0 (p.n1 - p.n0) g3 d0 d1,wrapS j (by omega),e1]
   rw [cond_lt (by omega)]
   exact ih
theorem e22601 (x0 x1 x2 x3 x4 x5 x7 x8 x9 x10 x11 x16 x17 x18 x19 x22:D):∀ j,j≤q.an.length →
 ev 22601 [x0,x1,x2,x3,x4,x5,.int p.n1,x7,x8,x9,x10,x11,.int q.n0,.int q.n1,.int (p.n1 - p.n0),.int j,x16,x17,x18,x19,pnsD (upto (mvN q.n0 (p.n1 - p.n0)) q.an j),pesD q.ae,x22]=some [x18,x19,pnsD (q.an.map (mvN q.n0 (p.n1 - p.n0))),pesD (q.ae.map (mvE q.n0 (p.n1 - p.n0))),x22,.int p.n1,.int (p.n1+q.n1 - q.n0)]:=by
 have hl:=hq.2.2.1
 refine down ?_ fun j hj ih=>?_
 · rw [upto_end]
   have h:=e22603 hp hq hm x0 x1 x2 x3 x4 x5 (.int p.n1) x7 x8 x9 x10 x11 (.int q.n0) (.int q.n1) (.int (p.n1 - p.n0)) (.int q.an.length) x16 x17 x18 x19 (pnsD (q.an.map (mvN q.n0 (p.n1 - p.n0)))) x22 0 (by omega)
   rw [upto_zero] at h
   refine ev_by u22601 ?_
   simp only [t22601,go_sem,lm,ltI_irr]
   exact h
 · obtain ⟨d0,d1,b0,b1,b2,b3,c0,c1,han,hae⟩:=hm
   have g1:=han _ (getD_mem hj)
   have hlen:=upto_len (mvN q.n0 (p.n1 - p.n0)) q.an j
   have hju:j < (upto (mvN q.n0 (p.n1 - p.n0)) q.an j).length:=by omega
   have e1:((upto (mvN q.n0 (p.n1 - p.n0)) q.an j).map Pn.d).set j (.agg [.int (mv q.n0 (p.n1 - p.n0) (q.an.getD j default).id),.int (q.an.getD j default).ty,.list ((q.an.getD j default).vals.map D.int)])=(upto (mvN q.n0 (p.n1 - p.n0)) q.an (j+1)).map Pn.d:=by
    rw [←upto_set _ hj,←map_set' Pn.d]
    rfl
   refine ev_by u22601 ?_
   simp only [t22601,go_sem,lm,hlen,idx_map _ _ _ hju,upto_get _ hj,in_range hj,e22700 _ q.n0 (p.n1 - p.n0) g1 d0 d1,wrapS j (by omega),e1]
   rw [cond_lt (by omega)]
   exact ih
include hqv
theorem e22600:ev 22600 (p.ds++q.ds)=some (shP p q).ds:=by
 have h:=e22601 hp hq hm (pnsD p.rn) (pesD p.re) (pnsD p.an) (pesD p.ae) (pvsD p.vl) (.int p.n0) (pnsD q.rn) (pesD q.re) (pnsD q.an) (pesD q.ae) (pvsD q.vl) (.int q.n0) (.int q.n1) (pnsD q.rn) (pesD q.re) (pvsD q.vl) 0 (by omega)
 rw [upto_zero] at h
 have hc:=e16900 hq hqv
 replace hc:ev 16900 [pnsD q.rn,pesD q.re,pnsD q.an,pesD q.ae,pvsD q.vl,.int q.n0,.int q.n1]=some [pnsD q.rn,pesD q.re,pnsD q.an,pesD q.ae,pvsD q.vl,.int q.n0,.int q.n1]:=hc
 obtain ⟨d0,d1,b0,b1,b2,b3,c0,c1,han,hae⟩:=hm
 show ev 22600 [pnsD p.rn,pesD p.re,pnsD p.an,pesD p.ae,pvsD p.vl,.int p.n0,.int p.n1,pnsD q.rn,pesD q.re,pnsD q.an,pesD q.ae,pvsD q.vl,.int q.n0,.int q.n1]=_
 refine ev_by u22600 ?_
 simp only [t22600,go_sem,hc,nowrap (n:=p.n1 - p.n0) (by omega) (by omega)]
 exact h
end
theorem e12800 {l:List Pn} (hl:l.length≤1000000):ev 12800 [pnsD l]=some [pnsD l]:=by
 refine ev_by u12800 ?_
 unfold t12800
 have h1:(T.ck (.o2 .le (.o1 .len (.v 0)) (.i 1073741824)) (.ret [.v 0])).go ev [pnsD l]=some [pnsD l]:=by
  simp only [go_sem,lm]
  rw [cond_le (by omega)]
 rw [go_am_eq]
 · exact h1
 · intro h0
   have h0' : l.map Pn.d=[]:=h0
   rw [h1]
   show some [D.list []]=some [D.list (l.map Pn.d)]
   rw [h0']
theorem e13200 {l:List Pe} (hl:l.length≤1000000):ev 13200 [pesD l]=some [pesD l]:=by
 refine ev_by u13200 ?_
 unfold t13200
 have h1:(T.ck (.o2 .le (.o1 .len (.v 0)) (.i 1073741824)) (.ret [.v 0])).go ev [pesD l]=some [pesD l]:=by
  simp only [go_sem,lm]
  rw [cond_le (by omega)]
 rw [go_am_eq]
 · exact h1
 · intro h0
   have h0' : l.map Pe.d=[]:=h0
   rw [h1]
   show some [D.list []]=some [D.list (l.map Pe.d)]
   rw [h0']
theorem e13900 {l:List Pv} (hl:l.length≤1000000):ev 13900 [pvsD l]=some [pvsD l]:=by
 refine ev_by u13900 ?_
 unfold t13900
 have h1:(T.ck (.o2 .le (.o1 .len (.v 0)) (.i 1073741824)) (.ret [.v 0])).go ev [pvsD l]=some [pvsD l]:=by
  simp only [go_sem,lm]
  rw [cond_le (by omega)]
 rw [go_am_eq]
 · exact h1
 · intro h0
   have h0' : l.map Pv.d=[]:=h0
   rw [h1]
   show some [D.list []]=some [D.list (l.map Pv.d)]
   rw [h0']
section
variable {p:Pt} (hp:LenP p)
include hp
theorem e13100 (n:Pn):ev 13100 [.int n.id,.int n.ty,intsD n.vals,pnsD p.rn,pesD p.re,pnsD p.an,pesD p.ae,pvsD p.vl,.int p.n0,.int p.n1]=some [.bool (remN p n)]:=by
 refine ev_by u13100 ?_
 simp only [t13100,go_sem,e11500 hp n.id]
 rfl
theorem e13701 (l:List Pe) (hl:l.length≤1000000) (n:Int) (x2 x3 x4 y:D):∀ i,i≤l.length→ev 13701 [pesD l,.int n,x2,x3,x4,y,.int l.length,.int i]=some [.int (findK (fun j=>eqI (l.getD j default).id n) (l.length - i) i)]:=by
 have h99:∀ (m:Int) (u v w:D),ev 13800 [.int m,u,v,w,.int n,x2,x3,x4]=some [.bool (eqI m n)]:=fun m u v w=>by
  refine ev_by u13800 ?_
  simp only [t13800,go_sem]
  rw [eqI_comm]
 refine down ?_ fun i hi ih=>?_
 · refine ev_by u13701 ?_
   simp only [t13701,go_sem,findK_end,ltI_irr]
 · refine ev_by u13701 ?_
   simp only [t13701,go_sem,lm,idx_map _ _ _ hi,in_range hi,h99,wrapS i (by omega),ih]
   rw [findK_step _ hi,cond_lt (by omega)]
   cases eqI (l.getD i default).id n <;> rfl
theorem e13500 (n:Pe):ev 13500 [.int n.id,.int n.ty,.int n.src,.int n.dst,pnsD p.rn,pesD p.re,pnsD p.an,pesD p.ae,pvsD p.vl,.int p.n0,.int p.n1]=some [.bool (goneE p n)]:=by
 have hl:=hp.2.1
 have h:ev 13700 [pesD p.re,.int n.id,.int n.ty,.int n.src,.int n.dst]=some [.int (findK (fun j=>eqI (p.re.getD j default).id n.id) p.re.length 0)]:=by
  refine ev_by u13700 ?_
  simp only [t13700,go_sem,lm]
  exact e13701 hp p.re hl n.id _ _ _ _ 0 (by omega)
 have h2:ev 13600 [pesD p.re,.int n.id,.int n.ty,.int n.src,.int n.dst]=some [.bool (goneB p n.id)]:=by
  refine ev_by u13600 ?_
  simp only [t13600,go_sem,h,leI_find]
  rw [←Nat.sub_zero p.re.length,anyK_any (fun v:Pe=>eqI v.id n.id) p.re 0 (Nat.zero_le _)]
  rfl
 refine ev_by u13500 ?_
 simp only [t13500,go_sem,h2]
 rfl
theorem e14401 (l:List Pv) (hl:l.length≤1000000) (n a:Int) (x3 x4 y:D):∀ i,i≤l.length→ev 14401 [pvsD l,.int n,.int a,x3,x4,y,.int l.length,.int i]=some [.int (findK (fun j=>isV n a (l.getD j default)) (l.length - i) i)]:=by
 have h99:∀ (v:Pv) (u w:D),ev 14500 [.int v.id,.int v.attr,u,w,.int n,.int a,x3,x4]=some [.bool (isV n a v)]:=fun v u w=>by
  refine ev_by u14500 ?_
  simp only [t14500,go_sem]
  unfold isV
  rw [eqI_comm n,eqI_comm a]
  cases eqI v.id n <;> rfl
 refine down ?_ fun i hi ih=>?_
 · refine ev_by u14401 ?_
   simp only [t14401,go_sem,findK_end,ltI_irr]
 · refine ev_by u14401 ?_
   simp only [t14401,go_sem,lm,idx_map _ _ _ hi,in_range hi,h99,wrapS i (by omega),ih]
   rw [findK_step _ hi,cond_lt (by omega)]
   cases isV n a (l.getD i default) <;> rfl
theorem e14200 (n:Pv):ev 14200 [.int n.id,.int n.attr,.int n.old,.int n.new,pnsD p.rn,pesD p.re,pnsD p.an,pesD p.ae,pvsD p.vl,.int p.n0,.int p.n1]=some [.bool (hasW p n)]:=by
 have hl:=hp.2.2.2.2
 have h:ev 14400 [pvsD p.vl,.int n.id,.int n.attr,.int n.old,.int n.new]=some [.int (findK (fun j=>isV n.id n.attr (p.vl.getD j default)) p.vl.length 0)]:=by
  refine ev_by u14400 ?_
  simp only [t14400,go_sem,lm]
  exact e14401 hp p.vl hl n.id n.attr _ _ _ 0 (by omega)
 have h2:ev 14300 [pvsD p.vl,.int n.id,.int n.attr,.int n.old,.int n.new]=some [.bool (hasV p n.id n.attr)]:=by
  refine ev_by u14300 ?_
  simp only [t14300,go_sem,h,leI_find]
  rw [←Nat.sub_zero p.vl.length,anyK_any (isV n.id n.attr) p.vl 0 (Nat.zero_le _)]
  rfl
 refine ev_by u14200 ?_
 simp only [t14200,go_sem,h2]
 rfl
theorem e13001 (l:List Pn) (hl:l.length≤1000000) (y:D):∀ i,i≤l.length→ev 13001 [pnsD l,pnsD p.rn,pesD p.re,pnsD p.an,pesD p.ae,pvsD p.vl,.int p.n0,.int p.n1,y,.int l.length,.int i]=some [.int (findK (fun j=>remN p (l.getD j default)) (l.length - i) i)]:=by
 refine down ?_ fun i hi ih=>?_
 · refine ev_by u13001 ?_
   simp only [t13001,go_sem,findK_end,ltI_irr]
 · have h:=e13100 hp (l.getD i default)
   refine ev_by u13001 ?_
   simp only [t13001,go_sem,lm,idx_map _ _ _ hi,in_range hi,h,wrapS i (by omega),ih]
   rw [findK_step _ hi,cond_lt (by omega)]
   cases remN p (l.getD i default) <;> rfl
theorem e12901 (l:List Pn) (hl:l.length≤1000000):∀ j,j≤l.length→∀ (s:List Pn) (w:Nat),s.length=l.length→w < j→s.drop j=l.drop j →
 ev 12901 [pnsD p.rn,pesD p.re,pnsD p.an,pesD p.ae,pvsD p.vl,.int p.n0,.int p.n1,.int w,.int j,pnsD s]=some [pnsD (s.take w++(l.drop j).filter fun n=>!remN p n)]:=by
 refine down ?_ fun j hj ih=>?_
 · intro s w hs hw hd
   rw [List.drop_eq_nil_of_le (Nat.le_refl _),List.filter_nil,List.append_nil]
   refine ev_by u12901 ?_
   simp only [t12901,go_sem,lm,hs,ltI_irr]
   rw [cond_le (by omega),cond_le (by omega),cond_le (by omega),cond_le (by simp [List.length_take,hs]; omega)]
   rw [List.take_append_of_le_length (by simp [hs]; omega),List.take_take,Nat.min_self,←List.map_take]
 · intro s w hs hw hd
   have s1:j < s.length:=by omega
   have q1:s.getD j default=l.getD j default:=by
    have:=congrArg (fun z=>z.getD 0 default) hd
    simpa [List.getD_eq_getElem?_getD,List.getElem?_drop] using this
   have hd1:s.drop (j+1)=l.drop (j+1):=by
    have:=congrArg (fun z=>z.drop 1) hd
    simpa [List.drop_drop] using this
   have hc:=e13100 hp (l.getD j default)
   rw [drop_step hj,List.filter_cons]
   cases c:remN p (l.getD j default)
   · rw [c] at hc
     have hw' : w < s.length:=by omega
     have h:=ih (s.set w (l.getD j default)) (w+1) (by rw [List.length_set,hs]) (by omega) (by
      rw [List.drop_set,if_pos (by omega)]
      exact hd1)
     have e2:(s.set w (l.getD j default)).take (w+1)=s.take w++[l.getD j default]:=by
      rw [List.take_succ_eq_append_getElem (by rw [List.length_set]; exact hw'),List.getElem_set_self,List.take_set_of_le (Nat.le_refl _)]
     rw [e2,List.append_assoc,List.singleton_append] at h
     have e1:(s.map Pn.d).set w (.agg [.int (l.getD j default).id,.int (l.getD j default).ty,.list ((l.getD j default).vals.map D.int)])=(s.set w (l.getD j default)).map Pn.d:=by
      rw [←map_set' Pn.d]
     refine ev_by u12901 ?_
     simp only [t12901,go_sem,lm,hs,idx_map _ _ _ s1,q1,in_range hj,hc,in_range (show w < l.length by omega),wrapS w (by omega),wrapS j (by omega),e1]
     rw [cond_lt (by omega)]
     exact h
   · rw [c] at hc
     have h:=ih s w hs (by omega) hd1
     refine ev_by u12901 ?_
     simp only [t12901,go_sem,lm,hs,idx_map _ _ _ s1,q1,in_range hj,hc,wrapS j (by omega)]
     rw [cond_lt (by omega)]
     exact h
theorem e12900 (l:List Pn) (hl:l.length≤1000000):ev 12900 [pnsD l,pnsD p.rn,pesD p.re,pnsD p.an,pesD p.ae,pvsD p.vl,.int p.n0,.int p.n1]=some [pnsD (l.filter fun n=>!remN p n)]:=by
 have h:ev 13000 [pnsD l,pnsD p.rn,pesD p.re,pnsD p.an,pesD p.ae,pvsD p.vl,.int p.n0,.int p.n1]=some [.int (findK (fun j=>remN p (l.getD j default)) l.length 0)]:=by
  refine ev_by u13000 ?_
  simp only [t13000,go_sem,lm]
  exact e13001 hp l hl _ 0 (by omega)
 rcases findK_some (p:=fun j=>remN p (l.getD j default)) l.length 0 with ⟨g1,g2⟩ | ⟨i,g1,g2,g3,g4,g5⟩
 · rw [g1] at h
   have he:(l.filter fun n=>!remN p n)=l:=by
    rw [List.filter_eq_self]
    intro a ha
    obtain ⟨k,hk,rfl⟩:=List.getElem_of_mem ha
    have:=g2 k (by omega) (by omega)
    rw [getD_get hk] at this
    rw [this]
    rfl
   rw [he]
   refine ev_by u12900 ?_
   simp only [t12900,go_sem,h,eq_t (show (-1:Int) = -1 from rfl)]
 · rw [g4] at h
   have hi:i < l.length:=by omega
   have hr:=e12901 hp l hl (i+1) (by omega) l i rfl (by omega) rfl
   have he:(l.filter fun n=>!remN p n)=l.take i++(l.drop (i+1)).filter fun n=>!remN p n:=by
    conv=>lhs; rw [←List.take_append_drop i l]
    rw [List.filter_append,drop_step hi,List.filter_cons,if_neg (by rw [g3]; exact Bool.false_ne_true)]
    congr 1
    rw [List.filter_eq_self]
    intro a ha
    obtain ⟨k,hk,rfl⟩:=List.getElem_of_mem ha
    rw [List.length_take] at hk
    have:=g5 k (by omega) (by omega)
    rw [getD_get (by omega)] at this
    rw [List.getElem_take,this]
    rfl
   rw [he]
   refine ev_by u12900 ?_
   simp only [t12900,go_sem,h,wrapS i (by omega)]
   rw [cond_ne (by omega)]
   exact hr
theorem e13401 (l:List Pe) (hl:l.length≤1000000) (y:D):∀ i,i≤l.length→ev 13401 [pesD l,pnsD p.rn,pesD p.re,pnsD p.an,pesD p.ae,pvsD p.vl,.int p.n0,.int p.n1,y,.int l.length,.int i]=some [.int (findK (fun j=>goneE p (l.getD j default)) (l.length - i) i)]:=by
 refine down ?_ fun i hi ih=>?_
 · refine ev_by u13401 ?_
   simp only [t13401,go_sem,findK_end,ltI_irr]
 · have h:=e13500 hp (l.getD i default)
   refine ev_by u13401 ?_
   simp only [t13401,go_sem,lm,idx_map _ _ _ hi,in_range hi,h,wrapS i (by omega),ih]
   rw [findK_step _ hi,cond_lt (by omega)]
   cases goneE p (l.getD i default) <;> rfl
theorem e13301 (l:List Pe) (hl:l.length≤1000000):∀ j,j≤l.length→∀ (s:List Pe) (w:Nat),s.length=l.length→w < j→s.drop j=l.drop j →
 ev 13301 [pnsD p.rn,pesD p.re,pnsD p.an,pesD p.ae,pvsD p.vl,.int p.n0,.int p.n1,.int w,.int j,pesD s]=some [pesD (s.take w++(l.drop j).filter fun n=>!goneE p n)]:=by
 refine down ?_ fun j hj ih=>?_
 · intro s w hs hw hd
   rw [List.drop_eq_nil_of_le (Nat.le_refl _),List.filter_nil,List.append_nil]
   refine ev_by u13301 ?_
   simp only [t13301,go_sem,lm,hs,ltI_irr]
   rw [cond_le (by omega),cond_le (by omega),cond_le (by omega),cond_le (by simp [List.length_take,hs]; omega)]
   rw [List.take_append_of_le_length (by simp [hs]; omega),List.take_take,Nat.min_self,←List.map_take]
 · intro s w hs hw hd
   have s1:j < s.length:=by omega
   have q1:s.getD j default=l.getD j default:=by
    have:=congrArg (fun z=>z.getD 0 default) hd
    simpa [List.getD_eq_getElem?_getD,List.getElem?_drop] using this
   have hd1:s.drop (j+1)=l.drop (j+1):=by
    have:=congrArg (fun z=>z.drop 1) hd
    simpa [List.drop_drop] using this
   have hc:=e13500 hp (l.getD j default)
   rw [drop_step hj,List.filter_cons]
   cases c:goneE p (l.getD j default)
   · rw [c] at hc
     have hw' : w < s.length:=by omega
     have h:=ih (s.set w (l.getD j default)) (w+1) (by rw [List.length_set,hs]) (by omega) (by
      rw [List.drop_set,if_pos (by omega)]
      exact hd1)
     have e2:(s.set w (l.getD j default)).take (w+1)=s.take w++[l.getD j default]:=by
      rw [List.take_succ_eq_append_getElem (by rw [List.length_set]; exact hw'),List.getElem_set_self,List.take_set_of_le (Nat.le_refl _)]
     rw [e2,List.append_assoc,List.singleton_append] at h
     have e1:(s.map Pe.d).set w (.agg [.int (l.getD j default).id,.int (l.getD j default).ty,.int (l.getD j default).src,.int (l.getD j default).dst])=(s.set w (l.getD j default)).map Pe.d:=by
      rw [←map_set' Pe.d]
     refine ev_by u13301 ?_
     simp only [t13301,go_sem,lm,hs,idx_map _ _ _ s1,q1,in_range hj,hc,in_range (show w < l.length by omega),wrapS w (by omega),wrapS j (by omega),e1]
     rw [cond_lt (by omega)]
     exact h
   · rw [c] at hc
     have h:=ih s w hs (by omega) hd1
     refine ev_by u13301 ?_
     simp only [t13301,go_sem,lm,hs,idx_map _ _ _ s1,q1,in_range hj,hc,wrapS j (by omega)]
     rw [cond_lt (by omega)]
     exact h
theorem e13300 (l:List Pe) (hl:l.length≤1000000):ev 13300 [pesD l,pnsD p.rn,pesD p.re,pnsD p.an,pesD p.ae,pvsD p.vl,.int p.n0,.int p.n1]=some [pesD (l.filter fun n=>!goneE p n)]:=by
 have h:ev 13400 [pesD l,pnsD p.rn,pesD p.re,pnsD p.an,pesD p.ae,pvsD p.vl,.int p.n0,.int p.n1]=some [.int (findK (fun j=>goneE p (l.getD j default)) l.length 0)]:=by
  refine ev_by u13400 ?_
  simp only [t13400,go_sem,lm]
  exact e13401 hp l hl _ 0 (by omega)
 rcases findK_some (p:=fun j=>goneE p (l.getD j default)) l.length 0 with ⟨g1,g2⟩ | ⟨i,g1,g2,g3,g4,g5⟩
 · rw [g1] at h
   have he:(l.filter fun n=>!goneE p n)=l:=by
    rw [List.filter_eq_self]
    intro a ha
    obtain ⟨k,hk,rfl⟩:=List.getElem_of_mem ha
    have:=g2 k (by omega) (by omega)
    rw [getD_get hk] at this
    rw [this]
    rfl
   rw [he]
   refine ev_by u13300 ?_
   simp only [t13300,go_sem,h,eq_t (show (-1:Int) = -1 from rfl)]
 · rw [g4] at h
   have hi:i < l.length:=by omega
   have hr:=e13301 hp l hl (i+1) (by omega) l i rfl (by omega) rfl
   have he:(l.filter fun n=>!goneE p n)=l.take i++(l.drop (i+1)).filter fun n=>!goneE p n:=by
    conv=>lhs; rw [←List.take_append_drop i l]
    rw [List.filter_append,drop_step hi,List.filter_cons,if_neg (by rw [g3]; exact Bool.false_ne_true)]
    congr 1
    rw [List.filter_eq_self]
    intro a ha
    obtain ⟨k,hk,rfl⟩:=List.getElem_of_mem ha
    rw [List.length_take] at hk
    have:=g5 k (by omega) (by omega)
    rw [getD_get (by omega)] at this
    rw [List.getElem_take,this]
    rfl
   rw [he]
   refine ev_by u13300 ?_
   simp only [t13300,go_sem,h,wrapS i (by omega)]
   rw [cond_ne (by omega)]
   exact hr
theorem e14101 (l:List Pv) (hl:l.length≤1000000) (y:D):∀ i,i≤l.length→ev 14101 [pvsD l,pnsD p.rn,pesD p.re,pnsD p.an,pesD p.ae,pvsD p.vl,.int p.n0,.int p.n1,y,.int l.length,.int i]=some [.int (findK (fun j=>hasW p (l.getD j default)) (l.length - i) i)]:=by
 refine down ?_ fun i hi ih=>?_
 · refine ev_by u14101 ?_
   simp only [t14101,go_sem,findK_end,ltI_irr]
 · have h:=e14200 hp (l.getD i default)
   refine ev_by u14101 ?_
   simp only [t14101,go_sem,lm,idx_map _ _ _ hi,in_range hi,h,wrapS i (by omega),ih]
   rw [findK_step _ hi,cond_lt (by omega)]
   cases hasW p (l.getD i default) <;> rfl
theorem e14001 (l:List Pv) (hl:l.length≤1000000):∀ j,j≤l.length→∀ (s:List Pv) (w:Nat),s.length=l.length→w < j→s.drop j=l.drop j →
 ev 14001 [pnsD p.rn,pesD p.re,pnsD p.an,pesD p.ae,pvsD p.vl,.int p.n0,.int p.n1,.int w,.int j,pvsD s]=some [pvsD (s.take w++(l.drop j).filter fun n=>!hasW p n)]:=by
 refine down ?_ fun j hj ih=>?_
 · intro s w hs hw hd
   rw [List.drop_eq_nil_of_le (Nat.le_refl _),List.filter_nil,List.append_nil]
   refine ev_by u14001 ?_
   simp only [t14001,go_sem,lm,hs,ltI_irr]
   rw [cond_le (by omega),cond_le (by omega),cond_le (by omega),cond_le (by simp [List.length_take,hs]; omega)]
   rw [List.take_append_of_le_length (by simp [hs]; omega),List.take_take,Nat.min_self,←List.map_take]
 · intro s w hs hw hd
   have s1:j < s.length:=by omega
   have q1:s.getD j default=l.getD j default:=by
    have:=congrArg (fun z=>z.getD 0 default) hd
    simpa [List.getD_eq_getElem?_getD,List.getElem?_drop] using this
   have hd1:s.drop (j+1)=l.drop (j+1):=by
    have:=congrArg (fun z=>z.drop 1) hd
    simpa [List.drop_drop] using this
   have hc:=e14200 hp (l.getD j default)
   rw [drop_step hj,List.filter_cons]
   cases c:hasW p (l.getD j default)
   · rw [c] at hc
     have hw' : w < s.length:=by omega
     have h:=ih (s.set w (l.getD j default)) (w+1) (by rw [List.length_set,hs]) (by omega) (by
      rw [List.drop_set,if_pos (by omega)]
      exact hd1)
     have e2:(s.set w (l.getD j default)).take (w+1)=s.take w++[l.getD j default]:=by
      rw [List.take_succ_eq_append_getElem (by rw [List.length_set]; exact hw'),List.getElem_set_self,List.take_set_of_le (Nat.le_refl _)]
     rw [e2,List.append_assoc,List.singleton_append] at h
     have e1:(s.map Pv.d).set w (.agg [.int (l.getD j default).id,.int (l.getD j default).attr,.int (l.getD j default).old,.int (l.getD j default).new])=(s.set w (l.getD j default)).map Pv.d:=by
      rw [←map_set' Pv.d]
     refine ev_by u14001 ?_
     simp only [t14001,go_sem,lm,hs,idx_map _ _ _ s1,q1,in_range hj,hc,in_range (show w < l.length by omega),wrapS w (by omega),wrapS j (by omega),e1]
     rw [cond_lt (by omega)]
     exact h
   · rw [c] at hc
     have h:=ih s w hs (by omega) hd1
     refine ev_by u14001 ?_
     simp only [t14001,go_sem,lm,hs,idx_map _ _ _ s1,q1,in_range hj,hc,wrapS j (by omega)]
     rw [cond_lt (by omega)]
     exact h
theorem e14000 (l:List Pv) (hl:l.length≤1000000):ev 14000 [pvsD l,pnsD p.rn,pesD p.re,pnsD p.an,pesD p.ae,pvsD p.vl,.int p.n0,.int p.n1]=some [pvsD (l.filter fun n=>!hasW p n)]:=by
 have h:ev 14100 [pvsD l,pnsD p.rn,pesD p.re,pnsD p.an,pesD p.ae,pvsD p.vl,.int p.n0,.int p.n1]=some [.int (findK (fun j=>hasW p (l.getD j default)) l.length 0)]:=by
  refine ev_by u14100 ?_
  simp only [t14100,go_sem,lm]
  exact e14101 hp l hl _ 0 (by omega)
 rcases findK_some (p:=fun j=>hasW p (l.getD j default)) l.length 0 with ⟨g1,g2⟩ | ⟨i,g1,g2,g3,g4,g5⟩
 · rw [g1] at h
   have he:(l.filter fun n=>!hasW p n)=l:=by
    rw [List.filter_eq_self]
    intro a ha
    obtain ⟨k,hk,rfl⟩:=List.getElem_of_mem ha
    have:=g2 k (by omega) (by omega)
    rw [getD_get hk] at this
    rw [this]
    rfl
   rw [he]
   refine ev_by u14000 ?_
   simp only [t14000,go_sem,h,eq_t (show (-1:Int) = -1 from rfl)]
 · rw [g4] at h
   have hi:i < l.length:=by omega
   have hr:=e14001 hp l hl (i+1) (by omega) l i rfl (by omega) rfl
   have he:(l.filter fun n=>!hasW p n)=l.take i++(l.drop (i+1)).filter fun n=>!hasW p n:=by
    conv=>lhs; rw [←List.take_append_drop i l]
    rw [List.filter_append,drop_step hi,List.filter_cons,if_neg (by rw [g3]; exact Bool.false_ne_true)]
    congr 1
    rw [List.filter_eq_self]
    intro a ha
    obtain ⟨k,hk,rfl⟩:=List.getElem_of_mem ha
    rw [List.length_take] at hk
    have:=g5 k (by omega) (by omega)
    rw [getD_get (by omega)] at this
    rw [List.getElem_take,this]
    rfl
   rw [he]
   refine ev_by u14000 ?_
   simp only [t14000,go_sem,h,wrapS i (by omega)]
   rw [cond_ne (by omega)]
   exact hr
/-! ### The specification's way -/
variable {q:Pt} (hq:LenP q)
include hq
theorem e22805 (x0 x1 x2 x3 x4 x5 x6 x7 x8 x9 x10 x11 x12 x13 x14 x15 x16 x24 x25 x26 x27 x29 x30 x31 x32 x33 x34 x35 x36:D):∀ i,i≤q.vl.length→∀ acc:List Pv,acc.length≤i →
 ev 22805 [x0,x1,x2,x3,x4,x5,x6,x7,x8,x9,x10,x11,x12,x13,x14,x15,.int i,pnsD p.rn,pesD p.re,pnsD p.an,pesD p.ae,pvsD p.vl,.int p.n0,.int p.n1,x24,x25,x26,x27,pvsD q.vl,x29,x30,x31,x32,x33,x34,x35,x36,pvsD acc]=some [x33,x34,x35,x36,pvsD (acc++(q.vl.drop i).filter fun n=>!hasV p n.id n.attr),x31,x32]:=by
 have hl:=hq.2.2.2.2
 refine down ?_ fun i hi ih=>?_
 · intro acc ha
   rw [List.drop_eq_nil_of_le (Nat.le_refl _),List.filter_nil,List.append_nil]
   refine ev_by u22805 ?_
   simp only [t22805,go_sem,lm,ltI_irr]
 · intro acc ha
   have hv:=e22400 hp (q.vl.getD i default).id (q.vl.getD i default).attr
   have f1:=find_has p (q.vl.getD i default).id (q.vl.getD i default).attr
   obtain ⟨a1,a2,a3,a4,hv⟩ : ∃ a1 a2 a3 a4,ev 22400 [pnsD p.rn,pesD p.re,pnsD p.an,pesD p.ae,pvsD p.vl,.int p.n0,.int p.n1,.int (q.vl.getD i default).id,.int (q.vl.getD i default).attr]=some [.int a1,.int a2,.int a3,.int a4,.bool (hasV p (q.vl.getD i default).id (q.vl.getD i default).attr)]:=by
    rw [hv,←f1]
    cases findV p (q.vl.getD i default).id (q.vl.getD i default).attr <;> exact ⟨_,_,_,_,rfl⟩
   rw [drop_step hi,List.filter_cons]
   cases c:hasV p (q.vl.getD i default).id (q.vl.getD i default).attr
   · rw [c] at hv
     have h:=ih (acc++[q.vl.getD i default]) (by rw [List.length_append,List.length_singleton]; omega)
     rw [List.append_assoc,List.singleton_append] at h
     have e1:acc.map Pv.d++[.agg [.int (q.vl.getD i default).id,.int (q.vl.getD i default).attr,.int (q.vl.getD i default).old,.int (q.vl.getD i default).new]]=(acc++[q.vl.getD i default]).map Pv.d:=by simp
     refine ev_by u22805 ?_
     simp only [t22805,go_sem,lm,idx_map _ _ _ hi,in_range hi,hv,wrapS i (by omega),le_ok (show acc.length≤1073741824 by omega),e1]
     rw [cond_lt (by omega)]
     exact h
   · rw [c] at hv
     refine ev_by u22805 ?_
     simp only [t22805,go_sem,lm,idx_map _ _ _ hi,in_range hi,hv,wrapS i (by omega)]
     rw [cond_lt (by omega)]
     exact ih acc (by omega)
theorem e22803 (x0 x1 x2 x3 x4 x5 x6 x7 x8 x9 x10 x11 x12 x13 x14 x15 x23 x25 x26 x28 x29 x30 x31 x32 x34 x35:D):∀ i,i≤q.re.length→∀ acc:List Pe,acc.length≤i →
 ev 22803 [x0,x1,x2,x3,x4,x5,x6,x7,x8,x9,x10,x11,x12,x13,x14,.int i,pnsD p.rn,pesD p.re,pnsD p.an,pesD p.ae,pvsD p.vl,.int p.n0,.int p.n1,x23,pesD q.re,x25,x26,pvsD q.vl,x28,x29,x30,x31,x32,pesD acc,x34,x35,pvsD []]=some [x32,pesD (acc++(q.re.drop i).filter fun n=>!goneB p n.id),x34,x35,pvsD (q.vl.filter fun n=>!hasV p n.id n.attr),x30,x31]:=by
 have hl:=hq.2.1
 refine down ?_ fun i hi ih=>?_
 · intro acc ha
   rw [List.drop_eq_nil_of_le (Nat.le_refl _),List.filter_nil,List.append_nil]
   have h:=e22805 hp hq x0 x1 x2 x3 x4 x5 x6 x7 x8 x9 x10 x11 x12 x13 x14 (.int q.re.length) x15 x23 (pesD q.re) x25 x26 x28 x29 x30 x31 x32 (pesD acc) x34 x35 0 (by omega) [] (Nat.zero_le _)
   rw [List.drop_zero,List.nil_append] at h
   refine ev_by u22803 ?_
   simp only [t22803,go_sem,lm,ltI_irr]
   exact h
 · intro acc ha
   have hv:=e22900 hp (q.re.getD i default).id
   rw [drop_step hi,List.filter_cons]
   cases c:goneB p (q.re.getD i default).id
   · rw [c] at hv
     have h:=ih (acc++[q.re.getD i default]) (by rw [List.length_append,List.length_singleton]; omega)
     rw [List.append_assoc,List.singleton_append] at h
     have e1:acc.map Pe.d++[.agg [.int (q.re.getD i default).id,.int (q.re.getD i default).ty,.int (q.re.getD i default).src,.int (q.re.getD i default).dst]]=(acc++[q.re.getD i default]).map Pe.d:=by simp
     refine ev_by u22803 ?_
     simp only [t22803,go_sem,lm,idx_map _ _ _ hi,in_range hi,hv,wrapS i (by omega),le_ok (show acc.length≤1073741824 by omega),e1]
     rw [cond_lt (by omega)]
     exact h
   · rw [c] at hv
     refine ev_by u22803 ?_
     simp only [t22803,go_sem,lm,idx_map _ _ _ hi,in_range hi,hv,wrapS i (by omega)]
     rw [cond_lt (by omega)]
     exact ih acc (by omega)
theorem e22801 (x0 x1 x2 x3 x4 x5 x6 x7 x8 x9 x10 x11 x12 x13 x24 x25 x27 x28 x29 x30 x33 x34:D):∀ i,i≤q.rn.length→∀ acc:List Pn,acc.length≤i →
 ev 22801 [x0,x1,x2,x3,x4,x5,x6,x7,x8,x9,x10,x11,x12,x13,.int i,pnsD p.rn,pesD p.re,pnsD p.an,pesD p.ae,pvsD p.vl,.int p.n0,.int p.n1,pnsD q.rn,pesD q.re,x24,x25,pvsD q.vl,x27,x28,x29,x30,pnsD acc,pesD [],x33,x34,pvsD []]=some [pnsD (acc++(q.rn.drop i).filter fun n=>!remB p n.id),pesD (q.re.filter fun n=>!goneB p n.id),x33,x34,pvsD (q.vl.filter fun n=>!hasV p n.id n.attr),x29,x30]:=by
 have hl:=hq.1
 refine down ?_ fun i hi ih=>?_
 · intro acc ha
   rw [List.drop_eq_nil_of_le (Nat.le_refl _),List.filter_nil,List.append_nil]
   have h:=e22803 hp hq x0 x1 x2 x3 x4 x5 x6 x7 x8 x9 x10 x11 x12 x13 (.int q.rn.length) (.int 0) (pnsD q.rn) x24 x25 x27 x28 x29 x30 (pnsD acc) x33 x34 0 (by omega) [] (Nat.zero_le _)
   rw [List.drop_zero,List.nil_append] at h
   refine ev_by u22801 ?_
   simp only [t22801,go_sem,lm,ltI_irr]
   exact h
 · intro acc ha
   have hv:=e22200 hp (q.rn.getD i default).id
   rw [drop_step hi,List.filter_cons]
   cases c:remB p (q.rn.getD i default).id
   · rw [c] at hv
     have h:=ih (acc++[q.rn.getD i default]) (by rw [List.length_append,List.length_singleton]; omega)
     rw [List.append_assoc,List.singleton_append] at h
     have e1:acc.map Pn.d++[.agg [.int (q.rn.getD i default).id,.int (q.rn.getD i default).ty,.list ((q.rn.getD i default).vals.map D.int)]]=(acc++[q.rn.getD i default]).map Pn.d:=by simp
     refine ev_by u22801 ?_
     simp only [t22801,go_sem,lm,idx_map _ _ _ hi,in_range hi,hv,wrapS i (by omega),le_ok (show acc.length≤1073741824 by omega),e1]
     rw [cond_lt (by omega)]
     exact h
   · rw [c] at hv
     refine ev_by u22801 ?_
     simp only [t22801,go_sem,lm,idx_map _ _ _ hi,in_range hi,hv,wrapS i (by omega)]
     rw [cond_lt (by omega)]
     exact ih acc (by omega)
theorem e22800 (hqv:ValP q):ev 22800 (p.ds++q.ds)=some (lfP p q).ds:=by
 have h:=e22801 hp hq (pnsD p.rn) (pesD p.re) (pnsD p.an) (pesD p.ae) (pvsD p.vl) (.int p.n0) (.int p.n1) (pnsD q.rn) (pesD q.re) (pnsD q.an) (pesD q.ae) (pvsD q.vl) (.int q.n0) (.int q.n1) (pnsD q.an) (pesD q.ae) (.int q.n0) (.int q.n1) (.int q.n0) (.int q.n1) (pnsD q.an) (pesD q.ae) 0 (by omega) [] (Nat.zero_le _)
 rw [List.drop_zero,List.nil_append] at h
 have hc:=e16900 hq hqv
 replace hc:ev 16900 [pnsD q.rn,pesD q.re,pnsD q.an,pesD q.ae,pvsD q.vl,.int q.n0,.int q.n1]=some [pnsD q.rn,pesD q.re,pnsD q.an,pesD q.ae,pvsD q.vl,.int q.n0,.int q.n1]:=hc
 show ev 22800 [pnsD p.rn,pesD p.re,pnsD p.an,pesD p.ae,pvsD p.vl,.int p.n0,.int p.n1,pnsD q.rn,pesD q.re,pnsD q.an,pesD q.ae,pvsD q.vl,.int q.n0,.int q.n1]=_
 refine ev_by u22800 ?_
 simp only [t22800,go_sem,hc]
 exact h
theorem e12700:ev 12700 (p.ds++q.ds)=some (lfP p q).ds:=by
 show ev 12700 [pnsD p.rn,pesD p.re,pnsD p.an,pesD p.ae,pvsD p.vl,.int p.n0,.int p.n1,pnsD q.rn,pesD q.re,pnsD q.an,pesD q.ae,pvsD q.vl,.int q.n0,.int q.n1]=_
 refine ev_by u12700 ?_
 simp only [t12700,go_sem,e12800 hq.1,e12900 hp q.rn hq.1,e13200 hq.2.1,e13300 hp q.re hq.2.1,e13900 hq.2.2.2.2,e14000 hp q.vl hq.2.2.2.2]
 rfl
end
end Go.SX.T57
namespace Go.SX.T57
open Go.SX
/-! ### Values of removed nodes -/
section
variable {r:Pt} {y:Trk} (hr:LenP r) (hrv:ValP r) (hv:y.vs.length=y.ns.length) (hn:y.ns.length≤1000000) (hvl:∀ j,j < y.ns.length→(y.vs.getD j default).length≤1000000)
 (H:∀ n,n∈r.rn→∀ j,j < y.ns.length→y.ns.getD j default=n.id→y.vs.getD j default=n.vals)
include hr hrv hv hn hvl H
theorem e23003 (x0 x1 x2 x3 x4 x5 x6 x7 x8 x11 x12 x15 x16 x18 x19 x20 x21:D) (i:Nat) (hi:i < r.rn.length):∀ j,j≤y.ns.length →
 ev 23003 [x0,x1,x2,x3,x4,x5,x6,x7,x8,valsD y.vs,intsD y.ns,x11,x12,.int i,.int j,x15,x16,pnsD r.rn,x18,x19,x20,x21]=ev 23001 [x0,x1,x2,x3,x4,x5,x6,x7,x8,valsD y.vs,intsD y.ns,x11,x12,.int (i+1:Nat),x15,x16,pnsD r.rn,x18,x19,x20,x21]:=by
 have h1:=hr.1
 refine down ?_ fun j hj ih=>?_
 · rw [ev_eq u23003 rfl]
   simp only [t23003,go_sem,lm,ltI_irr,wrapS i (by omega)]
 · have hjv:j < y.vs.length:=by omega
   by_cases he:y.ns.getD j default=(r.rn.getD i default).id
   · have hvv:=H _ (getD_mem hi) j hj he
     have hlen:=hvl j hj
     have e1:(r.rn.map Pn.d).set i (.agg [.int (r.rn.getD i default).id,.int (r.rn.getD i default).ty,.list ((r.rn.getD i default).vals.map D.int)])=r.rn.map Pn.d:=by
      refine (map_set' Pn.d r.rn i (r.rn.getD i default)).trans ?_
      rw [getD_get hi,List.set_getElem_self]
     refine Eq.trans ?_ ih
     rw [hvv] at hlen
     rw [ev_eq u23003 rfl]
     simp only [t23003,go_sem,lm,idx_map _ _ _ hi,idx_map _ _ _ hj,idx_map _ _ _ hjv,in_range hi,in_range hj,in_range hjv,wrapS j (by omega),hvv,le_ok (show (r.rn.getD i default).vals.length≤1073741824 by omega),e1]
     rw [cond_lt (by omega),cond_eq he]
   · refine Eq.trans ?_ ih
     rw [ev_eq u23003 rfl]
     simp only [t23003,go_sem,lm,idx_map _ _ _ hi,idx_map _ _ _ hj,in_range hi,in_range hj,wrapS j (by omega)]
     rw [cond_lt (by omega),cond_ne he]
theorem e23001 (x0 x1 x2 x3 x4 x5 x6 x7 x8 x11 x12 x15 x16 x18 x19 x20 x21:D):∀ i,i≤r.rn.length →
 ev 23001 [x0,x1,x2,x3,x4,x5,x6,x7,x8,valsD y.vs,intsD y.ns,x11,x12,.int i,x15,x16,pnsD r.rn,x18,x19,x20,x21]=some [pnsD r.rn,x18,x19,x20,x21,x15,x16]:=by
 have h1:=hr.1
 refine down ?_ fun i hi ih=>?_
 · refine ev_by u23001 ?_
   simp only [t23001,go_sem,lm,ltI_irr]
 · refine Eq.trans ?_ ((e23003 hr hrv hv hn hvl H x0 x1 x2 x3 x4 x5 x6 x7 x8 x11 x12 x15 x16 x18 x19 x20 x21 i hi 0 (by omega)).trans ih)
   rw [ev_eq u23001 rfl]
   simp only [t23001,go_sem,lm]
   rw [cond_lt (by omega)]
   rfl
theorem e23000:ev 23000 (r.ds++y.ds)=some r.ds:=by
 have hc:=e16900 hr hrv
 replace hc:ev 16900 [pnsD r.rn,pesD r.re,pnsD r.an,pesD r.ae,pvsD r.vl,.int r.n0,.int r.n1]=some [pnsD r.rn,pesD r.re,pnsD r.an,pesD r.ae,pvsD r.vl,.int r.n0,.int r.n1]:=hc
 have h:=e23001 hr hrv hv hn hvl H (pnsD r.rn) (pesD r.re) (pnsD r.an) (pesD r.ae) (pvsD r.vl) (.int r.n0) (.int r.n1) (intsD y.gn) (gesD y.ge) (intsD y.es) (.int y.next) (.int r.n0) (.int r.n1) (pesD r.re) (pnsD r.an) (pesD r.ae) (pvsD r.vl) 0 (by omega)
 show ev 23000 [pnsD r.rn,pesD r.re,pnsD r.an,pesD r.ae,pvsD r.vl,.int r.n0,.int r.n1,intsD y.gn,gesD y.ge,valsD y.vs,intsD y.ns,intsD y.es,.int y.next]=_
 refine ev_by u23000 ?_
 simp only [t23000,go_sem,hc]
 exact h
end
theorem cuts_perm {α:Type} [DecidableEq α]:∀ {r l l' : List α},cuts l r=some l'→l.Perm (r++l')
 | [],l,l',h=>by cases h; exact .refl _
 | n::r,l,l',h=>by
  unfold cuts at h
  obtain ⟨m,h1,h2⟩:=Option.bind_eq_some_iff.1 h
  exact (cut_some h1).2.1.trans ((cuts_perm h2).cons n)
theorem setVs_keep:∀ {r:List Pv} {a a' : List Pn},setVs a r=some a'→∀ n,n∈a→(∀ v,v∈r→v.id≠n.id)→n∈a'
 | [],_,_,h,n,hn,_=>by cases h; exact hn
 | m::r,a,a',h,n,hn,hv=>by
  unfold setVs at h
  obtain ⟨k,h1,h2⟩:=Option.bind_eq_some_iff.1 h
  obtain ⟨g1,rfl⟩:=setV_some h1
  refine setVs_keep h2 n (List.mem_map.2 ⟨n,hn,?_⟩) fun v hv'=>hv v (List.mem_cons_of_mem _ hv')
  unfold upd
  have:canSet m n=false:=by
   unfold canSet
   rw [eq_f (Ne.symm (hv m (by simp))),Bool.false_and]
  rw [this]
  rfl
theorem trk_at {a:List Pn} {b:List Pe} {n:Int} {k:Nat} (hk:k < a.length):(trkOf a b n).ns.getD k default=(a.getD k default).id∧(trkOf a b n).vs.getD k default=(a.getD k default).vals:=by
 constructor
 · show (a.map Pn.id).getD k default=_
   rw [getD_get (by simpa using hk),List.getElem_map,getD_get hk]
 · show (a.map Pn.vals).getD k default=_
   rw [getD_get (by simpa using hk),List.getElem_map,getD_get hk]
section
variable {ns:List Nd} {es:List Ed} {x:Trk} {p q:Pt} {y z:Trk} (ay:App ns es x p y) (az:App ns es x q z)
include ay az
theorem kept_vals (hno:colS x p q=[]):∀ n,n∈(lfP p (shP p q)).rn→∀ j,j < y.ns.length→y.ns.getD j default=n.id→y.vs.getD j default=n.vals:=by
 intro n hn j hj he
 obtain ⟨hn1,hn2⟩:=List.mem_filter.1 (show n∈q.rn.filter fun n=>!remB p n.id from hn)
 have hnr:remB p n.id=false:=by simpa using hn2
 have hrq:remB q n.id=true:=by
  unfold remB
  exact List.any_eq_true.2 ⟨n,hn1,eq_t rfl⟩
 have hx:=az.rn_mem n hn1
 obtain ⟨s,r,h1,h2,rfl⟩:=ay.run
 unfold lessS at h1
 obtain ⟨a1,g1,h1⟩:=Option.bind_eq_some_iff.1 h1
 obtain ⟨b1,g2,h1⟩:=Option.bind_eq_some_iff.1 h1
 obtain ⟨a2,g3,h1⟩:=Option.map_eq_some_iff.1 h1
 subst h1
 have m1:n∈a1:=by
  rcases List.mem_append.1 ((cuts_perm g1).mem_iff.1 hx) with h | h
  · have:remB p n.id=true:=by
     unfold remB
     exact List.any_eq_true.2 ⟨n,h,eq_t rfl⟩
    rw [hnr] at this
    cases this
  · exact h
 have hcol:∀ c,c ∉ col2 x p q:=by
  intro c hc
  have:c∈colS x p q:=by unfold colS; simp [hc]
  rw [hno] at this
  cases this
 have m2:n∈a2:=setVs_keep g3 n m1 fun v hv hid=>by
  have:((2,v.id,v.attr):Co)∈col2 x p q:=(same2 ay az _).2 (List.mem_append.2 (.inr ((mem_lst2 q p _).2 ⟨v,hv,by rw [hid]; exact hrq,rfl⟩)))
  exact hcol _ this
 obtain ⟨_,_,hr⟩:=addS_some h2
 have m3:n∈r.1:=by
  rw [hr]
  exact (mrg_perm _ _ _).mem_iff.2 (List.mem_append.2 (.inl m2))
 obtain ⟨_,_,_,hasc,_,_,_⟩:=trackErr_ok ay.valid
 replace hasc:(r.1.map Pn.id).Pairwise (fun a b=>a < b):=hasc
 rw [List.pairwise_map] at hasc
 have hj' : j < r.1.length:=by
  have:j < (r.1.map Pn.id).length:=hj
  simpa using this
 obtain ⟨k,hk,hkn⟩:=List.getElem_of_mem m3
 obtain ⟨e1,e2⟩:=trk_at (b:=r.2) (n:=p.n1) hj'
 rw [e1] at he
 rw [e2]
 have hu:=pw_uni hasc j k hj' hk (by rw [he,getD_get hk,hkn])
 subst hu
 rw [getD_get hj',hkn]
theorem ends_in {r:List Pn × List Pe} {n:Int} (h0:trackErr ns es (trkOf r.1 r.2 n)=0):∀ e,e∈r.2→(0≤e.src∧e.src < n)∧0≤e.dst∧e.dst < n:=by
 intro e he
 obtain ⟨g1,g2,g3⟩:=track_ids h0
 have hl:lostB (r.1.map Pn.id) e=false:=by
  cases hc:lostB (r.1.map Pn.id) e
  · rfl
  · exact absurd h0 (lost_bad (List.any_eq_true.2 ⟨e,he,hc⟩))
 unfold lostB at hl
 rw [Bool.or_eq_false_iff,ltI_false,ltI_false] at hl
 have key:∀ v:Int,0≤posI (r.1.map Pn.id) v→v∈r.1.map Pn.id:=by
  intro v hv
  have:hasI (r.1.map Pn.id) v=true:=by rw [←posI_has,leI_iff]; exact hv
  unfold hasI at this
  obtain ⟨k,_,hk,hkv⟩:=anyK_true _ _ this
  rw [eqI_iff] at hkv
  rw [hkv]
  exact getD_mem (by omega)
 exact ⟨g1 _ (key _ hl.1),g1 _ (key _ hl.2)⟩
theorem mov_of:Mov p q:=by
 have n1:=ay.next
 have n2:=az.next
 have a1:=ay.at0
 have a2:=az.at0
 obtain ⟨_,_,_,_,_,c1,c2⟩:=trackErr_ok ay.track
 obtain ⟨s,r,h1,h2,rfl⟩:=az.run
 obtain ⟨_,_,hr⟩:=addS_some h2
 obtain ⟨g1,g2,g3⟩:=track_ids az.valid
 have hends:=ends_in ay az az.valid
 refine ⟨by omega,by omega,by omega,by omega,by omega,by omega,by omega,by omega,fun n hn=>?_,fun e he=>?_⟩
 · have hm:n.id∈(trkOf r.1 r.2 q.n1).ns:=by
    refine List.mem_map.2 ⟨n,?_,rfl⟩
    rw [hr]
    exact (mrg_perm _ _ _).mem_iff.2 (List.mem_append.2 (.inr hn))
   have:=g1 _ hm
   replace this:0≤n.id∧n.id < q.n1:=this
   omega
 · have hm0:e∈r.2:=by
    rw [hr]
    exact (mrg_perm _ _ _).mem_iff.2 (List.mem_append.2 (.inr he))
   have hm:e.id∈(trkOf r.1 r.2 q.n1).es:=List.mem_map.2 ⟨e,hm0,rfl⟩
   have:=g2 _ hm
   replace this:0≤e.id∧e.id < q.n1:=this
   have:=hends e hm0
   omega
end
theorem LenP.shP {p q:Pt} (h:LenP q):LenP (shP p q):=by
 obtain ⟨h1,h2,h3,h4,h5⟩:=h
 exact ⟨h1,h2,by simpa [Go.SX.T57.shP] using h3,by simpa [Go.SX.T57.shP] using h4,h5⟩
theorem ValP.shP {p q:Pt} (h:ValP q):ValP (shP p q):=by
 refine ⟨h.1,fun n hn=>?_⟩
 obtain ⟨m,hm,rfl⟩:=List.mem_map.1 (show n∈q.an.map _ from hn)
 exact h.2 m hm
theorem LenP.lfP {p q:Pt} (h:LenP q):LenP (lfP p q):=by
 obtain ⟨h1,h2,h3,h4,h5⟩:=h
 exact ⟨Nat.le_trans (List.length_filter_le _ _) h1,Nat.le_trans (List.length_filter_le _ _) h2,h3,h4,Nat.le_trans (List.length_filter_le _ _) h5⟩
theorem ValP.lfP {p q:Pt} (h:ValP q):ValP (lfP p q):=⟨fun n hn=>h.1 n (List.mem_filter.1 (show n∈q.rn.filter _ from hn)).1,h.2⟩
def mgS (ns:List Nd) (es:List Ed) (y:Trk) (p q:Pt):Except Int Trk :=
 if (40:Int) < y.ns.length+(lfP p (shP p q)).an.length - (lfP p (shP p q)).rn.length then .error 3 else
 if (80:Int) < y.es.length+(lfP p (shP p q)).ae.length - (lfP p (shP p q)).re.length then .error 3 else applyS ns es y (lfP p (shP p q))
theorem mgS_err {ns:List Nd} {es:List Ed} {y:Trk} {p q:Pt} {e:Int} (h:mgS ns es y p q=.error e):e≠0:=by
 unfold mgS at h
 split at h
 · cases h; omega
 · split at h
   · cases h; omega
   · exact applyS_err h
section
variable {ns:List Nd} {es:List Ed} (ht:OkT ns es) {x:Trk} {p q:Pt} {y z:Trk} (h1:x.gn.length≤1000) (h2:x.ge.length≤1000) (h3:x.ns.length≤1000000) (h4:x.es.length≤1000000) (hp:LenP p) (hpv:ValP p) (hq:LenP q) (hqv:ValP q) (hy:applyS ns es x p=.ok y) (hz:applyS ns es x q=.ok z)
include ht h1 h2 h3 h4 hp hpv hq hqv hy hz
theorem e12400:∃ a:List D,a.length=6∧ev 12400 ([ndsD ns,edsD es]++x.ds++p.ds++q.ds)=some (a++exR (mgS ns es y p q))∧((∃ m,mgS ns es y p q=.ok m)→a=y.ds):=by
 have ay:=applyS_ok hy
 have az:=applyS_ok hz
 have hm:=mov_of ay az
 have a1:=e600 ht h1 h2 h3 h4 hp hpv
 rw [hy] at a1
 replace a1:ev 600 [ndsD ns,edsD es,intsD x.gn,gesD x.ge,valsD x.vs,intsD x.ns,intsD x.es,.int x.next,pnsD p.rn,pesD p.re,pnsD p.an,pesD p.ae,pvsD p.vl,.int p.n0,.int p.n1]=some [intsD y.gn,gesD y.ge,valsD y.vs,intsD y.ns,intsD y.es,.int y.next,.int 0]:=a1
 have hs:=e12500 hp hq hm
 replace hs:ev 12500 [pnsD p.rn,pesD p.re,pnsD p.an,pesD p.ae,pvsD p.vl,.int p.n0,.int p.n1,pnsD q.rn,pesD q.re,pnsD q.an,pesD q.ae,pvsD q.vl,.int q.n0,.int q.n1]=some [pnsD (shP p q).rn,pesD (shP p q).re,pnsD (shP p q).an,pesD (shP p q).ae,pvsD (shP p q).vl,.int (shP p q).n0,.int (shP p q).n1]:=hs
 have hw:=e12700 hp hq.shP (q:=shP p q)
 replace hw:ev 12700 [pnsD p.rn,pesD p.re,pnsD p.an,pesD p.ae,pvsD p.vl,.int p.n0,.int p.n1,pnsD (shP p q).rn,pesD (shP p q).re,pnsD (shP p q).an,pesD (shP p q).ae,pvsD (shP p q).vl,.int (shP p q).n0,.int (shP p q).n1]=some [pnsD (lfP p (shP p q)).rn,pesD (lfP p (shP p q)).re,pnsD (lfP p (shP p q)).an,pesD (lfP p (shP p q)).ae,pvsD (lfP p (shP p q)).vl,.int (lfP p (shP p q)).n0,.int (lfP p (shP p q)).n1]:=hw
 obtain ⟨_,hsy,_⟩:=trackErr_ok ay.valid
 have y1:=hsy.n1
 have y2:=hsy.n2
 have y3:=hsy.n3
 have y4:=hsy.e1
 have y5:=hsy.e2
 have hlr:LenP (lfP p (shP p q)):=hq.shP.lfP
 have hvr:ValP (lfP p (shP p q)):=hqv.shP.lfP
 have a2:=e600 ht (x:=y) (p:=lfP p (shP p q)) (by omega) (by omega) (by omega) (by omega) hlr hvr
 replace a2:ev 600 [ndsD ns,edsD es,intsD y.gn,gesD y.ge,valsD y.vs,intsD y.ns,intsD y.es,.int y.next,pnsD (lfP p (shP p q)).rn,pesD (lfP p (shP p q)).re,pnsD (lfP p (shP p q)).an,pesD (lfP p (shP p q)).ae,pvsD (lfP p (shP p q)).vl,.int (lfP p (shP p q)).n0,.int (lfP p (shP p q)).n1]=_:=a2
 have hc:∀ a:Int,eqI a a=true:=fun a=>eq_t rfl
 obtain ⟨k1,k2,k3,k4,k5⟩:=hlr
 have w1:IntKind.i64.wrap (IntKind.i64.wrap ((y.ns.length:Int)+(lfP p (shP p q)).an.length) - (lfP p (shP p q)).rn.length)=y.ns.length+(lfP p (shP p q)).an.length - (lfP p (shP p q)).rn.length:=by
  rw [nowrap (n:=(y.ns.length:Int)+(lfP p (shP p q)).an.length) (by omega) (by omega),nowrap (by omega) (by omega)]
 have w2:IntKind.i64.wrap (IntKind.i64.wrap ((y.es.length:Int)+(lfP p (shP p q)).ae.length) - (lfP p (shP p q)).re.length)=y.es.length+(lfP p (shP p q)).ae.length - (lfP p (shP p q)).re.length:=by
  rw [nowrap (n:=(y.es.length:Int)+(lfP p (shP p q)).ae.length) (by omega) (by omega),nowrap (by omega) (by omega)]
 unfold mgS
 show ∃ a:List D,a.length=6∧ev 12400 [ndsD ns,edsD es,intsD x.gn,gesD x.ge,valsD x.vs,intsD x.ns,intsD x.es,.int x.next,pnsD p.rn,pesD p.re,pnsD p.an,pesD p.ae,pvsD p.vl,.int p.n0,.int p.n1,pnsD q.rn,pesD q.re,pnsD q.an,pesD q.ae,pvsD q.vl,.int q.n0,.int q.n1]=_∧_
 by_cases c1:(40:Int) < y.ns.length+(lfP p (shP p q)).an.length - (lfP p (shP p q)).rn.length
 · rw [if_pos c1]
   refine ⟨[.list [],.list [],.list [],.list [],.list [],.int 0],rfl,?_,fun ⟨m,hm⟩=>by cases hm⟩
   refine ev_by u12400 ?_
   simp only [t12400,go_sem,a1,hc,hs,hw,lm,w1]
   rw [cond_lt c1]
   rfl
 · rw [if_neg c1]
   by_cases c2:(80:Int) < y.es.length+(lfP p (shP p q)).ae.length - (lfP p (shP p q)).re.length
   · rw [if_pos c2]
     refine ⟨[.list [],.list [],.list [],.list [],.list [],.int 0],rfl,?_,fun ⟨m,hm⟩=>by cases hm⟩
     refine ev_by u12400 ?_
     simp only [t12400,go_sem,a1,hc,hs,hw,lm,w1,w2]
     rw [cond_nlt (Int.not_lt.1 c1),cond_lt c2]
     rfl
   · rw [if_neg c2]
     refine ⟨y.ds,rfl,?_,fun _=>rfl⟩
     cases hr:applyS ns es y (lfP p (shP p q)) with
     | ok m =>
      rw [hr] at a2
      replace a2:_=some [intsD m.gn,gesD m.ge,valsD m.vs,intsD m.ns,intsD m.es,.int m.next,.int 0]:=a2
      refine ev_by u12400 ?_
      simp only [t12400,go_sem,a1,hc,hs,hw,lm,w1,w2,a2]
      rw [cond_nlt (Int.not_lt.1 c1),cond_nlt (Int.not_lt.1 c2)]
      rfl
     | error e =>
      rw [hr] at a2
      replace a2:_=some [D.list [],D.list [],D.list [],D.list [],D.list [],D.int 0,D.int e]:=a2
      refine ev_by u12400 ?_
      simp only [t12400,go_sem,a1,hc,hs,hw,lm,w1,w2,a2]
      rw [cond_nlt (Int.not_lt.1 c1),cond_nlt (Int.not_lt.1 c2)]
      rfl
theorem e22500 (hno:colS x p q=[]):ev 22500 ([ndsD ns,edsD es]++x.ds++p.ds++q.ds)=some (exR (mgS ns es y p q)):=by
 have ay:=applyS_ok hy
 have az:=applyS_ok hz
 have hm:=mov_of ay az
 have a1:=e17300 ht h1 h2 h3 h4 hp hpv
 rw [hy] at a1
 replace a1:ev 17300 [ndsD ns,edsD es,intsD x.gn,gesD x.ge,valsD x.vs,intsD x.ns,intsD x.es,.int x.next,pnsD p.rn,pesD p.re,pnsD p.an,pesD p.ae,pvsD p.vl,.int p.n0,.int p.n1]=some [intsD y.gn,gesD y.ge,valsD y.vs,intsD y.ns,intsD y.es,.int y.next,.int 0]:=a1
 have hs:=e22600 hp hq hm hqv
 replace hs:ev 22600 [pnsD p.rn,pesD p.re,pnsD p.an,pesD p.ae,pvsD p.vl,.int p.n0,.int p.n1,pnsD q.rn,pesD q.re,pnsD q.an,pesD q.ae,pvsD q.vl,.int q.n0,.int q.n1]=some [pnsD (shP p q).rn,pesD (shP p q).re,pnsD (shP p q).an,pesD (shP p q).ae,pvsD (shP p q).vl,.int (shP p q).n0,.int (shP p q).n1]:=hs
 have hw:=e22800 hp (q:=shP p q) hq.shP hqv.shP
 replace hw:ev 22800 [pnsD p.rn,pesD p.re,pnsD p.an,pesD p.ae,pvsD p.vl,.int p.n0,.int p.n1,pnsD (shP p q).rn,pesD (shP p q).re,pnsD (shP p q).an,pesD (shP p q).ae,pvsD (shP p q).vl,.int (shP p q).n0,.int (shP p q).n1]=some [pnsD (lfP p (shP p q)).rn,pesD (lfP p (shP p q)).re,pnsD (lfP p (shP p q)).an,pesD (lfP p (shP p q)).ae,pvsD (lfP p (shP p q)).vl,.int (lfP p (shP p q)).n0,.int (lfP p (shP p q)).n1]:=hw
 obtain ⟨_,hsy,hv8,_⟩:=trackErr_ok ay.valid
 have y1:=hsy.n1
 have y2:=hsy.n2
 have y3:=hsy.n3
 have y4:=hsy.e1
 have y5:=hsy.e2
 have hlr:LenP (lfP p (shP p q)):=hq.shP.lfP
 have hvr:ValP (lfP p (shP p q)):=hqv.shP.lfP
 have hwv:=e23000 hlr hvr y2 (by omega) (fun j hj=>by have:=hv8 j hj; omega) (kept_vals ay az hno)
 replace hwv:ev 23000 [pnsD (lfP p (shP p q)).rn,pesD (lfP p (shP p q)).re,pnsD (lfP p (shP p q)).an,pesD (lfP p (shP p q)).ae,pvsD (lfP p (shP p q)).vl,.int (lfP p (shP p q)).n0,.int (lfP p (shP p q)).n1,intsD y.gn,gesD y.ge,valsD y.vs,intsD y.ns,intsD y.es,.int y.next]=some [pnsD (lfP p (shP p q)).rn,pesD (lfP p (shP p q)).re,pnsD (lfP p (shP p q)).an,pesD (lfP p (shP p q)).ae,pvsD (lfP p (shP p q)).vl,.int (lfP p (shP p q)).n0,.int (lfP p (shP p q)).n1]:=hwv
 have a2:=e17300 ht (x:=y) (p:=lfP p (shP p q)) (by omega) (by omega) (by omega) (by omega) hlr hvr
 replace a2:ev 17300 [ndsD ns,edsD es,intsD y.gn,gesD y.ge,valsD y.vs,intsD y.ns,intsD y.es,.int y.next,pnsD (lfP p (shP p q)).rn,pesD (lfP p (shP p q)).re,pnsD (lfP p (shP p q)).an,pesD (lfP p (shP p q)).ae,pvsD (lfP p (shP p q)).vl,.int (lfP p (shP p q)).n0,.int (lfP p (shP p q)).n1]=_:=a2
 have hc:∀ a:Int,eqI a a=true:=fun a=>eq_t rfl
 obtain ⟨k1,k2,k3,k4,k5⟩:=hlr
 have w1:IntKind.i64.wrap (IntKind.i64.wrap ((y.ns.length:Int) - (lfP p (shP p q)).rn.length)+(lfP p (shP p q)).an.length)=y.ns.length+(lfP p (shP p q)).an.length - (lfP p (shP p q)).rn.length:=by
  rw [nowrap (n:=(y.ns.length:Int) - (lfP p (shP p q)).rn.length) (by omega) (by omega),nowrap (by omega) (by omega)]
  omega
 have w2:IntKind.i64.wrap (IntKind.i64.wrap ((y.es.length:Int) - (lfP p (shP p q)).re.length)+(lfP p (shP p q)).ae.length)=y.es.length+(lfP p (shP p q)).ae.length - (lfP p (shP p q)).re.length:=by
  rw [nowrap (n:=(y.es.length:Int) - (lfP p (shP p q)).re.length) (by omega) (by omega),nowrap (by omega) (by omega)]
  omega
 unfold mgS
 show ev 22500 [ndsD ns,edsD es,intsD x.gn,gesD x.ge,valsD x.vs,intsD x.ns,intsD x.es,.int x.next,pnsD p.rn,pesD p.re,pnsD p.an,pesD p.ae,pvsD p.vl,.int p.n0,.int p.n1,pnsD q.rn,pesD q.re,pnsD q.an,pesD q.ae,pvsD q.vl,.int q.n0,.int q.n1]=_
 by_cases c1:(40:Int) < y.ns.length+(lfP p (shP p q)).an.length - (lfP p (shP p q)).rn.length
 · rw [if_pos c1]
   refine ev_by u22500 ?_
   simp only [t22500,go_sem,a1,hc,hs,hw,hwv,lm,w1]
   rw [cond_lt c1]
   rfl
 · rw [if_neg c1]
   by_cases c2:(80:Int) < y.es.length+(lfP p (shP p q)).ae.length - (lfP p (shP p q)).re.length
   · rw [if_pos c2]
     refine ev_by u22500 ?_
     simp only [t22500,go_sem,a1,hc,hs,hw,hwv,lm,w1,w2]
     rw [cond_nlt (Int.not_lt.1 c1),cond_lt c2]
     rfl
   · rw [if_neg c2]
     cases hr:applyS ns es y (lfP p (shP p q)) with
     | ok m =>
      rw [hr] at a2
      replace a2:_=some [intsD m.gn,gesD m.ge,valsD m.vs,intsD m.ns,intsD m.es,.int m.next,.int 0]:=a2
      refine ev_by u22500 ?_
      simp only [t22500,go_sem,a1,hc,hs,hw,hwv,lm,w1,w2,a2]
      rw [cond_nlt (Int.not_lt.1 c1),cond_nlt (Int.not_lt.1 c2)]
      rfl
     | error e =>
      rw [hr] at a2
      replace a2:_=some [D.list [],D.list [],D.list [],D.list [],D.list [],D.int 0,D.int e]:=a2
      refine ev_by u22500 ?_
      simp only [t22500,go_sem,a1,hc,hs,hw,hwv,lm,w1,w2,a2]
      rw [cond_nlt (Int.not_lt.1 c1),cond_nlt (Int.not_lt.1 c2)]
      rfl
end
end Go.SX.T57
namespace Go.SX.T57
open Go.SX
@[go_sem] theorem callK13 {z1 z2 z3 z4 z5 z6 z7 z8 z9 z10 z11 z12 z13:D} {k:List D→Option (List D)}:callK (some [z1,z2,z3,z4,z5,z6,z7,z8,z9,z10,z11,z12,z13]) 13 k=k [z1,z2,z3,z4,z5,z6,z7,z8,z9,z10,z11,z12,z13]:=rfl
theorem given_ok {ns:List Nd} {es:List Ed} {x:Trk} {p q:Pt} (h:givenErr ns es x p q=0):∃ y z,applyS ns es x p=.ok y∧applyS ns es x q=.ok z∧growsB p=true∧growsB q=true∧p.n1+q.n1 - q.n0≤1000000:=by
 unfold givenErr at h
 cases hy:applyS ns es x p with
 | error e =>
  rw [hy] at h
  exact absurd h (applyS_err hy)
 | ok y =>
  rw [hy] at h
  cases hz:applyS ns es x q with
  | error e =>
   rw [hz] at h
   exact absurd h (applyS_err hz)
  | ok z =>
   rw [hz] at h
   cases c1:growsB p
   · rw [c1] at h
     cases h
   · cases c2:growsB q
     · rw [c1,c2] at h
       cases h
     · rw [c1,c2] at h
       replace h:(if 1000000 < p.n1+q.n1 - q.n0 then (6:Int) else 0)=0:=h
       split at h
       · cases h
       · exact ⟨y,z,rfl,rfl,rfl,rfl,by omega⟩
theorem mgS_ok {ns:List Nd} {es:List Ed} {y:Trk} {p q:Pt} {m:Trk} (h:mgS ns es y p q=.ok m):trackErr ns es m=0:=by
 unfold mgS at h
 split at h
 · cases h
 · split at h
   · cases h
   · exact (applyS_ok h).valid
theorem flat_len {α β:Type} (f:α→List β) (k:Nat):∀ l:List α,(∀ a,a∈l→(f a).length≤k)→(l.flatMap f).length≤k * l.length
 | [],_=>by simp
 | a::l,h=>by
  rw [List.flatMap_cons,List.length_append,List.length_cons]
  have:=flat_len f k l fun b hb=>h b (by simp [hb])
  have:=h a (by simp)
  rw [Nat.mul_succ]
  omega
theorem findK_congr {p q:Nat→Bool}:∀ (k i:Nat),(∀ j,i≤j→j < i+k→p j=q j)→findK p k i=findK q k i
 | 0,_,_=>rfl
 | k+1,i,h=>by
  unfold findK
  rw [h i (by omega) (by omega),findK_congr k (i+1) fun j h1 h2=>h j (by omega) (by omega)]
theorem e16000 {ns:List Nd} {es:List Ed} (hT:LenT ns es) {x:Trk} (hv:Len x.vs.length) (h1:Len x.ns.length) (h2:Len x.es.length) {p q:Pt} :
 Q 16000 [intsD x.gn,gesD x.ge,valsD x.vs,intsD x.ns,intsD x.es,.int x.next,pnsD p.rn,pesD p.re,pnsD p.an,pesD p.ae,pvsD p.vl,.int p.n0,.int p.n1,pnsD q.rn,pesD q.re,pnsD q.an,pesD q.ae,pvsD q.vl,.int q.n0,.int q.n1,ndsD ns,edsD es] (OkT ns es∧FewT x∧FewP p∧FewP q):=by
 obtain ⟨a,ha,ia⟩:=e16100 hT
 obtain ⟨b,hb,ib⟩:=e16200 (x:=x) hv h1 h2
 obtain ⟨c,hc,ic⟩:=e16500 (p:=p)
 obtain ⟨d,hd,id'⟩:=e16500 (p:=q)
 replace hb:ev 16200 [intsD x.gn,gesD x.ge,valsD x.vs,intsD x.ns,intsD x.es,.int x.next]=_:=hb
 replace hc:ev 16500 [pnsD p.rn,pesD p.re,pnsD p.an,pesD p.ae,pvsD p.vl,.int p.n0,.int p.n1]=_:=hc
 replace hd:ev 16500 [pnsD q.rn,pesD q.re,pnsD q.an,pesD q.ae,pvsD q.vl,.int q.n0,.int q.n1]=_:=hd
 cases a
 · refine Q.no ?_
   refine ev_by u16000 ?_
   simp only [t16000,go_sem,ha]
 · cases b
   · refine Q.no ?_
     refine ev_by u16000 ?_
     simp only [t16000,go_sem,ha,hb]
   · cases c
     · refine Q.no ?_
       refine ev_by u16000 ?_
       simp only [t16000,go_sem,ha,hb,hc]
     · cases d
       · refine Q.no ?_
         refine ev_by u16000 ?_
         simp only [t16000,go_sem,ha,hb,hc,hd]
       · refine ⟨true,?_,fun _=>⟨(ia rfl).2.2,ib rfl,ic rfl,id' rfl⟩⟩
         refine ev_by u16000 ?_
         simp only [t16000,go_sem,ha,hb,hc,hd]
theorem all2_cons {R:K→D→Prop} {a:K} {l:List K} {ν:List D} (h:All2 R (a::l) ν):∃ x r,ν=x::r∧R a x∧All2 R l r:=by
 cases h with
 | cons h1 h2=>exact ⟨_,_,rfl,h1,h2⟩
theorem all2_nil {R:K→D→Prop} {ν:List D} (h:All2 R [] ν):ν=[]:=by cases h; rfl
theorem kinds25_42:[25,42].flatMap (kindsOf env.ti)=[.sl 22,.sl 23,.sl 26,.sl 27,.sl 30,.sl 26,.sl 26,.int .i64,.sl 35,.sl 36,.sl 35,.sl 36,.sl 37,.int .i64,.int .i64,.sl 35,.sl 36,.sl 35,.sl 36,.sl 37,.int .i64,.int .i64]:=by kernel_rfl
theorem dec_three {ν:List D} (h:All2 (WK env.ti) ([25,42].flatMap (kindsOf env.ti)) ν):∃ (ns:List Nd) (es:List Ed) (x:Trk) (p q:Pt),ν=[ndsD ns,edsD es,intsD x.gn,gesD x.ge,valsD x.vs,intsD x.ns,intsD x.es,.int x.next,pnsD p.rn,pesD p.re,pnsD p.an,pesD p.ae,pvsD p.vl,.int p.n0,.int p.n1,pnsD q.rn,pesD q.re,pnsD q.an,pesD q.ae,pvsD q.vl,.int q.n0,.int q.n1]∧LenT ns es∧Len x.vs.length∧Len x.ns.length∧Len x.es.length:=by
 rw [kinds25_42] at h
 obtain ⟨x0,r,rfl,h0,h⟩:=all2_cons h
 obtain ⟨x1,r,rfl,h1,h⟩:=all2_cons h
 obtain ⟨x2,r,rfl,h2,h⟩:=all2_cons h
 obtain ⟨x3,r,rfl,h3,h⟩:=all2_cons h
 obtain ⟨x4,r,rfl,h4,h⟩:=all2_cons h
 obtain ⟨x5,r,rfl,h5,h⟩:=all2_cons h
 obtain ⟨x6,r,rfl,h6,h⟩:=all2_cons h
 obtain ⟨x7,r,rfl,h7,h⟩:=all2_cons h
 obtain ⟨x8,r,rfl,h8,h⟩:=all2_cons h
 obtain ⟨x9,r,rfl,h9,h⟩:=all2_cons h
 obtain ⟨x10,r,rfl,h10,h⟩:=all2_cons h
 obtain ⟨x11,r,rfl,h11,h⟩:=all2_cons h
 obtain ⟨x12,r,rfl,h12,h⟩:=all2_cons h
 obtain ⟨x13,r,rfl,h13,h⟩:=all2_cons h
 obtain ⟨x14,r,rfl,h14,h⟩:=all2_cons h
 obtain ⟨x15,r,rfl,h15,h⟩:=all2_cons h
 obtain ⟨x16,r,rfl,h16,h⟩:=all2_cons h
 obtain ⟨x17,r,rfl,h17,h⟩:=all2_cons h
 obtain ⟨x18,r,rfl,h18,h⟩:=all2_cons h
 obtain ⟨x19,r,rfl,h19,h⟩:=all2_cons h
 obtain ⟨x20,r,rfl,h20,h⟩:=all2_cons h
 obtain ⟨x21,r,rfl,h21,h⟩:=all2_cons h
 obtain rfl:=all2_nil h
 obtain ⟨ns,rfl,a1,a2⟩:=dec_nds h0
 obtain ⟨es,rfl,b1,b2⟩:=dec_eds h1
 obtain ⟨gn,rfl,c2,_⟩:=dec_ints h2
 obtain ⟨ge,rfl,c3,_⟩:=dec_ges h3
 obtain ⟨vs,rfl,c4,_⟩:=dec_vals h4
 obtain ⟨ids,rfl,c5,_⟩:=dec_ints h5
 obtain ⟨eds,rfl,c6,_⟩:=dec_ints h6
 obtain ⟨nx,rfl,_⟩:=dec_i64 h7
 obtain ⟨rn,rfl,_,_⟩:=dec_pns h8
 obtain ⟨re,rfl,_,_⟩:=dec_pes h9
 obtain ⟨an,rfl,_,_⟩:=dec_pns h10
 obtain ⟨ae,rfl,_,_⟩:=dec_pes h11
 obtain ⟨vl,rfl,_,_⟩:=dec_pvs h12
 obtain ⟨n0,rfl,_⟩:=dec_i64 h13
 obtain ⟨n1,rfl,_⟩:=dec_i64 h14
 obtain ⟨rn',rfl,_,_⟩:=dec_pns h15
 obtain ⟨re',rfl,_,_⟩:=dec_pes h16
 obtain ⟨an',rfl,_,_⟩:=dec_pns h17
 obtain ⟨ae',rfl,_,_⟩:=dec_pes h18
 obtain ⟨vl',rfl,_,_⟩:=dec_pvs h19
 obtain ⟨n0',rfl,_⟩:=dec_i64 h20
 obtain ⟨n1',rfl,_⟩:=dec_i64 h21
 exact ⟨ns,es,⟨gn,ge,vs,ids,eds,nx⟩,⟨rn,re,an,ae,vl,n0,n1⟩,⟨rn',re',an',ae',vl',n0',n1'⟩,rfl,⟨a1,b1,a2,b2⟩,c4,c5,c6⟩
end Go.SX.T57
