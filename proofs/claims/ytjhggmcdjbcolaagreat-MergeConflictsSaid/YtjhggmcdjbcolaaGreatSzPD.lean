/-
Chapter 57, plain: what a host has too few or too many of, both ways.
-/
import Derived.Test.YtjhggmcdjbcolaaGreatSzPC
set_option linter.unusedVariables false
set_option linter.unusedSimpArgs false
set_option linter.unusedSectionVars false
namespace Go.SX.T57
open Go.SX
abbrev Ex:=Int × Int × Int × Bool
abbrev exD (e:Ex):D:=.agg [.int e.1,.int e.2.1,.int e.2.2.1,.bool e.2.2.2]
abbrev exsD (l:List Ex):D:=.list (l.map exD)
abbrev Xs:=Int × Int × Bool
abbrev xsD (e:Xs):D:=.agg [.int e.1,.int e.2.1,.bool e.2.2]
abbrev xssD (l:List Xs):D:=.list (l.map xsD)
def hitX (i k:Nat) (out:Bool) (e:Ge):Bool:=eqI e.ty i&&(bif out then eqI e.src k else eqI e.dst k)
def cntX (ge:List Ge) (i k:Nat) (out:Bool):Nat:=(ge.filter (hitX i k out)).length
def overB (lo hi c:Int):Bool:=ltI c lo || (leI 0 hi&&ltI hi c)
def badX (ns:List Nd) (gn:List Int) (ge:List Ge) (i:Nat) (out:Bool) (ty lo hi:Int) (k:Nat):Bool:=isB ns (gn.getD k default) ty&&overB lo hi (cntX ge i k out)
def oneX (ge:List Ge) (i:Nat) (out:Bool) (k:Nat):Ex:=(i,k,cntX ge i k out,out)
def rowX (ns:List Nd) (gn:List Int) (ge:List Ge) (i:Nat) (out:Bool) (ty lo hi:Int):List Ex:=((List.range gn.length).filter (badX ns gn ge i out ty lo hi)).map (oneX ge i out)
def twoX (ns:List Nd) (es:List Ed) (gn:List Int) (ge:List Ge) (i:Nat):List Ex :=
 rowX ns gn ge i true (es.getD i default).src (es.getD i default).ol (es.getD i default).oh++rowX ns gn ge i false (es.getD i default).dst (es.getD i default).il (es.getD i default).ih
def excH (ns:List Nd) (es:List Ed) (gn:List Int) (ge:List Ge):List Ex:=(List.range es.length).flatMap (twoX ns es gn ge)
def excS (ns:List Nd) (es:List Ed) (x:Trk):List Xs:=(excH ns es x.gn x.ge).map fun e=>(x.ns.getD e.2.1.toNat default,e.1,e.2.2.2)
theorem rowX_len (ns:List Nd) (gn:List Int) (ge:List Ge) (i:Nat) (out:Bool) (ty lo hi:Int):(rowX ns gn ge i out ty lo hi).length≤gn.length:=by
 unfold rowX
 rw [lm]
 exact Nat.le_trans (List.length_filter_le _ _) (by simp)
theorem cntX_le (ge:List Ge) (i k:Nat) (out:Bool):cntX ge i k out≤ge.length:=List.length_filter_le _ _
theorem filter_cons_len {α:Type} (f:α→Bool) (a:α) (l:List α):((a::l).filter f).length=(bif f a then 1 else 0)+(l.filter f).length:=by
 rw [List.filter_cons]
 cases f a
 · simp
 · simp; omega
section
variable {gn:List Int} {ge:List Ge} (h1:gn.length≤40) (h2:ge.length≤80)
include h1 h2
theorem e15103 (x0 x1 x2 x3 x4 x7 x11 x16 x17:D) (i k:Nat) (hi:i≤100) (hk:k < gn.length) (out:Bool) (lo hh:Int) (acc:List Ex) (hacc:acc.length≤1000000):∀ m,m≤ge.length→∀ n:Nat,n≤m →
 ev 15103 [x0,x1,x2,gesD ge,x4,.int i,.bool out,x7,.int lo,.int hh,.int k,x11,.int n,.int gn.length,.int ge.length,.int m,x16,x17,exsD acc] =
 ev 15101 [x0,x1,x2,gesD ge,x4,.int i,.bool out,x7,.int lo,.int hh,.int gn.length,.int (k+1:Nat),x16,x17,exsD (bif overB lo hh ((n+((ge.drop m).filter (hitX i k out)).length:Nat):Int) then acc++[((i:Int),(k:Int),((n+((ge.drop m).filter (hitX i k out)).length:Nat):Int),out)] else acc)]:=by
 refine down ?_ fun m hm ih=>?_
 · intro n hn
   rw [List.drop_eq_nil_of_le (Nat.le_refl _),List.filter_nil,List.length_nil]
   simp only [Nat.add_zero]
   have e1:acc.map exD++[.agg [.int i,.int k,.int n,.bool out]]=(acc++[((i:Int),(k:Int),(n:Int),out)]).map exD:=by simp
   have hlk:=le_ok (show acc.length≤1073741824 by omega)
   by_cases c1:(n:Int) < lo
   · rw [show overB lo hh n=true by unfold overB; rw [lt_t c1]; rfl]
     rw [ev_eq u15103 rfl]
     simp only [t15103,go_sem,ltI_irr,lm,hlk,wrapS k (by omega),e1]
     rw [cond_lt c1]
   · by_cases c2:0≤hh
     · by_cases c3:hh < (n:Int)
       · rw [show overB lo hh n=true by unfold overB; rw [le_t c2,lt_t c3]; cases ltI (n:Int) lo <;> rfl]
         rw [ev_eq u15103 rfl]
         simp only [t15103,go_sem,ltI_irr,lm,hlk,wrapS k (by omega),e1]
         rw [cond_nlt (Int.not_lt.1 c1),cond_le c2,cond_lt c3]
       · rw [show overB lo hh n=false by unfold overB; rw [lt_f (Int.not_lt.1 c1),lt_f (Int.not_lt.1 c3),Bool.and_false]; rfl]
         rw [ev_eq u15103 rfl]
         simp only [t15103,go_sem,ltI_irr,lm,hlk,wrapS k (by omega),e1]
         rw [cond_nlt (Int.not_lt.1 c1),cond_le c2,cond_nlt (Int.not_lt.1 c3)]
     · rw [show overB lo hh n=false by unfold overB; rw [lt_f (Int.not_lt.1 c1),le_f (Int.not_le.1 c2)]; rfl]
       rw [ev_eq u15103 rfl]
       simp only [t15103,go_sem,ltI_irr,lm,hlk,wrapS k (by omega),e1]
       rw [cond_nlt (Int.not_lt.1 c1),cond_nle (Int.not_le.1 c2)]
 · intro n hn
   rw [drop_step hm,filter_cons_len]
   have hh1:hitX i k out (ge.getD m default)=(eqI (ge.getD m default).ty i&&(bif out then eqI (ge.getD m default).src k else eqI (ge.getD m default).dst k)):=rfl
   have hyes:=ih (n+1) (by omega)
   have hno:=ih n (by omega)
   cases c:hitX i k out (ge.getD m default)
   · rw [c] at hh1
     simp only [cond_false,Nat.zero_add]
     refine Eq.trans ?_ hno
     rw [ev_eq u15103 rfl]
     simp only [t15103,go_sem,lm,idx_map _ _ _ hm,in_range hm,wrapS m (by omega)]
     rw [cond_lt (by omega)]
     cases g1:eqI (ge.getD m default).ty i
     · rfl
     · rw [g1] at hh1
       cases out
       · replace hh1:false=eqI (ge.getD m default).dst k:=hh1
         rw [←hh1]
         rfl
       · replace hh1:false=eqI (ge.getD m default).src k:=hh1
         rw [←hh1]
         rfl
   · rw [c] at hh1
     simp only [cond_true]
     rw [←Nat.add_assoc]
     refine Eq.trans ?_ hyes
     rw [ev_eq u15103 rfl]
     simp only [t15103,go_sem,lm,idx_map _ _ _ hm,in_range hm,wrapS m (by omega),wrapS n (by omega)]
     rw [cond_lt (by omega)]
     cases g1:eqI (ge.getD m default).ty i
     · rw [g1] at hh1
       cases hh1
     · rw [g1] at hh1
       cases out
       · replace hh1:true=eqI (ge.getD m default).dst k:=hh1
         rw [←hh1]
         rfl
       · replace hh1:true=eqI (ge.getD m default).src k:=hh1
         rw [←hh1]
         rfl
theorem e23401 (x0:D) (i k:Nat) (out:Bool):∀ m,m≤ge.length→∀ n:Nat,n≤m→ev 23401 [x0,gesD ge,.int i,.int k,.bool out,.int n,.int m]=some [.int ((n+((ge.drop m).filter (hitX i k out)).length:Nat):Int)]:=by
 refine down ?_ fun m hm ih=>?_
 · intro n hn
   rw [List.drop_eq_nil_of_le (Nat.le_refl _),List.filter_nil,List.length_nil,Nat.add_zero]
   refine ev_by u23401 ?_
   simp only [t23401,go_sem,lm,ltI_irr]
 · intro n hn
   rw [drop_step hm,filter_cons_len]
   have hh1:hitX i k out (ge.getD m default)=(eqI (ge.getD m default).ty i&&(bif out then eqI (ge.getD m default).src k else eqI (ge.getD m default).dst k)):=rfl
   have hyes:=ih (n+1) (by omega)
   have hno:=ih n (by omega)
   cases c:hitX i k out (ge.getD m default)
   · rw [c] at hh1
     simp only [cond_false,Nat.zero_add]
     refine Eq.trans ?_ hno
     rw [ev_eq u23401 rfl]
     simp only [t23401,go_sem,lm,idx_map _ _ _ hm,in_range hm,wrapS m (by omega)]
     rw [cond_lt (by omega)]
     cases g1:eqI (ge.getD m default).ty i
     · rfl
     · rw [g1] at hh1
       cases out
       · replace hh1:false=eqI (ge.getD m default).dst k:=hh1
         rw [←hh1]
         rfl
       · replace hh1:false=eqI (ge.getD m default).src k:=hh1
         rw [←hh1]
         rfl
   · rw [c] at hh1
     simp only [cond_true]
     rw [←Nat.add_assoc]
     refine Eq.trans ?_ hyes
     rw [ev_eq u23401 rfl]
     simp only [t23401,go_sem,lm,idx_map _ _ _ hm,in_range hm,wrapS m (by omega),wrapS n (by omega)]
     rw [cond_lt (by omega)]
     cases g1:eqI (ge.getD m default).ty i
     · rw [g1] at hh1
       cases hh1
     · rw [g1] at hh1
       cases out
       · replace hh1:true=eqI (ge.getD m default).dst k:=hh1
         rw [←hh1]
         rfl
       · replace hh1:true=eqI (ge.getD m default).src k:=hh1
         rw [←hh1]
         rfl
theorem e23400 (x0:D) (i k:Nat) (out:Bool):ev 23400 [x0,gesD ge,.int i,.int k,.bool out]=some [.int (cntX ge i k out)]:=by
 have h:=e23401 h1 h2 x0 i k out 0 (by omega) 0 (Nat.le_refl _)
 rw [List.drop_zero,Nat.zero_add] at h
 refine ev_by u23400 ?_
 simp only [t23400,go_sem]
 exact h
end
section
variable {ns:List Nd} {es:List Ed} (ht:OkT ns es) (hv:typesErr ns es=0) {gn:List Int} {ge:List Ge} (h1:gn.length≤40) (h2:ge.length≤80) (hg:∀ j,j < gn.length→0≤gn.getD j default∧gn.getD j default < ns.length)
include ht hv h1 h2 hg
theorem e15200 {a b:Int} (ha:0≤a∧a < ns.length) (hb:0≤b∧b < ns.length):ev 15200 [ndsD ns,edsD es,.int a,.int b]=some [.bool (isB ns a b)]:=by
 have h5:=e5400 ht hv [a,b] (by simp) (fun p hp=>by
  rcases List.mem_cons.1 hp with rfl | hp
  · exact ha
  · rcases List.mem_cons.1 hp with rfl | hp
    · exact hb
    · cases hp)
 replace h5:ev 5400 [ndsD ns,edsD es,.list [.int a,.int b]]=some [.int 0]:=h5
 have h6:=e6000 ht.1 (Par_of hv) (edsD es) ha.1 ha.2 b
 have h00:eqI 0 0=true:=by decide
 refine ev_by u15200 ?_
 simp only [t15200,go_sem,List.cons_append,List.nil_append,h5,h00,h6]
theorem e15101 (x4:D) (i:Nat) (hi:i≤100) (out:Bool) (ty lo hh:Int) (hty:0≤ty∧ty < ns.length):∀ k,k≤gn.length→∀ acc:List Ex,acc.length≤k →
 ev 15101 [ndsD ns,edsD es,intsD gn,gesD ge,x4,.int i,.bool out,.int ty,.int lo,.int hh,.int gn.length,.int k,ndsD ns,edsD es,exsD acc]=some [exsD (acc++(((List.range gn.length).drop k).filter (badX ns gn ge i out ty lo hh)).map (oneX ge i out))]:=by
 refine down ?_ fun k hk ih=>?_
 · intro acc ha
   rw [List.drop_eq_nil_of_le (by simp),List.filter_nil,List.map_nil,List.append_nil]
   refine ev_by u15101 ?_
   simp only [t15101,go_sem,ltI_irr]
 · intro acc ha
   have his:=e15200 ht hv h1 h2 hg (hg k hk) hty
   rw [rng_drop hk,List.filter_cons]
   have hb:badX ns gn ge i out ty lo hh k=(isB ns (gn.getD k default) ty&&overB lo hh (cntX ge i k out)):=rfl
   cases c1:isB ns (gn.getD k default) ty
   · rw [c1] at his hb
     rw [if_neg (by rw [hb]; exact Bool.false_ne_true)]
     refine Eq.trans ?_ (ih acc (by omega))
     rw [ev_eq u15101 rfl]
     simp only [t15101,go_sem,lm,idx_map _ _ _ hk,in_range hk,his,wrapS k (by omega)]
     rw [cond_lt (by omega)]
   · rw [c1] at his hb
     have h3:=e15103 h1 h2 (ndsD ns) (edsD es) (intsD gn) (.int 0) x4 (.int ty) (.int (gn.getD k default)) (ndsD ns) (edsD es) i k hi hk out lo hh acc (by omega) 0 (by omega) 0 (Nat.le_refl _)
     rw [List.drop_zero,Nat.zero_add] at h3
     replace hb:badX ns gn ge i out ty lo hh k=overB lo hh (cntX ge i k out):=hb
     cases c2:overB lo hh (cntX ge i k out)
     · rw [if_neg (by rw [hb,c2]; exact Bool.false_ne_true)]
       replace h3:=h3.trans (congrArg (fun z=>ev 15101 [ndsD ns,edsD es,intsD gn,gesD ge,x4,.int i,.bool out,.int ty,.int lo,.int hh,.int gn.length,.int (k+1:Nat),ndsD ns,edsD es,exsD z]) (show (bif overB lo hh (cntX ge i k out) then acc++[((i:Int),(k:Int),((cntX ge i k out:Nat):Int),out)] else acc)=acc by rw [c2]; rfl))
       refine Eq.trans ?_ (h3.trans (ih acc (by omega)))
       rw [ev_eq u15101 rfl]
       simp only [t15101,go_sem,lm,idx_map _ _ _ hk,in_range hk,his]
       rw [cond_lt (by omega)]
       rfl
     · rw [if_pos (by rw [hb,c2])]
       replace h3:=h3.trans (congrArg (fun z=>ev 15101 [ndsD ns,edsD es,intsD gn,gesD ge,x4,.int i,.bool out,.int ty,.int lo,.int hh,.int gn.length,.int (k+1:Nat),ndsD ns,edsD es,exsD z]) (show (bif overB lo hh (cntX ge i k out) then acc++[((i:Int),(k:Int),((cntX ge i k out:Nat):Int),out)] else acc)=acc++[oneX ge i out k] by rw [c2]; rfl))
       have h4:=ih (acc++[oneX ge i out k]) (by rw [List.length_append,List.length_singleton]; omega)
       rw [List.append_assoc,List.singleton_append] at h4
       rw [List.map_cons]
       refine Eq.trans ?_ (h3.trans h4)
       rw [ev_eq u15101 rfl]
       simp only [t15101,go_sem,lm,idx_map _ _ _ hk,in_range hk,his]
       rw [cond_lt (by omega)]
       rfl
theorem e15100 (x4:D) (i:Nat) (hi:i≤100) (out:Bool) (ty lo hh:Int) (hty:0≤ty∧ty < ns.length):ev 15100 [ndsD ns,edsD es,intsD gn,gesD ge,x4,.int i,.bool out,.int ty,.int lo,.int hh]=some [exsD (rowX ns gn ge i out ty lo hh)]:=by
 have h:=e15101 ht hv h1 h2 hg x4 i hi out ty lo hh hty 0 (by omega) [] (Nat.zero_le _)
 rw [List.drop_zero,List.nil_append] at h
 refine ev_by u15100 ?_
 simp only [t15100,go_sem,lm]
 exact h
theorem e14901 (x0 x1 x2 x3 x4 x5 x6 x12:D):∀ i,i≤es.length→∀ acc:List Ex,acc.length≤80 * i →
 ev 14901 [x0,edsD es,x2,x3,x4,x5,.int es.length,.int i,ndsD ns,edsD es,intsD gn,gesD ge,x12,exsD acc]=some [exsD (acc++((List.range es.length).drop i).flatMap (twoX ns es gn ge)),.int 0]:=by
 obtain ⟨_,_,t3,_,t5⟩:=typesErr_ok hv
 refine down ?_ fun i hi ih=>?_
 · intro acc ha
   rw [List.drop_eq_nil_of_le (by simp),List.flatMap_nil,List.append_nil]
   refine ev_by u14901 ?_
   simp only [t14901,go_sem,ltI_irr]
 · intro acc ha
   obtain ⟨s1,s2,s3,s4⟩:=edgeErr_in (t5 i hi)
   have r1:=e15100 ht hv h1 h2 hg x12 i (by omega) true (es.getD i default).src (es.getD i default).ol (es.getD i default).oh ⟨s1,s2⟩
   have r2:=e15100 ht hv h1 h2 hg x12 i (by omega) false (es.getD i default).dst (es.getD i default).il (es.getD i default).ih ⟨s3,s4⟩
   have l1:=rowX_len ns gn ge i true (es.getD i default).src (es.getD i default).ol (es.getD i default).oh
   have l2:=rowX_len ns gn ge i false (es.getD i default).dst (es.getD i default).il (es.getD i default).ih
   have h:=ih (acc++twoX ns es gn ge i) (by unfold twoX; rw [List.length_append,List.length_append]; omega)
   rw [rng_drop hi,List.flatMap_cons,←List.append_assoc]
   have e1:acc.map exD++(rowX ns gn ge i true (es.getD i default).src (es.getD i default).ol (es.getD i default).oh).map exD=(acc++rowX ns gn ge i true (es.getD i default).src (es.getD i default).ol (es.getD i default).oh).map exD:=by rw [List.map_append]
   have e2:(acc++rowX ns gn ge i true (es.getD i default).src (es.getD i default).ol (es.getD i default).oh).map exD++(rowX ns gn ge i false (es.getD i default).dst (es.getD i default).il (es.getD i default).ih).map exD=(acc++twoX ns es gn ge i).map exD:=by rw [←List.map_append,List.append_assoc]; rfl
   refine Eq.trans ?_ h
   rw [ev_eq u14901 rfl]
   simp only [t14901,go_sem,lm,idx_map _ _ _ hi,in_range hi,r1,r2,wrapS i (by omega),e1,e2]
   rw [cond_lt (by omega),cond_le (by omega),cond_le (by omega),cond_le (by rw [List.length_append]; omega),cond_le (by omega)]
theorem e14900 {vs:List (List Int)} (hvh:hostErr ns es gn ge vs=0):ev 14900 [ndsD ns,edsD es,intsD gn,gesD ge,valsD vs]=some [exsD (excH ns es gn ge),.int 0]:=by
 obtain ⟨n,h⟩:=e800 ht (gn:=gn) (ge:=ge) (vs:=vs) (by omega) (by omega)
 rw [hvh] at h
 have h15:ev 15000 [ndsD ns,edsD es,intsD gn,gesD ge,valsD vs]=some [.int 0]:=by
  refine ev_by u15000 ?_
  simp only [t15000,go_sem,h]
 have h2:=e14901 ht hv h1 h2 hg (ndsD ns) (.int 0) (intsD gn) (gesD ge) (valsD vs) (.int 0) (.int 0) (valsD vs) 0 (by omega) [] (Nat.zero_le _)
 rw [List.drop_zero,List.nil_append] at h2
 have h00:eqI 0 0=true:=by decide
 refine ev_by u14900 ?_
 simp only [t14900,go_sem,h15,h00,lm]
 exact h2
theorem e23305 (x0 x1 x2 x3 x4 x5 x16 x18 x19 x20 x21 x22 x23 x24:D) (i sd:Nat) (hi:i≤100) (hsd:sd≤1) (ty lo hh:Int) (hty:0≤ty∧ty < ns.length):∀ k,k≤gn.length→∀ acc:List Ex,acc.length≤2000+k →
 ev 23305 [x0,x1,x2,x3,x4,x5,.int i,.int sd,.int ty,.int lo,.int hh,.int k,ndsD ns,edsD es,intsD gn,gesD ge,x16,exsD acc,x18,x19,x20,x21,x22,x23,x24]=ev 23303 [x0,x1,x2,x3,x4,x5,.int i,.int (sd+1:Nat),ndsD ns,edsD es,intsD gn,gesD ge,x16,exsD (acc++(((List.range gn.length).drop k).filter (badX ns gn ge i (decide (sd=0)) ty lo hh)).map (oneX ge i (decide (sd=0)))),x18,x19,x20,x21,x22,x23,x24]:=by
 have hs0:eqI sd 0=decide (sd=0):=by rw [Bool.eq_iff_iff,eqI_iff,decide_eq_true_eq]; omega
 refine down ?_ fun k hk ih=>?_
 · intro acc ha
   rw [List.drop_eq_nil_of_le (by simp),List.filter_nil,List.map_nil,List.append_nil]
   rw [ev_eq u23305 rfl]
   simp only [t23305,go_sem,lm,ltI_irr,wrapS sd (by omega)]
 · intro acc ha
   have his:=e20000' ht.1 (Par_of hv) (edsD es) (hg k hk).1 (hg k hk).2 hty.1
   have hcn:=e23400 h1 h2 (intsD gn) i k (decide (sd=0))
   have hlk:=le_ok (show acc.length≤1073741824 by omega)
   rw [rng_drop hk,List.filter_cons]
   have hb:badX ns gn ge i (decide (sd=0)) ty lo hh k=(isB ns (gn.getD k default) ty&&overB lo hh (cntX ge i k (decide (sd=0)))):=rfl
   have hno:=ih acc (by omega)
   have hyes:=ih (acc++[oneX ge i (decide (sd=0)) k]) (by rw [List.length_append,List.length_singleton]; omega)
   rw [List.append_assoc,List.singleton_append] at hyes
   have e1:acc.map exD++[.agg [.int i,.int k,.int (cntX ge i k (decide (sd=0))),.bool (decide (sd=0))]]=(acc++[oneX ge i (decide (sd=0)) k]).map exD:=by simp [oneX]
   cases c1:isB ns (gn.getD k default) ty
   · rw [c1] at his hb
     rw [if_neg (by rw [hb]; exact Bool.false_ne_true)]
     refine Eq.trans ?_ hno
     rw [ev_eq u23305 rfl]
     simp only [t23305,go_sem,lm,idx_map _ _ _ hk,in_range hk,his,wrapS k (by omega)]
     rw [cond_lt (by omega)]
   · rw [c1] at his hb
     replace hb:badX ns gn ge i (decide (sd=0)) ty lo hh k=overB lo hh (cntX ge i k (decide (sd=0))):=hb
     by_cases g1:(cntX ge i k (decide (sd=0)):Int) < lo
     · rw [if_pos (by rw [hb]; unfold overB; rw [lt_t g1]; rfl),List.map_cons]
       refine Eq.trans ?_ hyes
       rw [ev_eq u23305 rfl]
       simp only [t23305,go_sem,lm,idx_map _ _ _ hk,in_range hk,his,hs0,hcn,wrapS k (by omega),hlk,e1]
       rw [cond_lt (by omega),cond_lt g1]
     · by_cases g2:0≤hh
       · by_cases g3:hh < (cntX ge i k (decide (sd=0)):Int)
         · rw [if_pos (by rw [hb]; unfold overB; rw [le_t g2,lt_t g3]; cases ltI (cntX ge i k (decide (sd=0)):Int) lo <;> rfl),List.map_cons]
           refine Eq.trans ?_ hyes
           rw [ev_eq u23305 rfl]
           simp only [t23305,go_sem,lm,idx_map _ _ _ hk,in_range hk,his,hs0,hcn,wrapS k (by omega),hlk,e1]
           rw [cond_lt (by omega),cond_nlt (Int.not_lt.1 g1),cond_le g2,cond_lt g3]
         · rw [if_neg (by rw [hb]; unfold overB; rw [lt_f (Int.not_lt.1 g1),lt_f (Int.not_lt.1 g3),Bool.and_false]; exact Bool.false_ne_true)]
           refine Eq.trans ?_ hno
           rw [ev_eq u23305 rfl]
           simp only [t23305,go_sem,lm,idx_map _ _ _ hk,in_range hk,his,hs0,hcn,wrapS k (by omega),hlk,e1]
           rw [cond_lt (by omega),cond_nlt (Int.not_lt.1 g1),cond_le g2,cond_nlt (Int.not_lt.1 g3)]
       · rw [if_neg (by rw [hb]; unfold overB; rw [lt_f (Int.not_lt.1 g1),le_f (Int.not_le.1 g2)]; exact Bool.false_ne_true)]
         refine Eq.trans ?_ hno
         rw [ev_eq u23305 rfl]
         simp only [t23305,go_sem,lm,idx_map _ _ _ hk,in_range hk,his,hs0,hcn,wrapS k (by omega),hlk,e1]
         rw [cond_lt (by omega),cond_nlt (Int.not_lt.1 g1),cond_nle (Int.not_le.1 g2)]
theorem e23303 (x0 x1 x2 x3 x4 x5 x12 x14:D) (i:Nat) (hi:i < es.length) (acc:List Ex) (hacc:acc.length≤80 * i) :
 ev 23303 [x0,x1,x2,x3,x4,x5,.int i,.int 0,ndsD ns,edsD es,intsD gn,gesD ge,x12,exsD acc,x14,.int (es.getD i default).src,.int (es.getD i default).dst,.int (es.getD i default).ol,.int (es.getD i default).oh,.int (es.getD i default).il,.int (es.getD i default).ih]=ev 23301 [x0,x1,x2,x3,x4,x5,.int (i+1:Nat),ndsD ns,edsD es,intsD gn,gesD ge,x12,exsD (acc++twoX ns es gn ge i)]:=by
 obtain ⟨_,_,t3,_,t5⟩:=typesErr_ok hv
 obtain ⟨s1,s2,s3,s4⟩:=edgeErr_in (t5 i hi)
 have l1:=rowX_len ns gn ge i true (es.getD i default).src (es.getD i default).ol (es.getD i default).oh
 have r1:=e23305 ht hv h1 h2 hg x0 x1 x2 x3 x4 x5 x12 x14 (.int (es.getD i default).src) (.int (es.getD i default).dst) (.int (es.getD i default).ol) (.int (es.getD i default).oh) (.int (es.getD i default).il) (.int (es.getD i default).ih) i 0 (by omega) (by omega) (es.getD i default).src (es.getD i default).ol (es.getD i default).oh ⟨s1,s2⟩ 0 (by omega) acc (by omega)
 rw [List.drop_zero] at r1
 have r2:=e23305 ht hv h1 h2 hg x0 x1 x2 x3 x4 x5 x12 x14 (.int (es.getD i default).src) (.int (es.getD i default).dst) (.int (es.getD i default).ol) (.int (es.getD i default).oh) (.int (es.getD i default).il) (.int (es.getD i default).ih) i 1 (by omega) (by omega) (es.getD i default).dst (es.getD i default).il (es.getD i default).ih ⟨s3,s4⟩ 0 (by omega) (acc++rowX ns gn ge i true (es.getD i default).src (es.getD i default).ol (es.getD i default).oh) (by rw [List.length_append]; omega)
 rw [List.drop_zero] at r2
 have k0:ltI 0 2=true:=by decide
 have k1:ltI 1 2=true:=by decide
 have k2:ltI 2 2=false:=by decide
 have q0:eqI 0 1=false:=by decide
 have q1:eqI 1 1=true:=by decide
 have hend:∀ z:D,ev 23303 [x0,x1,x2,x3,x4,x5,.int i,.int 2,ndsD ns,edsD es,intsD gn,gesD ge,x12,z,x14,.int (es.getD i default).src,.int (es.getD i default).dst,.int (es.getD i default).ol,.int (es.getD i default).oh,.int (es.getD i default).il,.int (es.getD i default).ih]=ev 23301 [x0,x1,x2,x3,x4,x5,.int (i+1:Nat),ndsD ns,edsD es,intsD gn,gesD ge,x12,z]:=fun z=>by
  rw [ev_eq u23303 rfl]
  simp only [t23303,go_sem,k2,wrapS i (by omega)]
 have hmid:∀ z:D,ev 23303 [x0,x1,x2,x3,x4,x5,.int i,.int 1,ndsD ns,edsD es,intsD gn,gesD ge,x12,z,x14,.int (es.getD i default).src,.int (es.getD i default).dst,.int (es.getD i default).ol,.int (es.getD i default).oh,.int (es.getD i default).il,.int (es.getD i default).ih]=ev 23305 [x0,x1,x2,x3,x4,x5,.int i,.int 1,.int (es.getD i default).dst,.int (es.getD i default).il,.int (es.getD i default).ih,.int 0,ndsD ns,edsD es,intsD gn,gesD ge,x12,z,x14,.int (es.getD i default).src,.int (es.getD i default).dst,.int (es.getD i default).ol,.int (es.getD i default).oh,.int (es.getD i default).il,.int (es.getD i default).ih]:=fun z=>by
  rw [ev_eq u23303 rfl]
  simp only [t23303,go_sem,k1,q1]
 have hfst:∀ z:D,ev 23303 [x0,x1,x2,x3,x4,x5,.int i,.int 0,ndsD ns,edsD es,intsD gn,gesD ge,x12,z,x14,.int (es.getD i default).src,.int (es.getD i default).dst,.int (es.getD i default).ol,.int (es.getD i default).oh,.int (es.getD i default).il,.int (es.getD i default).ih]=ev 23305 [x0,x1,x2,x3,x4,x5,.int i,.int 0,.int (es.getD i default).src,.int (es.getD i default).ol,.int (es.getD i default).oh,.int 0,ndsD ns,edsD es,intsD gn,gesD ge,x12,z,x14,.int (es.getD i default).src,.int (es.getD i default).dst,.int (es.getD i default).ol,.int (es.getD i default).oh,.int (es.getD i default).il,.int (es.getD i default).ih]:=fun z=>by
  rw [ev_eq u23303 rfl]
  simp only [t23303,go_sem,k0,q0]
 have hall:=(hfst (exsD acc)).trans (r1.trans ((hmid _).trans (r2.trans (hend _))))
 refine hall.trans ?_
 rw [List.append_assoc]
 rfl
theorem e23301 (x0 x1 x2 x3 x4 x5 x11:D):∀ i,i≤es.length→∀ acc:List Ex,acc.length≤80 * i →
 ev 23301 [x0,x1,x2,x3,x4,x5,.int i,ndsD ns,edsD es,intsD gn,gesD ge,x11,exsD acc]=some [exsD (acc++((List.range es.length).drop i).flatMap (twoX ns es gn ge)),.int 0]:=by
 obtain ⟨_,_,t3,_,t5⟩:=typesErr_ok hv
 refine down ?_ fun i hi ih=>?_
 · intro acc ha
   rw [List.drop_eq_nil_of_le (by simp),List.flatMap_nil,List.append_nil]
   refine ev_by u23301 ?_
   simp only [t23301,go_sem,lm,ltI_irr]
 · intro acc ha
   have l1:=rowX_len ns gn ge i true (es.getD i default).src (es.getD i default).ol (es.getD i default).oh
   have l2:=rowX_len ns gn ge i false (es.getD i default).dst (es.getD i default).il (es.getD i default).ih
   have h:=ih (acc++twoX ns es gn ge i) (by unfold twoX; rw [List.length_append,List.length_append]; omega)
   rw [rng_drop hi,List.flatMap_cons,←List.append_assoc]
   have h3:=e23303 ht hv h1 h2 hg x0 x1 x2 x3 x4 x5 x11 (.str (es.getD i default).name) i hi acc ha
   refine Eq.trans ?_ (h3.trans h)
   rw [ev_eq u23301 rfl]
   simp only [t23301,go_sem,lm,idx_map _ _ _ hi,in_range hi]
   rw [cond_lt (by omega)]
theorem e23300 {vs:List (List Int)} (hvh:hostErr ns es gn ge vs=0):ev 23300 [ndsD ns,edsD es,intsD gn,gesD ge,valsD vs]=some [exsD (excH ns es gn ge),.int 0]:=by
 obtain ⟨n,h⟩:=e19200 ht (gn:=gn) (ge:=ge) (vs:=vs) (by omega) (by omega)
 rw [hvh] at h
 have h2:=e23301 ht hv h1 h2 hg (ndsD ns) (edsD es) (intsD gn) (gesD ge) (valsD vs) (.int 0) (valsD vs) 0 (by omega) [] (Nat.zero_le _)
 rw [List.drop_zero,List.nil_append] at h2
 have h00:eqI 0 0=true:=by decide
 refine ev_by u23300 ?_
 simp only [t23300,go_sem,h,h00]
 exact h2
end
end Go.SX.T57
namespace Go.SX.T57
open Go.SX
def alP (x:Trk) (p q:Pt):Pt:=⟨q.rn,q.re,q.an.map (mvN q.n0 (p.n1 - p.n0)),q.ae.map (mvE q.n0 (p.n1 - p.n0)),q.vl,x.next,p.n1+q.n1 - q.n0⟩
def atP (x:Trk) (n:Int):Trk:=⟨x.gn,x.ge,x.vs,x.ns,x.es,n⟩
theorem scan_none {f:Nat→Int}:∀ (k i:Nat),(∀ j,i≤j→j < i+k→f j=0)→scan f k i=0
 | 0,_,_=>rfl
 | k+1,i,h=>by
  unfold scan
  rw [if_pos (h i (by omega) (by omega))]
  exact scan_none k (i+1) fun j h1 h2=>h j (by omega) (by omega)
theorem idsErr_of {l:List Int} {n:Int} (h1:∀ v,v∈l→0≤v∧v < n) (h2:l.Pairwise fun a b=>a < b):idsErr l n=0:=by
 refine scan_none _ _ fun j _ hj=>?_
 have hj:j < l.length:=by omega
 unfold idErr
 have hr:=h1 _ (getD_mem hj)
 rw [if_neg (by omega),if_neg (by omega),if_neg]
 rintro ⟨h0,hle⟩
 have hp:j - 1 < l.length:=by omega
 have:=(List.pairwise_iff_getElem.1 h2) (j - 1) j hp hj (by omega)
 rw [←getD_get hp,←getD_get hj] at this
 omega
theorem mv_lt {n0 d a b:Int} (hd:0≤d) (h:a < b):mv n0 d a < mv n0 d b:=by
 unfold mv
 split <;> split <;> omega
theorem mv_inj {n0 d a b:Int} (hd:0≤d):eqI (mv n0 d a) (mv n0 d b)=eqI a b:=by
 rw [Bool.eq_iff_iff,eqI_iff,eqI_iff]
 constructor
 · intro h
   rcases Int.lt_trichotomy a b with g | g | g
   · have:=mv_lt (n0:=n0) hd g; omega
   · exact g
   · have:=mv_lt (n0:=n0) hd g; omega
 · intro h; rw [h]
theorem getD_map {α β:Type} [Inhabited α] [Inhabited β] (f:α→β) {l:List α} {i:Nat} (h:i < l.length):(l.map f).getD i default=f (l.getD i default):=by
 rw [getD_get (by simpa using h),List.getElem_map,getD_get h]
theorem posI_mv {n0 d:Int} (hd:0≤d) (l:List Int) (v:Int):posI (l.map (mv n0 d)) (mv n0 d v)=posI l v:=by
 unfold posI
 rw [lm]
 refine findK_congr _ _ fun j _ hj=>?_
 rw [getD_map _ (by omega),mv_inj hd]
theorem hasI_mv {n0 d:Int} (hd:0≤d) (l:List Int) (v:Int):hasI (l.map (mv n0 d)) (mv n0 d v)=hasI l v:=by
 rw [←posI_has,←posI_has,posI_mv hd]
theorem anyK_congr {p q:Nat→Bool}:∀ (k i:Nat),(∀ j,i≤j→j < i+k→p j=q j)→anyK p k i=anyK q k i:=fun k i h=>by
 rw [←leI_find,←leI_find,findK_congr k i h]
theorem clash_mv {n0 d:Int} (hd:0≤d) (a b:List Int):clashB (a.map (mv n0 d)) (b.map (mv n0 d))=clashB a b:=by
 unfold clashB
 rw [lm]
 refine anyK_congr _ _ fun j _ hj=>?_
 rw [getD_map _ (by omega),hasI_mv hd]
theorem mrg_app {α:Type} {f:α→Int} {a b:List α} (ha:a.Pairwise fun x y=>f x < f y) (hb:b.Pairwise fun x y=>f x < f y) (h:∀ x,x∈a→∀ y,y∈b→f x < f y):mrg f a b=a++b :=
 asc_unique (mrg_asc f a b ha hb fun x hx y hy=>by have:=h x hx y hy; omega) (List.pairwise_append.2 ⟨ha,hb,h⟩) (mrg_perm f a b)
theorem track_of {ns:List Nd} {es:List Ed} {x z:Trk} (hz:trackErr ns es z=0) (h1:x.gn=z.gn) (h2:x.ge=z.ge) (h3:x.vs=z.vs) (h4:x.ns.length=z.ns.length) (h5:x.es.length=z.es.length) (h6:0≤x.next) (h7:x.next≤1000000)
 (h8:idsErr x.ns x.next=0) (h9:idsErr x.es x.next=0) (h10:clashB x.ns x.es=clashB z.ns z.es):trackErr ns es x=0:=by
 unfold trackErr at hz ⊢
 obtain ⟨hh,hz⟩:=thenE_zero hz
 rw [h1,h2,h3,hh]
 unfold thenE
 rw [if_pos rfl]
 split at hz
 · rename_i l1
   split at hz
   · rename_i l2
     split at hz
     · cases hz
     · split at hz
       · cases hz
       · obtain ⟨_,hz⟩:=thenE_zero hz
         obtain ⟨_,hz⟩:=thenE_zero hz
         rw [if_pos (by rw [h4]; exact l1),if_pos (by rw [h5]; exact l2),if_neg (by omega),if_neg (by omega),h8,h9,if_pos rfl,if_pos rfl,h10]
         exact hz
   · cases hz
 · cases hz
theorem posI_cong {ids:List Int} (v:Int):posI ids v=posI ids v:=rfl
theorem ascB_map {α:Type} {f:α→α→Bool} {g:α→α}:∀ {l:List α},(∀ a,a∈l→∀ b,b∈l→f (g a) (g b)=f a b)→ascB f (l.map g)=ascB f l
 | [],_=>rfl
 | [a],_=>rfl
 | a::b::r,h=>by
  show (f (g a) (g b)&&ascB f ((b::r).map g))=_
  rw [h a (by simp) b (by simp),ascB_map (l:=b::r) fun c hc d hd=>h c (by simp [hc]) d (by simp [hd])]
  rfl
section
variable {ns:List Nd} {es:List Ed} {x:Trk} {p q:Pt} {y z:Trk} (ay:App ns es x p y) (az:App ns es x q z) (gp:growsB p=true) (gq:growsB q=true) (hsum:p.n1+q.n1 - q.n0≤1000000)
include ay az gp gq hsum
theorem grow_an {q:Pt} (gq:growsB q=true):q.n0≤q.n1∧(∀ n,n∈q.an→q.n0≤n.id)∧∀ e,e∈q.ae→q.n0≤e.id:=by
 unfold growsB at gq
 rw [Bool.and_eq_true,Bool.and_eq_true,leI_iff,Bool.not_eq_true',Bool.not_eq_true'] at gq
 obtain ⟨g0,g1,g2⟩:=gq
 refine ⟨g0,fun n hn=>?_,fun n hn=>?_⟩
 · obtain ⟨k,hk,rfl⟩:=List.getElem_of_mem hn
   have:=anyK_zero g1 k hk
   rw [getD_get hk,ltI_false] at this
   exact this
 · obtain ⟨k,hk,rfl⟩:=List.getElem_of_mem hn
   have:=anyK_zero g2 k hk
   rw [getD_get hk,ltI_false] at this
   exact this
theorem alone_ok:∃ w,applyS ns es x (alP x p q)=.ok w∧applyS ns es (atP x p.n1) (shP p q)=.ok w∧trackErr ns es w=0:=by
 obtain ⟨p0,pn,pe⟩:=grow_an ay az gp gq hsum gp
 obtain ⟨q0,qn,qe⟩:=grow_an ay az gp gq hsum gq
 have pa:=ay.at0
 have qa:=az.at0
 have pnx:=ay.next
 have qnx:=az.next
 obtain ⟨_,hsx,hv8,hxn,hxe,hx0,hx1⟩:=trackErr_ok ay.track
 obtain ⟨ix,jx,_⟩:=track_ids ay.track
 have hd:0≤p.n1 - p.n0:=by omega
 obtain ⟨s,r,h1,h2,hz⟩:=az.run
 obtain ⟨tn,te,hr⟩:=addS_some h2
 have hst:=state_of az.track
 have hst2:=hst.lessS h1
 have sh:=az.shape
 -- the state after the removals: old numbers
 have hl:=h1
 unfold lessS at hl
 obtain ⟨a1,g1,hl⟩:=Option.bind_eq_some_iff.1 hl
 obtain ⟨b1,g2,hl⟩:=Option.bind_eq_some_iff.1 hl
 obtain ⟨a2,g3,hl⟩:=Option.map_eq_some_iff.1 hl
 have ids_set:∀ {r:List Pv} {a a' : List Pn},setVs a r=some a'→a'.map Pn.id=a.map Pn.id:=by
  intro r
  induction r with
  | nil=>intro a a' hc; cases hc; rfl
  | cons m r ih =>
   intro a a' hc
   unfold setVs at hc
   obtain ⟨k,k1,k2⟩:=Option.bind_eq_some_iff.1 hc
   rw [ih k2,(setV_some k1).2,List.map_map]
   congr 1
   funext n
   exact upd_id m n
 have old_n:∀ n,n∈s.1→0≤n.id∧n.id < x.next:=by
  intro n hn
  rw [←hl] at hn
  have:n.id∈a1.map Pn.id:=by rw [←ids_set g3]; exact List.mem_map.2 ⟨n,hn,rfl⟩
  obtain ⟨m,hm,he⟩:=List.mem_map.1 this
  obtain ⟨i,hi,rfl⟩:=node_mem ((cuts_sub g1).subset hm)
  have hi':=ix _ (getD_mem hi)
  rw [←he]
  exact hi'
 have old_e:∀ e,e∈s.2→(0≤e.id∧e.id < x.next)∧(e.src < x.next)∧e.dst < x.next:=by
  intro e he
  rw [←hl] at he
  have hm:=(cuts_sub g2).subset he
  unfold edgesOf at hm
  obtain ⟨i,hi,rfl⟩:=List.mem_map.1 hm
  have hi:=List.mem_range.1 hi
  have s1:=hsx.src i hi
  have s2:=hsx.dst i hi
  exact ⟨jx _ (getD_mem hi),(ix _ (getD_mem (show (x.ge.getD i default).src.toNat < x.ns.length by omega))).2,(ix _ (getD_mem (show (x.ge.getD i default).dst.toNat < x.ns.length by omega))).2⟩
 have idn:∀ v:Int,v < x.next→mv q.n0 (p.n1 - p.n0) v=v:=fun v hv=>by unfold mv; rw [if_neg (by omega)]
 have idu:∀ v:Int,q.n0≤v→mv q.n0 (p.n1 - p.n0) v=v+(p.n1 - p.n0):=fun v hv=>by unfold mv; rw [if_pos hv]
 -- the shape
 have hshape:∀ n0 n1:Int,shapeErr ⟨q.rn,q.re,q.an.map (mvN q.n0 (p.n1 - p.n0)),q.ae.map (mvE q.n0 (p.n1 - p.n0)),q.vl,n0,n1⟩=0:=by
  intro n0 n1
  have pwb:∀ {α:Type} {f:α→Int} {l:List α},l.Pairwise (fun a b=>f a < f b)→ascB (fun a b=>ltI (f a) (f b)) l=true:=by
   intro α f l
   induction l with
   | nil=>intro _; rfl
   | cons a r ih =>
    intro h
    cases r with
    | nil=>rfl
    | cons b r =>
     have h':=List.pairwise_cons.1 h
     show (ltI (f a) (f b)&&ascB _ (b::r))=true
     rw [ih h'.2,lt_t (h'.1 b (by simp))]
     rfl
  have e1:=pwb sh.o1
  have e2:=pwb sh.o2
  have e3:ascB ltN (q.an.map (mvN q.n0 (p.n1 - p.n0)))=true:=by
   refine pwb (f:=Pn.id) ?_
   rw [List.pairwise_map]
   exact sh.o3.imp fun {a b} hab=>mv_lt hd hab
  have e4:ascB ltE (q.ae.map (mvE q.n0 (p.n1 - p.n0)))=true:=by
   refine pwb (f:=Pe.id) ?_
   rw [List.pairwise_map]
   exact sh.o4.imp fun {a b} hab=>mv_lt hd hab
  unfold shapeErr
  have l1:=sh.l1
  have l2:=sh.l2
  have l3:=sh.l3
  have l4:=sh.l4
  have l5:=sh.l5
  rw [if_neg (by simp only [lm]; omega)]
  replace e1:ascB ltN q.rn=true:=e1
  replace e2:ascB ltE q.re=true:=e2
  simp only [e1,e2,e3,e4,sh.o5]
  rfl
 -- the additions
 have fr:∀ v:Int,p.n1≤v→takenB s.1 s.2 v=false:=by
  intro v hv
  unfold takenB nodeAt edgeAt
  rw [leI_find,leI_find,Bool.or_eq_false_iff]
  constructor
  · cases hc:anyK (fun j=>eqI (s.1.getD j default).id v) s.1.length 0
    · rfl
    · obtain ⟨k,_,hk,hkv⟩:=anyK_true _ _ hc
      rw [eqI_iff] at hkv
      have:=old_n _ (getD_mem (show k < s.1.length by omega))
      omega
  · cases hc:anyK (fun j=>eqI (s.2.getD j default).id v) s.2.length 0
    · rfl
    · obtain ⟨k,_,hk,hkv⟩:=anyK_true _ _ hc
      rw [eqI_iff] at hkv
      have:=old_e _ (getD_mem (show k < s.2.length by omega))
      omega
 have none_of:∀ {P:Nat→Bool} {n:Nat},(∀ j,j < n→P j=false)→anyK P n 0=false:=by
  intro P n h
  cases hc:anyK P n 0
  · rfl
  · obtain ⟨k,_,hk,hkv⟩:=anyK_true _ _ hc
    rw [h k (by omega)] at hkv
    cases hkv
 have hadd:addS s.1 s.2 (q.an.map (mvN q.n0 (p.n1 - p.n0))) (q.ae.map (mvE q.n0 (p.n1 - p.n0)))=some (mrg Pn.id s.1 (q.an.map (mvN q.n0 (p.n1 - p.n0))),mrg Pe.id s.2 (q.ae.map (mvE q.n0 (p.n1 - p.n0)))):=by
  unfold addS
  rw [none_of fun j hj=>?_,none_of fun j hj=>?_]
  · rfl
  · have hj:j < q.ae.length:=by simpa using hj
    rw [getD_map _ hj]
    refine fr _ ?_
    have:=qe _ (getD_mem hj)
    show p.n1≤mv q.n0 (p.n1 - p.n0) (q.ae.getD j default).id
    rw [idu _ this]
    omega
  · have hj:j < q.an.length:=by simpa using hj
    rw [getD_map _ hj]
    refine fr _ ?_
    have:=qn _ (getD_mem hj)
    show p.n1≤mv q.n0 (p.n1 - p.n0) (q.an.getD j default).id
    rw [idu _ this]
    omega
 -- the merged lists are the old ones, moved
 have m1:mrg Pn.id s.1 q.an=s.1++q.an:=mrg_app hst2.ao sh.o3 fun a ha b hb=>by
  have:=old_n a ha
  have:=qn b hb
  omega
 have m2:mrg Pe.id s.2 q.ae=s.2++q.ae:=mrg_app hst2.bo sh.o4 fun a ha b hb=>by
  have:=old_e a ha
  have:=qe b hb
  omega
 have k1:mrg Pn.id s.1 (q.an.map (mvN q.n0 (p.n1 - p.n0)))=(s.1++q.an).map (mvN q.n0 (p.n1 - p.n0)):=by
  have e:s.1.map (mvN q.n0 (p.n1 - p.n0))=s.1:=by
   conv=>rhs; rw [←List.map_id s.1]
   refine List.map_congr_left fun n hn=>?_
   show (⟨mv q.n0 (p.n1 - p.n0) n.id,n.ty,n.vals⟩ : Pn)=n
   rw [idn _ (old_n n hn).2]
  rw [List.map_append,e]
  refine mrg_app hst2.ao ?_ fun a ha b hb=>?_
  · rw [List.pairwise_map]
    exact sh.o3.imp fun {a b} hab=>mv_lt hd hab
  · obtain ⟨c,hc,rfl⟩:=List.mem_map.1 hb
    have g1:=old_n a ha
    have g2:=qn c hc
    show a.id < mv q.n0 (p.n1 - p.n0) c.id
    rw [idu _ g2]
    omega
 have k2:mrg Pe.id s.2 (q.ae.map (mvE q.n0 (p.n1 - p.n0)))=(s.2++q.ae).map (mvE q.n0 (p.n1 - p.n0)):=by
  have e:s.2.map (mvE q.n0 (p.n1 - p.n0))=s.2:=by
   conv=>rhs; rw [←List.map_id s.2]
   refine List.map_congr_left fun n hn=>?_
   have g:=old_e n hn
   show (⟨mv q.n0 (p.n1 - p.n0) n.id,n.ty,mv q.n0 (p.n1 - p.n0) n.src,mv q.n0 (p.n1 - p.n0) n.dst⟩ : Pe)=n
   rw [idn _ g.1.2,idn _ g.2.1,idn _ g.2.2]
  rw [List.map_append,e]
  refine mrg_app hst2.bo ?_ fun a ha b hb=>?_
  · rw [List.pairwise_map]
    exact sh.o4.imp fun {a b} hab=>mv_lt hd hab
  · obtain ⟨c,hc,rfl⟩:=List.mem_map.1 hb
    have g1:=old_e a ha
    have g2:=qe c hc
    show a.id < mv q.n0 (p.n1 - p.n0) c.id
    rw [idu _ g2]
    omega
 -- the host
 have hzz:z=trkOf (s.1++q.an) (s.2++q.ae) q.n1:=by rw [hz,hr,m1,m2]
 have hzv:=az.valid
 rw [hzz] at hzv
 obtain ⟨iz,jz,_⟩:=track_ids hzv
 obtain ⟨_,_,_,hzn,hze,_,_⟩:=trackErr_ok hzv
 have c1:((s.1++q.an).map (mvN q.n0 (p.n1 - p.n0))).map Pn.id=((s.1++q.an).map Pn.id).map (mv q.n0 (p.n1 - p.n0)):=by rw [List.map_map,List.map_map]; rfl
 have c2:((s.2++q.ae).map (mvE q.n0 (p.n1 - p.n0))).map Pe.id=((s.2++q.ae).map Pe.id).map (mv q.n0 (p.n1 - p.n0)):=by rw [List.map_map,List.map_map]; rfl
 have wv:trackErr ns es (trkOf ((s.1++q.an).map (mvN q.n0 (p.n1 - p.n0))) ((s.2++q.ae).map (mvE q.n0 (p.n1 - p.n0))) (p.n1+q.n1 - q.n0))=0:=by
  have rng:∀ v:Int,0≤v∧v < q.n1→0≤mv q.n0 (p.n1 - p.n0) v∧mv q.n0 (p.n1 - p.n0) v < p.n1+q.n1 - q.n0:=by
   intro v hv
   unfold mv
   split <;> omega
  refine track_of hzv ?_ ?_ ?_ ?_ ?_ ?_ hsum ?_ ?_ ?_
  · show (List.map _ _).map Pn.ty=_
    rw [List.map_map]; rfl
  · show (List.map _ _).map (geOf _)=_
    rw [c1,List.map_map]
    refine List.map_congr_left fun e he=>?_
    show (⟨e.ty,posI _ (mv q.n0 (p.n1 - p.n0) e.src),posI _ (mv q.n0 (p.n1 - p.n0) e.dst)⟩ : Ge)=⟨e.ty,posI _ e.src,posI _ e.dst⟩
    rw [posI_mv hd,posI_mv hd]
  · show (List.map _ _).map Pn.vals=_
    rw [List.map_map]; rfl
  · simp [trkOf]
  · simp [trkOf]
  · show 0≤p.n1+q.n1 - q.n0
    omega
  · show idsErr (List.map Pn.id _) _=0
    rw [c1]
    refine idsErr_of (fun v hv=>?_) ?_
    · obtain ⟨u,hu,rfl⟩:=List.mem_map.1 hv
      exact rng u (iz u hu)
    · rw [List.pairwise_map]
      exact hzn.imp fun {a b} hab=>mv_lt hd hab
  · show idsErr (List.map Pe.id _) _=0
    rw [c2]
    refine idsErr_of (fun v hv=>?_) ?_
    · obtain ⟨u,hu,rfl⟩:=List.mem_map.1 hv
      exact rng u (jz u hu)
    · rw [List.pairwise_map]
      exact hze.imp fun {a b} hab=>mv_lt hd hab
  · show clashB (List.map Pn.id _) (List.map Pe.id _)=_
    rw [c1,c2]
    exact clash_mv hd _ _
 have xv:trackErr ns es (atP x p.n1)=0:=by
  refine track_of (z:=x) ay.track rfl rfl rfl rfl rfl pnx.2.1 pnx.2.2 ?_ ?_ rfl
  · refine idsErr_of (fun v hv=>?_) hxn
    have:=ix v hv
    show 0≤v∧v < p.n1
    omega
  · refine idsErr_of (fun v hv=>?_) hxe
    have:=jx v hv
    show 0≤v∧v < p.n1
    omega
 refine ⟨trkOf ((s.1++q.an).map (mvN q.n0 (p.n1 - p.n0))) ((s.2++q.ae).map (mvE q.n0 (p.n1 - p.n0))) (p.n1+q.n1 - q.n0),?_,?_,wv⟩
 · have hs0:=hshape x.next (p.n1+q.n1 - q.n0)
   replace hs0:shapeErr (alP x p q)=0:=hs0
   have h1' : lessS (nodesOf x) (edgesOf x) (alP x p q).rn (alP x p q).re (alP x p q).vl=some s:=h1
   have h2' : addS s.1 s.2 (alP x p q).an (alP x p q).ae=_:=hadd
   unfold applyS afterS restS
   rw [if_pos ay.track,if_pos hs0,if_pos (show (alP x p q).n0=x.next from rfl),h1']
   dsimp only
   rw [h2']
   dsimp only
   rw [k1,k2]
   unfold finS
   exact if_pos wv
 · have hs0:=hshape p.n1 (p.n1+q.n1 - q.n0)
   replace hs0:shapeErr (shP p q)=0:=hs0
   have h1' : lessS (nodesOf (atP x p.n1)) (edgesOf (atP x p.n1)) (shP p q).rn (shP p q).re (shP p q).vl=some s:=h1
   have h2' : addS s.1 s.2 (shP p q).an (shP p q).ae=_:=hadd
   unfold applyS afterS restS
   rw [if_pos xv,if_pos hs0,if_pos (show (shP p q).n0=(atP x p.n1).next from rfl),h1']
   dsimp only
   rw [h2']
   dsimp only
   rw [k1,k2]
   unfold finS
   exact if_pos wv
end
end Go.SX.T57
namespace Go.SX.T57
open Go.SX
theorem host_ok {ns:List Nd} {es:List Ed} {x:Trk} (h:trackErr ns es x=0):hostErr ns es x.gn x.ge x.vs=0∧typesErr ns es=0∧x.gn.length≤40∧x.ge.length≤80∧(∀ j,j < x.gn.length→0≤x.gn.getD j default∧x.gn.getD j default < ns.length)∧x.ns.length=x.gn.length:=by
 have hs:=(trackErr_ok h).2.1.n1
 unfold trackErr at h
 obtain ⟨hh,_⟩:=thenE_zero h
 have hh0:=hh
 unfold hostErr at hh
 obtain ⟨ht,hh⟩:=thenE_zero hh
 obtain ⟨hg,hh⟩:=thenE_zero hh
 split at hh
 · obtain ⟨hn,_⟩:=thenE_zero hh
   obtain ⟨g1,g2,g3,_⟩:=graphErr_ok hg
   exact ⟨hh0,ht,g1,g2,fun j hj=>⟨g3 j hj,nodeVErr_in (scan_zero _ _ hn j (by omega) (by omega))⟩,hs.symm⟩
 · cases hh
theorem excH_in {ns:List Nd} {es:List Ed} {gn:List Int} {ge:List Ge} {e:Ex} (h:e∈excH ns es gn ge):∃ i k:Nat,i < es.length∧k < gn.length∧e.1=i∧e.2.1=k:=by
 unfold excH twoX rowX at h
 obtain ⟨i,hi,he⟩:=List.mem_flatMap.1 h
 rcases List.mem_append.1 he with he | he
 · obtain ⟨k,hk,rfl⟩:=List.mem_map.1 he
   exact ⟨i,k,List.mem_range.1 hi,List.mem_range.1 (List.mem_filter.1 hk).1,rfl,rfl⟩
 · obtain ⟨k,hk,rfl⟩:=List.mem_map.1 he
   exact ⟨i,k,List.mem_range.1 hi,List.mem_range.1 (List.mem_filter.1 hk).1,rfl,rfl⟩
theorem excH_len {ns:List Nd} {es:List Ed} {gn:List Int} {ge:List Ge} (h1:gn.length≤40) (h2:es.length≤20):(excH ns es gn ge).length≤1600:=by
 have:=flat_len (twoX ns es gn ge) 80 (List.range es.length) fun i _=>by
  have l1:=rowX_len ns gn ge i true (es.getD i default).src (es.getD i default).ol (es.getD i default).oh
  have l2:=rowX_len ns gn ge i false (es.getD i default).dst (es.getD i default).il (es.getD i default).ih
  unfold twoX
  rw [List.length_append]
  omega
 rw [List.length_range] at this
 unfold excH
 omega
def numX (x:Trk) (e:Ex):Xs:=(x.ns.getD e.2.1.toNat default,e.1,e.2.2.2)
section
variable {ns:List Nd} {es:List Ed} (ht:OkT ns es) {x:Trk} (h0:trackErr ns es x=0)
include ht h0
theorem e14801 (x0 x1 x2 x3 x4 x5 x6 x7 x8:D) (l:List Ex) (hl:l.length≤1600) (hin:∀ e,e∈l→∃ k:Nat,k < x.ns.length∧e.2.1=k):∀ i,i≤l.length→∀ acc:List Xs,acc.length≤i →
 ev 14801 [x0,x1,x2,x3,x4,intsD x.ns,x6,x7,.int l.length,.int i,exsD l,xssD acc]=some [xssD (acc++(l.drop i).map (numX x))]:=by
 refine down ?_ fun i hi ih=>?_
 · intro acc ha
   rw [List.drop_eq_nil_of_le (Nat.le_refl _),List.map_nil,List.append_nil]
   refine ev_by u14801 ?_
   simp only [t14801,go_sem,ltI_irr]
 · intro acc ha
   obtain ⟨k,hk,he⟩:=hin _ (getD_mem hi)
   have hr:(leI 0 (l.getD i default).2.1&&ltI (l.getD i default).2.1 x.ns.length)=true:=by rw [he]; exact in_range hk
   have hkk:(l.getD i default).2.1.toNat < x.ns.length:=by omega
   have h:=ih (acc++[numX x (l.getD i default)]) (by rw [List.length_append,List.length_singleton]; omega)
   rw [List.append_assoc,List.singleton_append] at h
   rw [drop_step hi,List.map_cons]
   have e1:acc.map xsD++[.agg [.int (x.ns.getD (l.getD i default).2.1.toNat default),.int (l.getD i default).1,.bool (l.getD i default).2.2.2]]=(acc++[numX x (l.getD i default)]).map xsD:=by simp [numX]
   refine ev_by u14801 ?_
   simp only [t14801,go_sem,lm,idx_map _ _ _ hi,in_range hi,hr,idx_map _ _ _ hkk,wrapS i (by omega),le_ok (show acc.length≤1073741824 by omega),e1]
   rw [cond_lt (by omega)]
   exact h
theorem e14800:ev 14800 [ndsD ns,edsD es,intsD x.gn,gesD x.ge,valsD x.vs,intsD x.ns,intsD x.es,.int x.next]=some [xssD (excS ns es x)]:=by
 obtain ⟨g1,g2,g3,g4,g5,g6⟩:=host_ok h0
 have h:=e14900 ht g2 g3 g4 g5 g1
 have t3:=(typesErr_ok g2).2.2.1
 have h2:=e14801 ht h0 (ndsD ns) (edsD es) (intsD x.gn) (gesD x.ge) (valsD x.vs) (.int 0) (intsD x.es) (.int x.next) (.int 0) (excH ns es x.gn x.ge) (excH_len g3 t3) (fun e he=>by
  obtain ⟨i,k,_,hk,_,h2⟩:=excH_in he
  exact ⟨k,by omega,h2⟩) 0 (by omega) [] (Nat.zero_le _)
 rw [List.drop_zero,List.nil_append] at h2
 refine ev_by u14800 ?_
 simp only [t14800,go_sem,h,lm]
 exact h2
theorem e23201 (x0 x1 x2 x3 x4 x5 x6 x7 x8:D) (l:List Ex) (hl:l.length≤1600) (hin:∀ e,e∈l→∃ k:Nat,k < x.ns.length∧e.2.1=k):∀ i,i≤l.length→∀ acc:List Xs,acc.length≤i →
 ev 23201 [x0,x1,x2,x3,x4,intsD x.ns,x6,x7,.int i,exsD l,xssD acc]=some [xssD (acc++(l.drop i).map (numX x))]:=by
 refine down ?_ fun i hi ih=>?_
 · intro acc ha
   rw [List.drop_eq_nil_of_le (Nat.le_refl _),List.map_nil,List.append_nil]
   refine ev_by u23201 ?_
   simp only [t23201,go_sem,lm,ltI_irr]
 · intro acc ha
   obtain ⟨k,hk,he⟩:=hin _ (getD_mem hi)
   have hr:(leI 0 (l.getD i default).2.1&&ltI (l.getD i default).2.1 x.ns.length)=true:=by rw [he]; exact in_range hk
   have hkk:(l.getD i default).2.1.toNat < x.ns.length:=by omega
   have h:=ih (acc++[numX x (l.getD i default)]) (by rw [List.length_append,List.length_singleton]; omega)
   rw [List.append_assoc,List.singleton_append] at h
   rw [drop_step hi,List.map_cons]
   have e1:acc.map xsD++[.agg [.int (x.ns.getD (l.getD i default).2.1.toNat default),.int (l.getD i default).1,.bool (l.getD i default).2.2.2]]=(acc++[numX x (l.getD i default)]).map xsD:=by simp [numX]
   refine ev_by u23201 ?_
   simp only [t23201,go_sem,lm,idx_map _ _ _ hi,in_range hi,hr,idx_map _ _ _ hkk,wrapS i (by omega),le_ok (show acc.length≤1073741824 by omega),e1]
   rw [cond_lt (by omega)]
   exact h
theorem e23200:ev 23200 [ndsD ns,edsD es,intsD x.gn,gesD x.ge,valsD x.vs,intsD x.ns,intsD x.es,.int x.next]=some [xssD (excS ns es x)]:=by
 obtain ⟨g1,g2,g3,g4,g5,g6⟩:=host_ok h0
 have h:=e23300 ht g2 g3 g4 g5 g1
 have t3:=(typesErr_ok g2).2.2.1
 have h2:=e23201 ht h0 (ndsD ns) (edsD es) (intsD x.gn) (gesD x.ge) (valsD x.vs) (.int 0) (intsD x.es) (.int x.next) (.int 0) (excH ns es x.gn x.ge) (excH_len g3 t3) (fun e he=>by
  obtain ⟨i,k,_,hk,_,h2⟩:=excH_in he
  exact ⟨k,by omega,h2⟩) 0 (by omega) [] (Nat.zero_le _)
 rw [List.drop_zero,List.nil_append] at h2
 refine ev_by u23200 ?_
 simp only [t23200,go_sem,h]
 exact h2
end
theorem excS_len {ns:List Nd} {es:List Ed} {x:Trk} (h0:trackErr ns es x=0):(excS ns es x).length≤1600:=by
 obtain ⟨g1,g2,g3,g4,g5,g6⟩:=host_ok h0
 unfold excS
 rw [lm]
 exact excH_len g3 (typesErr_ok g2).2.2.1
theorem excS_in {ns:List Nd} {es:List Ed} {x:Trk} (h0:trackErr ns es x=0) {e:Xs} (h:e∈excS ns es x):e.1∈x.ns∧∃ j:Nat,j < es.length∧e.2.1=j:=by
 obtain ⟨g1,g2,g3,g4,g5,g6⟩:=host_ok h0
 unfold excS at h
 obtain ⟨f,hf,rfl⟩:=List.mem_map.1 h
 obtain ⟨i,k,hi,hk,h1,h2⟩:=excH_in hf
 exact ⟨getD_mem (by omega),i,hi,h1⟩
/-! ### Known excesses -/
def eqX (a b:Xs):Bool:=eqI a.1 b.1&&(eqI a.2.1 b.2.1&&(a.2.2 == b.2.2))
def inX (l:List Xs) (e:Xs):Bool:=l.any fun o=>eqX o e
theorem eqX_comm (a b:Xs):eqX a b=eqX b a:=by
 unfold eqX
 rw [eqI_comm a.1,eqI_comm a.2.1]
 cases a.2.2 <;> cases b.2.2 <;> rfl
theorem e15500 (l:List Xs) (hl:l.length≤1000000) (e:Xs):ev 15500 [xssD l,.int e.1,.int e.2.1,.bool e.2.2]=some [.bool (inX l e)]:=by
 have h1:∀ i,i≤l.length→ev 15601 [xssD l,.int e.1,.int e.2.1,.bool e.2.2,.int 0,.int l.length,.int i]=some [.int (findK (fun j=>eqX (l.getD j default) e) (l.length - i) i)]:=by
  refine down ?_ fun i hi ih=>?_
  · refine ev_by u15601 ?_
    simp only [t15601,go_sem,findK_end,ltI_irr]
  · have hx:(eqI e.1 (l.getD i default).1&&(eqI e.2.1 (l.getD i default).2.1&&(e.2.2 == (l.getD i default).2.2)))=eqX (l.getD i default) e:=eqX_comm e (l.getD i default)
    refine ev_by u15601 ?_
    simp only [t15601,go_sem,lm,idx_map _ _ _ hi,in_range hi,hx,wrapS i (by omega),ih]
    rw [findK_step _ hi,cond_lt (by omega)]
    cases eqX (l.getD i default) e <;> rfl
 have h2:ev 15600 [xssD l,.int e.1,.int e.2.1,.bool e.2.2]=some [.int (findK (fun j=>eqX (l.getD j default) e) l.length 0)]:=by
  refine ev_by u15600 ?_
  simp only [t15600,go_sem,lm]
  exact h1 0 (by omega)
 refine ev_by u15500 ?_
 simp only [t15500,go_sem,h2,leI_find]
 rw [←Nat.sub_zero l.length,anyK_any (fun o:Xs=>eqX o e) l 0 (Nat.zero_le _)]
 rfl
theorem e23500 (l:List Xs) (hl:l.length≤1000000) (e:Xs):ev 23500 [xssD l,.int e.1,.int e.2.1,.bool e.2.2]=some [.bool (inX l e)]:=by
 have h1:∀ y:D,∀ i,i≤l.length→ev 23501 [xssD l,.int e.1,.int e.2.1,.bool e.2.2,y,.int i]=some [.bool ((l.drop i).any fun o=>eqX o e)]:=by
  intro y
  refine down ?_ fun i hi ih=>?_
  · rw [List.drop_eq_nil_of_le (Nat.le_refl _)]
    refine ev_by u23501 ?_
    simp only [t23501,go_sem,lm,ltI_irr,List.any_nil]
  · have hx:(eqI (l.getD i default).1 e.1&&(eqI (l.getD i default).2.1 e.2.1&&((l.getD i default).2.2 == e.2.2)))=eqX (l.getD i default) e:=rfl
    rw [drop_step hi,List.any_cons]
    refine ev_by u23501 ?_
    simp only [t23501,go_sem,lm,idx_map _ _ _ hi,in_range hi,hx,wrapS i (by omega),ih]
    rw [cond_lt (by omega)]
    cases eqX (l.getD i default) e <;> rfl
 refine ev_by u23500 ?_
 simp only [t23500,go_sem]
 exact h1 _ 0 (by omega)
theorem e15400 (n:Int) (h0:0≤n) (h1:n≤10000000):ev 15400 [.int n]=some [xssD []]:=by
 have w0:IntKind.i64.wrap (0 - 0)=0:=by decide
 have w1:IntKind.i64.wrap (n - 0)=n:=by rw [nowrap (by omega) (by omega)]; omega
 rcases Int.lt_or_eq_of_le h0 with h | h
 · refine ev_by u15400 ?_
   simp only [t15400,go_sem,w0,w1]
   rw [cond_nlt h0,cond_lt h,cond_le h0,cond_le (by omega),cond_le (by omega)]
   rfl
 · subst h
   refine ev_by u15400 ?_
   simp only [t15400,go_sem,w0]
   rfl
theorem e15300 (a b c:List Xs) (h1:a.length≤1000000) (h2:b.length≤1000000) (h3:c.length≤1000000):ev 15300 [.list [xssD a,xssD b,xssD c]]=some [xssD (a++b++c)]:=by
 have l0:ltI 0 3=true:=by decide
 have l1:ltI 1 3=true:=by decide
 have l2:ltI 2 3=true:=by decide
 have l3:ltI 3 3=false:=by decide
 have w1:IntKind.i64.wrap (0+1)=1:=by decide
 have w2:IntKind.i64.wrap (1+1)=2:=by decide
 have w3:IntKind.i64.wrap (2+1)=3:=by decide
 have s1:IntKind.i64.wrap (0+(a.length:Int))=a.length:=by rw [nowrap (by omega) (by omega)]; omega
 have s2:IntKind.i64.wrap ((a.length:Int)+b.length)=((a.length+b.length:Nat):Int):=by rw [nowrap (by omega) (by omega)]; omega
 have s3:IntKind.i64.wrap (((a.length+b.length:Nat):Int)+c.length)=((a.length+b.length+c.length:Nat):Int):=by rw [nowrap (by omega) (by omega)]; omega
 have g:=e15400 ((a.length+b.length+c.length:Nat):Int) (by omega) (by omega)
 have nn:∀ k:Nat,ltI (k:Int) 0=false:=fun k=>lt_f (by omega)
 have q1:∀ x y:List Xs,x.map xsD++y.map xsD=(x++y).map xsD:=fun x y=>by rw [List.map_append]
 have d3:∀ s:D,ev 15303 [.list [xssD a,xssD b,xssD c],s,.int 3,.int 3,.int 3,.int 3,xssD (a++b++c)]=some [xssD (a++b++c)]:=fun s=>by
  refine ev_by u15303 ?_
  simp only [t15303,go_sem,l3]
 have d2:∀ s:D,ev 15303 [.list [xssD a,xssD b,xssD c],s,.int 3,.int 3,.int 3,.int 2,xssD (a++b)]=some [xssD (a++b++c)]:=fun s=>by
  refine ev_by u15303 ?_
  simp only [t15303,go_sem,l2,lm,w3,le_ok (show (a++b).length≤1073741824 by rw [List.length_append]; omega),le_ok (show c.length≤1073741824 by omega),q1,d3]
  exact cond_in (by omega) (by simp)
 have d1:∀ s:D,ev 15303 [.list [xssD a,xssD b,xssD c],s,.int 3,.int 3,.int 3,.int 1,xssD a]=some [xssD (a++b++c)]:=fun s=>by
  refine ev_by u15303 ?_
  simp only [t15303,go_sem,l1,lm,w2,le_ok (show a.length≤1073741824 by omega),le_ok (show b.length≤1073741824 by omega),q1,d2]
  exact cond_in (by omega) (by simp)
 have d0:∀ s:D,ev 15303 [.list [xssD a,xssD b,xssD c],s,.int 3,.int 3,.int 3,.int 0,xssD []]=some [xssD (a++b++c)]:=fun s=>by
  refine ev_by u15303 ?_
  simp only [t15303,go_sem,l0,lm,w1,List.length_nil,le_ok (show 0≤1073741824 by omega),le_ok (show a.length≤1073741824 by omega),q1,List.nil_append,d1]
  exact cond_in (by omega) (by simp)
 have f3:ev 15301 [.list [xssD a,xssD b,xssD c],.int ((a.length+b.length+c.length:Nat):Int),.int 3,.int 3]=some [xssD (a++b++c)]:=by
  refine ev_by u15301 ?_
  simp only [t15301,go_sem,l3,g]
  exact d0 _
 have f2:ev 15301 [.list [xssD a,xssD b,xssD c],.int ((a.length+b.length:Nat):Int),.int 3,.int 2]=some [xssD (a++b++c)]:=by
  refine ev_by u15301 ?_
  simp only [t15301,go_sem,l2,lm,s3,nn,w3,f3]
  exact cond_in (by omega) (by simp)
 have f1:ev 15301 [.list [xssD a,xssD b,xssD c],.int a.length,.int 3,.int 1]=some [xssD (a++b++c)]:=by
  refine ev_by u15301 ?_
  simp only [t15301,go_sem,l1,lm,s2,nn,w2,f2]
  exact cond_in (by omega) (by simp)
 have f0:ev 15301 [.list [xssD a,xssD b,xssD c],.int 0,.int 3,.int 0]=some [xssD (a++b++c)]:=by
  refine ev_by u15301 ?_
  simp only [t15301,go_sem,l0,lm,s1,nn,w1,f1]
  exact cond_in (by omega) (by simp)
 refine ev_by u15300 ?_
 simp only [t15300,go_sem]
 exact f0
/-! ### New excesses -/
def lst4 (old ex:List Xs):List Co:=(ex.filter fun e=>!inX old e).map fun e=>(4,e.1,e.2.1)
def hit5 (old:List Xs) (n:Int) (j:Nat) (e:Xs):Bool:=eqI e.1 n&&(eqI e.2.1 j&&!inX old e)
def row4 (ne:Nat) (old ex:List Xs) (n:Int):List Co:=((List.range ne).filter fun j=>ex.any (hit5 old n j)).map fun (j:Nat)=>((4,n,(j:Int)):Co)
def col4 (ids:List Int) (ne:Nat) (old ex:List Xs):List Co:=ids.flatMap (row4 ne old ex)
theorem e14601 (x0 x1 x2 x3 x4 x5 x6 x7 x8 x9 x10 x11 x12 x13 x14 x15 x16 x17 x18 x19 x20 x21 x22 x23 x24 x25 x26 x27 x28 x29 x30 x31 x32 x33 x34 x37 x41 x42 x43 x44 x45:D) (old ex:List Xs) (ho:old.length≤1000000) (he:ex.length≤1000000) {zs:List Co} (o4:ev 11900 [cosD (lst4 old ex)]=some [cosD zs]):∀ k,k≤ex.length→∀ acc:List Co,acc.length≤k→acc++((ex.drop k).filter fun e=>!inX old e).map (fun e=>((4,e.1,e.2.1):Co))=lst4 old ex →
 ev 14601 [x0,x1,x2,x3,x4,x5,x6,x7,x8,x9,x10,x11,x12,x13,x14,x15,x16,x17,x18,x19,x20,x21,x22,x23,x24,x25,x26,x27,x28,x29,x30,x31,x32,x33,x34,.int ex.length,.int k,x37,xssD old,cosD acc,xssD ex,x41,x42,x43,x44,x45]=some [cosD zs,.int 0]:=by
 refine down ?_ fun k hk ih=>?_
 · intro acc ha hall
   rw [List.drop_eq_nil_of_le (Nat.le_refl _),List.filter_nil,List.map_nil,List.append_nil] at hall
   subst hall
   refine ev_by u14601 ?_
   simp only [t14601,go_sem,ltI_irr,o4]
 · intro acc ha hall
   have hc:=e15500 old ho (ex.getD k default)
   rw [drop_step hk,List.filter_cons] at hall
   cases c:inX old (ex.getD k default)
   · rw [c] at hc
     rw [c,if_pos (by rfl),List.map_cons] at hall
     have h:=ih (acc++[((4:Int),(ex.getD k default).1,(ex.getD k default).2.1)]) (by rw [List.length_append,List.length_singleton]; omega) (by rw [List.append_assoc]; exact hall)
     have e1:acc.map cD++[.agg [.int 4,.int (ex.getD k default).1,.int (ex.getD k default).2.1]]=(acc++[((4:Int),(ex.getD k default).1,(ex.getD k default).2.1)]).map cD:=by simp [cD]
     refine ev_by u14601 ?_
     simp only [t14601,go_sem,lm,idx_map _ _ _ hk,in_range hk,hc,wrapS k (by omega),le_ok (show acc.length≤1073741824 by omega),e1]
     rw [cond_lt (by omega)]
     exact h
   · rw [c] at hc
     rw [c,if_neg (by exact Bool.false_ne_true)] at hall
     have h:=ih acc (by omega) hall
     refine ev_by u14601 ?_
     simp only [t14601,go_sem,lm,idx_map _ _ _ hk,in_range hk,hc,wrapS k (by omega)]
     rw [cond_lt (by omega)]
     exact h
theorem mem_lst4 (old ex:List Xs) (c:Co):c∈lst4 old ex ↔ ∃ e,e∈ex∧inX old e=false∧c=(4,e.1,e.2.1):=by
 unfold lst4
 simp only [List.mem_map,List.mem_filter,Bool.not_eq_true']
 constructor
 · rintro ⟨e,⟨h1,h2⟩,rfl⟩; exact ⟨e,h1,h2,rfl⟩
 · rintro ⟨e,h1,h2,rfl⟩; exact ⟨e,⟨h1,h2⟩,rfl⟩
theorem mem_col4 (ids:List Int) (ne:Nat) (old ex:List Xs) (h:∀ e,e∈ex→e.1∈ids∧∃ j:Nat,j < ne∧e.2.1=j) (c:Co):c∈col4 ids ne old ex ↔ c∈lst4 old ex:=by
 rw [mem_lst4]
 unfold col4 row4 hit5
 simp only [List.mem_flatMap,List.mem_map,List.mem_filter,List.mem_range,List.any_eq_true,Bool.and_eq_true,eqI_iff,Bool.not_eq_true']
 constructor
 · rintro ⟨n,_,j,⟨_,e,he,h1,h2,h3⟩,rfl⟩
   exact ⟨e,he,h3,by rw [h1,h2]⟩
 · rintro ⟨e,he,h3,rfl⟩
   obtain ⟨h1,j,h2,h4⟩:=h e he
   exact ⟨e.1,h1,j,⟨h2,e,he,rfl,h4,h3⟩,by rw [h4]⟩
theorem asc4 {ids:List Int} (ne:Nat) (old ex:List Xs) (h:ids.Pairwise fun a b=>a < b):(col4 ids ne old ex).Pairwise fun a b=>ltC a b=true:=by
 unfold col4
 rw [List.pairwise_flatMap]
 constructor
 · intro n _
   unfold row4
   rw [List.pairwise_map]
   refine List.Pairwise.filter _ (List.pairwise_lt_range.imp fun {a b} hab=>?_)
   rw [ltC_iff]
   exact .inr ⟨rfl,by show (a:Int) < b; omega⟩
 · refine h.imp fun {m n} hmn=>?_
   intro c hc d hd
   unfold row4 at hc hd
   obtain ⟨_,_,rfl⟩:=List.mem_map.1 hc
   obtain ⟨_,_,rfl⟩:=List.mem_map.1 hd
   rw [ltC_iff]
   exact .inl hmn
section
variable {es:List Ed} {ids:List Int} (hes:es.length≤20) (hids:ids.length≤40) {old ex:List Xs} (ho:old.length≤1000000) (he:ex.length≤1000000)
include hes hids ho he
theorem e23105 (x0 x1 x2 x3 x4 x5 x6 x7 x8 x9 x10 x11 x12 x13 x14 x15 x16 x17 x18 x19 x20 x21 x22 x23 x24 x25 x26 x27 x32 x33 x34 x35 x36 x37 x38 x42 x43 x44 x45 x46 x47 x48 x49 x50 x51:D) (i j:Nat) (hi:i < ids.length) (hj:j < es.length) (acc:List Co) (hacc:acc.length≤1000000):∀ k,k≤ex.length→∀ f:Bool,
 ev 23105 [x0,x1,x2,x3,x4,x5,x6,x7,x8,x9,x10,x11,x12,x13,x14,x15,x16,x17,x18,x19,x20,x21,x22,x23,x24,intsD ids,x26,x27,.int i,.int j,.bool f,.int k,x32,x33,x34,x35,x36,x37,x38,xssD old,xssD ex,cosD acc,x42,x43,x44,x45,x46,x47,x48,x49,x50,x51] =
 ev 23103 [x0,x1,x2,x3,x4,x5,x6,x7,x8,x9,x10,x11,x12,x13,x14,x15,x16,x17,x18,x19,x20,x21,x22,x23,x24,intsD ids,x26,x27,.int i,.int (j+1:Nat),x32,x33,x34,x35,x36,x37,x38,xssD old,xssD ex,cosD (bif f || (ex.drop k).any (hit5 old (ids.getD i default) j) then acc++[((4:Int),ids.getD i default,(j:Int))] else acc),x42,x43,x44,x45,x46,x47,x48,x49,x50,x51]:=by
 refine down ?_ fun k hk ih=>?_
 · intro f
   rw [List.drop_eq_nil_of_le (Nat.le_refl _),List.any_nil,Bool.or_false]
   have e1:acc.map cD++[.agg [.int 4,.int (ids.getD i default),.int j]]=(acc++[((4:Int),ids.getD i default,(j:Int))]).map cD:=by simp [cD]
   cases f
   · rw [ev_eq u23105 rfl]
     simp only [t23105,go_sem,lm,ltI_irr,wrapS j (by omega)]
   · rw [ev_eq u23105 rfl]
     simp only [t23105,go_sem,lm,ltI_irr,wrapS j (by omega),idx_map _ _ _ hi,in_range hi,le_ok (show acc.length≤1073741824 by omega),e1]
 · intro f
   rw [drop_step hk,List.any_cons]
   have hh:hit5 old (ids.getD i default) j (ex.getD k default)=(eqI (ex.getD k default).1 (ids.getD i default)&&(eqI (ex.getD k default).2.1 j&&!inX old (ex.getD k default))):=rfl
   have hc:=e23500 old ho (ex.getD k default)
   cases f
   · rw [Bool.false_or]
     refine Eq.trans ?_ (ih (hit5 old (ids.getD i default) j (ex.getD k default)))
     rw [hh]
     rw [ev_eq u23105 rfl]
     simp only [t23105,go_sem,lm,wrapS k (by omega),idx_map _ _ _ hi,in_range hi,idx_map _ _ _ hk,in_range hk,hc]
     rw [cond_lt (by omega)]
     cases eqI (ex.getD k default).1 (ids.getD i default)
     · rfl
     · cases eqI (ex.getD k default).2.1 j
       · rfl
       · rfl
   · refine Eq.trans ?_ (ih true)
     rw [ev_eq u23105 rfl]
     simp only [t23105,go_sem,lm,wrapS k (by omega)]
     rw [cond_lt (by omega)]
theorem e23103 (x0 x1 x2 x3 x4 x5 x6 x7 x8 x9 x10 x11 x12 x13 x14 x15 x16 x17 x18 x19 x20 x21 x22 x23 x24 x25 x26 x27 x30 x31 x32 x33 x34 x35 x36 x40 x41 x42 x43 x44 x45 x46 x47 x48 x49:D) (i:Nat) (hi:i < ids.length):∀ j,j≤es.length→∀ acc:List Co,acc.length≤20 * i+j →
 ev 23103 [x0,edsD es,x2,x3,x4,x5,x6,x7,x8,x9,x10,x11,x12,x13,x14,x15,x16,x17,x18,x19,x20,x21,x22,x23,x24,intsD ids,x26,x27,.int i,.int j,x30,x31,x32,x33,x34,x35,x36,xssD old,xssD ex,cosD acc,x40,x41,x42,x43,x44,x45,x46,x47,x48,x49] =
 ev 23101 [x0,edsD es,x2,x3,x4,x5,x6,x7,x8,x9,x10,x11,x12,x13,x14,x15,x16,x17,x18,x19,x20,x21,x22,x23,x24,intsD ids,x26,x27,.int (i+1:Nat),x30,x31,x32,x33,x34,x35,x36,xssD old,xssD ex,cosD (acc++(((List.range es.length).drop j).filter fun j=>ex.any (hit5 old (ids.getD i default) j)).map fun (j:Nat)=>((4,ids.getD i default,(j:Int)):Co)),x40,x41,x42,x43,x44,x45,x46,x47,x48,x49]:=by
 refine down ?_ fun j hj ih=>?_
 · intro acc ha
   rw [List.drop_eq_nil_of_le (by simp),List.filter_nil,List.map_nil,List.append_nil]
   rw [ev_eq u23103 rfl]
   simp only [t23103,go_sem,lm,ltI_irr,wrapS i (by omega)]
 · intro acc ha
   have h:=e23105 hes hids ho he x0 (edsD es) x2 x3 x4 x5 x6 x7 x8 x9 x10 x11 x12 x13 x14 x15 x16 x17 x18 x19 x20 x21 x22 x23 x24 (.int 0) x26 x27 x30 x31 x32 x33 x34 x35 x36 x40 x41 x42 x43 x44 x45 x46 x47 x48 x49 i j hi hj acc (by omega) 0 (by omega) false
   rw [List.drop_zero,Bool.false_or] at h
   rw [rng_drop hj,List.filter_cons]
   have key:ev 23103 [x0,edsD es,x2,x3,x4,x5,x6,x7,x8,x9,x10,x11,x12,x13,x14,x15,x16,x17,x18,x19,x20,x21,x22,x23,x24,intsD ids,x26,x27,.int i,.int j,x30,x31,x32,x33,x34,x35,x36,xssD old,xssD ex,cosD acc,x40,x41,x42,x43,x44,x45,x46,x47,x48,x49]=ev 23105 [x0,edsD es,x2,x3,x4,x5,x6,x7,x8,x9,x10,x11,x12,x13,x14,x15,x16,x17,x18,x19,x20,x21,x22,x23,x24,intsD ids,x26,x27,.int i,.int j,.bool false,.int (0:Nat),x30,x31,x32,x33,x34,x35,x36,xssD old,xssD ex,cosD acc,x40,x41,x42,x43,x44,x45,x46,x47,x48,x49]:=by
    rw [ev_eq u23103 rfl]
    simp only [t23103,go_sem,lm]
    rw [cond_lt (by omega)]
    rfl
   cases c:ex.any (hit5 old (ids.getD i default) j)
   · rw [if_neg (by exact Bool.false_ne_true)]
     rw [c] at h
     exact (key.trans h).trans (ih acc (by omega))
   · rw [if_pos rfl,List.map_cons]
     rw [c] at h
     have h2:=ih (acc++[((4:Int),ids.getD i default,(j:Int))]) (by rw [List.length_append,List.length_singleton]; omega)
     rw [List.append_assoc,List.singleton_append] at h2
     exact (key.trans h).trans h2
theorem e23101 (x0 x1 x2 x3 x4 x5 x6 x7 x8 x9 x10 x11 x12 x13 x14 x15 x16 x17 x18 x19 x20 x21 x22 x23 x24 x25 x26 x27 x29 x30 x31 x32 x33 x34 x35 x39 x40 x41 x42 x43 x44 x45 x46 x47 x48:D):∀ i,i≤ids.length→∀ acc:List Co,acc.length≤20 * i →
 ev 23101 [x0,edsD es,x2,x3,x4,x5,x6,x7,x8,x9,x10,x11,x12,x13,x14,x15,x16,x17,x18,x19,x20,x21,x22,x23,x24,intsD ids,x26,x27,.int i,x29,x30,x31,x32,x33,x34,x35,xssD old,xssD ex,cosD acc,x39,x40,x41,x42,x43,x44,x45,x46,x47,x48]=some [cosD (acc++(ids.drop i).flatMap (row4 es.length old ex))]:=by
 refine down ?_ fun i hi ih=>?_
 · intro acc ha
   rw [List.drop_eq_nil_of_le (Nat.le_refl _),List.flatMap_nil,List.append_nil]
   refine ev_by u23101 ?_
   simp only [t23101,go_sem,lm,ltI_irr]
 · intro acc ha
   have h:=e23103 hes hids ho he x0 (.int 0) x2 x3 x4 x5 x6 x7 x8 x9 x10 x11 x12 x13 x14 x15 x16 x17 x18 x19 x20 x21 x22 x23 x24 (.int 0) x26 x27 x29 x30 x31 x32 x33 x34 x35 x39 x40 x41 x42 x43 x44 x45 x46 x47 x48 i hi 0 (by omega) acc (by omega)
   rw [List.drop_zero] at h
   have hl:(row4 es.length old ex (ids.getD i default)).length≤20:=by
    unfold row4
    rw [lm]
    exact Nat.le_trans (List.length_filter_le _ _) (by simpa using hes)
   have h2:=ih (acc++row4 es.length old ex (ids.getD i default)) (by rw [List.length_append]; omega)
   rw [drop_step hi,List.flatMap_cons,←List.append_assoc]
   have key:ev 23101 [x0,edsD es,x2,x3,x4,x5,x6,x7,x8,x9,x10,x11,x12,x13,x14,x15,x16,x17,x18,x19,x20,x21,x22,x23,x24,intsD ids,x26,x27,.int i,x29,x30,x31,x32,x33,x34,x35,xssD old,xssD ex,cosD acc,x39,x40,x41,x42,x43,x44,x45,x46,x47,x48]=ev 23103 [x0,edsD es,x2,x3,x4,x5,x6,x7,x8,x9,x10,x11,x12,x13,x14,x15,x16,x17,x18,x19,x20,x21,x22,x23,x24,intsD ids,x26,x27,.int i,.int (0:Nat),x29,x30,x31,x32,x33,x34,x35,xssD old,xssD ex,cosD acc,x39,x40,x41,x42,x43,x44,x45,x46,x47,x48]:=by
    rw [ev_eq u23101 rfl]
    simp only [t23101,go_sem,lm]
    rw [cond_lt (by omega)]
    rfl
   exact (key.trans h).trans h2
end
end Go.SX.T57
namespace Go.SX.T57
open Go.SX
def cntS (ns:List Nd) (es:List Ed) (x y w m:Trk):List Co:=col4 m.ns es.length (excS ns es x++excS ns es y++excS ns es w) (excS ns es m)
theorem LenP.alP {x:Trk} {p q:Pt} (h:LenP q):LenP (alP x p q):=by
 obtain ⟨h1,h2,h3,h4,h5⟩:=h
 exact ⟨h1,h2,by simpa [Go.SX.T57.alP] using h3,by simpa [Go.SX.T57.alP] using h4,h5⟩
theorem ValP.alP {x:Trk} {p q:Pt} (h:ValP q):ValP (alP x p q):=by
 refine ⟨h.1,fun n hn=>?_⟩
 obtain ⟨m,hm,rfl⟩:=List.mem_map.1 (show n∈q.an.map _ from hn)
 exact h.2 m hm
section
variable {ns:List Nd} {es:List Ed} (ht:OkT ns es) {x:Trk} {p q:Pt} {y z w m:Trk} (h1:x.gn.length≤1000) (h2:x.ge.length≤1000) (h3:x.ns.length≤1000000) (h4:x.es.length≤1000000) (hf:FewT x) (hp:LenP p) (hpv:ValP p) (hq:LenP q) (hqv:ValP q)
 (hy:applyS ns es x p=.ok y) (hz:applyS ns es x q=.ok z) (hw1:applyS ns es x (alP x p q)=.ok w) (hw2:applyS ns es (atP x p.n1) (shP p q)=.ok w) (hm:trackErr ns es m=0)
include ht h1 h2 h3 h4 hf hp hpv hq hqv hy hz hw1 hw2 hm
theorem cnt_len:(excS ns es x++excS ns es y++excS ns es w).length≤4800∧(excS ns es m).length≤1600:=by
 have a:=excS_len (applyS_ok hy).track
 have b:=excS_len (applyS_ok hy).valid
 have c:=excS_len (applyS_ok hw1).valid
 rw [List.length_append,List.length_append]
 exact ⟨by omega,excS_len hm⟩
theorem e14600:ev 14600 [ndsD ns,edsD es,intsD x.gn,gesD x.ge,valsD x.vs,intsD x.ns,intsD x.es,.int x.next,pnsD p.rn,pesD p.re,pnsD p.an,pesD p.ae,pvsD p.vl,.int p.n0,.int p.n1,pnsD q.rn,pesD q.re,pnsD q.an,pesD q.ae,pvsD q.vl,.int q.n0,.int q.n1,intsD y.gn,gesD y.ge,valsD y.vs,intsD y.ns,intsD y.es,.int y.next,intsD m.gn,gesD m.ge,valsD m.vs,intsD m.ns,intsD m.es,.int m.next]=some [cosD (cntS ns es x y w m),.int 0]:=by
 have ay:=applyS_ok hy
 have az:=applyS_ok hz
 have hmv:=mov_of ay az
 have hs:=e12500 hp hq hmv
 replace hs:ev 12500 [pnsD p.rn,pesD p.re,pnsD p.an,pesD p.ae,pvsD p.vl,.int p.n0,.int p.n1,pnsD q.rn,pesD q.re,pnsD q.an,pesD q.ae,pvsD q.vl,.int q.n0,.int q.n1]=some [pnsD (shP p q).rn,pesD (shP p q).re,pnsD (shP p q).an,pesD (shP p q).ae,pvsD (shP p q).vl,.int (shP p q).n0,.int (shP p q).n1]:=hs
 have a2:=e600 ht h1 h2 h3 h4 (p:=alP x p q) hq.alP hqv.alP
 rw [hw1] at a2
 replace a2:ev 600 [ndsD ns,edsD es,intsD x.gn,gesD x.ge,valsD x.vs,intsD x.ns,intsD x.es,.int x.next,pnsD (shP p q).rn,pesD (shP p q).re,pnsD (shP p q).an,pesD (shP p q).ae,pvsD (shP p q).vl,.int x.next,.int (shP p q).n1]=some [intsD w.gn,gesD w.ge,valsD w.vs,intsD w.ns,intsD w.es,.int w.next,.int 0]:=a2
 have hal:ev 14700 [ndsD ns,edsD es,intsD x.gn,gesD x.ge,valsD x.vs,intsD x.ns,intsD x.es,.int x.next,pnsD p.rn,pesD p.re,pnsD p.an,pesD p.ae,pvsD p.vl,.int p.n0,.int p.n1,pnsD q.rn,pesD q.re,pnsD q.an,pesD q.ae,pvsD q.vl,.int q.n0,.int q.n1]=some [intsD w.gn,gesD w.ge,valsD w.vs,intsD w.ns,intsD w.es,.int w.next,.int 0]:=by
  refine ev_by u14700 ?_
  simp only [t14700,go_sem,hs,a2]
 have e1:=e14800 ht ay.track
 have e2:=e14800 ht ay.valid
 have e3:=e14800 ht (applyS_ok hw1).valid
 have e4:=e14800 ht hm
 have hcat:=e15300 (excS ns es x) (excS ns es y) (excS ns es w) (by have:=excS_len ay.track; omega) (by have:=excS_len ay.valid; omega) (by have:=excS_len (applyS_ok hw1).valid; omega)
 obtain ⟨l1,l2⟩:=cnt_len ht h1 h2 h3 h4 hf hp hpv hq hqv hy hz hw1 hw2 hm
 have t3:=(typesErr_ok (host_ok hm).2.1).2.2.1
 have hmem:=mem_col4 m.ns es.length (excS ns es x++excS ns es y++excS ns es w) (excS ns es m) fun e he=>excS_in hm he
 have hids:=(track_ids hm)
 have o4:=e11900 (xs:=lst4 (excS ns es x++excS ns es y++excS ns es w) (excS ns es m)) (zs:=cntS ns es x y w m) (by
  unfold lst4
  rw [lm]
  exact Nat.le_trans (List.length_filter_le _ _) (by omega)) (fun c hc=>by
  obtain ⟨e,he,_,rfl⟩:=(mem_lst4 _ _ _).1 hc
  obtain ⟨g1,j,g2,g3⟩:=excS_in hm he
  have:=hids.1 _ g1
  have:=hids.2.2
  simp only [smallC,decide_eq_true_eq]
  omega) (fun a b ha hb=>by
  obtain ⟨_,_,_,rfl⟩:=(mem_lst4 _ _ _).1 ha
  obtain ⟨_,_,_,rfl⟩:=(mem_lst4 _ _ _).1 hb
  rfl) (asc4 _ _ _ (trackErr_ok hm).2.2.2.1) hmem
 have hloop:=e14601 (ndsD ns) (edsD es) (intsD x.gn) (gesD x.ge) (valsD x.vs) (intsD x.ns) (intsD x.es) (.int x.next) (pnsD p.rn) (pesD p.re) (pnsD p.an) (pesD p.ae) (pvsD p.vl) (.int p.n0) (.int p.n1) (pnsD q.rn) (pesD q.re) (pnsD q.an) (pesD q.ae) (pvsD q.vl) (.int q.n0) (.int q.n1) (intsD y.gn) (gesD y.ge) (valsD y.vs) (intsD y.ns) (intsD y.es) (.int y.next) (intsD m.gn) (gesD m.ge) (valsD m.vs) (intsD m.ns) (intsD m.es) (.int m.next) (.int 0) (.int w.next) (intsD w.gn) (gesD w.ge) (valsD w.vs) (intsD w.ns) (intsD w.es) (excS ns es x++excS ns es y++excS ns es w) (excS ns es m) (by omega) (by omega) o4 0 (by omega) [] (Nat.zero_le _) (by rw [List.drop_zero,List.nil_append]; rfl)
 have h00:eqI 0 0=true:=by decide
 refine ev_by u14600 ?_
 simp only [t14600,go_sem,hal,h00,e1,e2,e3,e4,List.cons_append,List.nil_append,hcat,lm]
 exact hloop
theorem e23100:ev 23100 [ndsD ns,edsD es,intsD x.gn,gesD x.ge,valsD x.vs,intsD x.ns,intsD x.es,.int x.next,pnsD p.rn,pesD p.re,pnsD p.an,pesD p.ae,pvsD p.vl,.int p.n0,.int p.n1,pnsD q.rn,pesD q.re,pnsD q.an,pesD q.ae,pvsD q.vl,.int q.n0,.int q.n1,intsD m.gn,gesD m.ge,valsD m.vs,intsD m.ns,intsD m.es,.int m.next]=some [cosD (cntS ns es x y w m)]:=by
 have ay:=applyS_ok hy
 have az:=applyS_ok hz
 have hmv:=mov_of ay az
 have a1:=e17300 ht h1 h2 h3 h4 hp hpv
 rw [hy] at a1
 replace a1:ev 17300 [ndsD ns,edsD es,intsD x.gn,gesD x.ge,valsD x.vs,intsD x.ns,intsD x.es,.int x.next,pnsD p.rn,pesD p.re,pnsD p.an,pesD p.ae,pvsD p.vl,.int p.n0,.int p.n1]=some [intsD y.gn,gesD y.ge,valsD y.vs,intsD y.ns,intsD y.es,.int y.next,.int 0]:=a1
 have hc:=e16600 hf
 replace hc:ev 16600 [intsD x.gn,gesD x.ge,valsD x.vs,intsD x.ns,intsD x.es,.int x.next]=some [intsD x.gn,gesD x.ge,valsD x.vs,intsD x.ns,intsD x.es,.int x.next]:=hc
 have hs:=e22600 hp hq hmv hqv
 replace hs:ev 22600 [pnsD p.rn,pesD p.re,pnsD p.an,pesD p.ae,pvsD p.vl,.int p.n0,.int p.n1,pnsD q.rn,pesD q.re,pnsD q.an,pesD q.ae,pvsD q.vl,.int q.n0,.int q.n1]=some [pnsD (shP p q).rn,pesD (shP p q).re,pnsD (shP p q).an,pesD (shP p q).ae,pvsD (shP p q).vl,.int (shP p q).n0,.int (shP p q).n1]:=hs
 have a2:=e17300 ht (x:=atP x p.n1) (p:=shP p q) h1 h2 h3 h4 hq.shP hqv.shP
 rw [hw2] at a2
 replace a2:ev 17300 [ndsD ns,edsD es,intsD x.gn,gesD x.ge,valsD x.vs,intsD x.ns,intsD x.es,.int p.n1,pnsD (shP p q).rn,pesD (shP p q).re,pnsD (shP p q).an,pesD (shP p q).ae,pvsD (shP p q).vl,.int (shP p q).n0,.int (shP p q).n1]=some [intsD w.gn,gesD w.ge,valsD w.vs,intsD w.ns,intsD w.es,.int w.next,.int 0]:=a2
 have e1:=e23200 ht ay.track
 have e2:=e23200 ht ay.valid
 have e3:=e23200 ht (applyS_ok hw1).valid
 have e4:=e23200 ht hm
 obtain ⟨l1,l2⟩:=cnt_len ht h1 h2 h3 h4 hf hp hpv hq hqv hy hz hw1 hw2 hm
 have la:=excS_len ay.track
 have lb:=excS_len ay.valid
 have lc:=excS_len (applyS_ok hw1).valid
 have t3:=(typesErr_ok (host_ok hm).2.1).2.2.1
 have hn3:=(trackErr_ok hm).2.1.n3
 have hloop:=e23101 t3 hn3 (old:=excS ns es x++excS ns es y++excS ns es w) (ex:=excS ns es m) (by omega) (by omega) (ndsD ns) (edsD es) (intsD x.gn) (gesD x.ge) (valsD x.vs) (intsD x.ns) (intsD x.es) (.int x.next) (pnsD p.rn) (pesD p.re) (pnsD p.an) (pesD p.ae) (pvsD p.vl) (.int p.n0) (.int p.n1) (pnsD q.rn) (pesD q.re) (pnsD q.an) (pesD q.ae) (pvsD q.vl) (.int q.n0) (.int q.n1) (intsD m.gn) (gesD m.ge) (valsD m.vs) (intsD m.ns) (intsD m.es) (.int m.next) (.int y.next) (intsD x.gn) (gesD x.ge) (valsD x.vs) (intsD x.ns) (intsD x.es) (.int w.next) (intsD y.gn) (gesD y.ge) (valsD y.vs) (intsD y.ns) (intsD y.es) (intsD w.gn) (gesD w.ge) (valsD w.vs) (intsD w.ns) (intsD w.es) 0 (by omega) [] (Nat.zero_le _)
 rw [List.drop_zero,List.nil_append] at hloop
 have q1:∀ a b:List Xs,a.map xsD++b.map xsD=(a++b).map xsD:=fun a b=>by rw [List.map_append]
 refine ev_by u23100 ?_
 simp only [t23100,go_sem,a1,hc,hs,a2,e1,e2,e3,e4,lm,le_ok (show (excS ns es x).length≤1073741824 by omega),le_ok (show (excS ns es y).length≤1073741824 by omega),le_ok (show (excS ns es w).length≤1073741824 by omega),q1,le_ok (show (excS ns es x++excS ns es y).length≤1073741824 by rw [List.length_append]; omega)]
 exact hloop
end
section
variable {ns:List Nd} {es:List Ed} (ht:OkT ns es) {x:Trk} {p q:Pt} (hf:FewT x) (hp:FewP p) (hq:FewP q)
include ht hf hp hq
theorem both_conf:∃ (l:List Co) (e:Int),l.length≤1000000∧ev 400 [ndsD ns,edsD es,intsD x.gn,gesD x.ge,valsD x.vs,intsD x.ns,intsD x.es,.int x.next,pnsD p.rn,pesD p.re,pnsD p.an,pesD p.ae,pvsD p.vl,.int p.n0,.int p.n1,pnsD q.rn,pesD q.re,pnsD q.an,pesD q.ae,pvsD q.vl,.int q.n0,.int q.n1]=some [cosD l,.int e]∧ev 17100 [ndsD ns,edsD es,intsD x.gn,gesD x.ge,valsD x.vs,intsD x.ns,intsD x.es,.int x.next,pnsD p.rn,pesD p.re,pnsD p.an,pesD p.ae,pvsD p.vl,.int p.n0,.int p.n1,pnsD q.rn,pesD q.re,pnsD q.an,pesD q.ae,pvsD q.vl,.int q.n0,.int q.n1]=some [cosD l,.int e]:=by
 obtain ⟨⟨f1,f2,f3,f4⟩,f5⟩:=id hf
 have h1:x.gn.length≤1000:=by omega
 have h2:x.ge.length≤1000:=by omega
 have h3:x.ns.length≤1000000:=by omega
 have h4:x.es.length≤1000000:=by omega
 have g1:=e500 ht h1 h2 h3 h4 hp.len hp.val hq.len hq.val
 have g2:=e17200 ht h1 h2 h3 h4 hp.len hp.val hq.len hq.val
 replace g1:ev 500 [ndsD ns,edsD es,intsD x.gn,gesD x.ge,valsD x.vs,intsD x.ns,intsD x.es,.int x.next,pnsD p.rn,pesD p.re,pnsD p.an,pesD p.ae,pvsD p.vl,.int p.n0,.int p.n1,pnsD q.rn,pesD q.re,pnsD q.an,pesD q.ae,pvsD q.vl,.int q.n0,.int q.n1]=_:=g1
 replace g2:ev 17200 [ndsD ns,edsD es,intsD x.gn,gesD x.ge,valsD x.vs,intsD x.ns,intsD x.es,.int x.next,pnsD p.rn,pesD p.re,pnsD p.an,pesD p.ae,pvsD p.vl,.int p.n0,.int p.n1,pnsD q.rn,pesD q.re,pnsD q.an,pesD q.ae,pvsD q.vl,.int q.n0,.int q.n1]=_:=g2
 by_cases hg:givenErr ns es x p q=0
 · obtain ⟨y,z,hy,hz,b1,b2,b3⟩:=given_ok hg
   rw [hg] at g1 g2
   have ay:=applyS_ok hy
   have az:=applyS_ok hz
   have h00:eqI 0 0=true:=by decide
   obtain ⟨_,hsx,hv8,_⟩:=trackErr_ok ay.track
   have c1:=e11400 hp.len hq.len ay az
   have c2:=e22100 hsx hv8 hp.len hq.len
   replace c1:ev 11400 [pnsD p.rn,pesD p.re,pnsD p.an,pesD p.ae,pvsD p.vl,.int p.n0,.int p.n1,pnsD q.rn,pesD q.re,pnsD q.an,pesD q.ae,pvsD q.vl,.int q.n0,.int q.n1]=_:=c1
   replace c2:ev 22100 [intsD x.gn,gesD x.ge,valsD x.vs,intsD x.ns,intsD x.es,.int x.next,pnsD p.rn,pesD p.re,pnsD p.an,pesD p.ae,pvsD p.vl,.int p.n0,.int p.n1,pnsD q.rn,pesD q.re,pnsD q.an,pesD q.ae,pvsD q.vl,.int q.n0,.int q.n1]=_:=c2
   by_cases hc:0 < (colS x p q).length
   · refine ⟨colS x p q,0,?_,?_,?_⟩
     · unfold colS col1 col2 col3
       rw [List.length_append,List.length_append,lm,lm]
       have a1:=List.length_filter_le (hit1 p q) x.ns
       have a2:=List.length_filter_le (hit3 q) p.vl
       have a3:=flat_len (row2 x p q) 8 (List.range x.ns.length) fun i hi=>by
        unfold row2
        rw [lm]
        refine Nat.le_trans (List.length_filter_le _ _) ?_
        rw [List.length_range]
        exact hv8 i (List.mem_range.1 hi)
       rw [List.length_range] at a3
       have:=hp.len.2.2.2.2
       have:=ay.shape.l5
       have:=hsx.n3
       omega
     · refine ev_by u400 ?_
       simp only [t400,go_sem,g1,h00,c1,lm]
       rw [cond_lt (by omega)]
     · refine ev_by u17100 ?_
       simp only [t17100,go_sem,g2,h00,c2,lm]
       rw [cond_lt (by omega)]
   · have hno:colS x p q=[]:=List.length_eq_zero_iff.1 (by omega)
     rw [hno] at c1 c2
     obtain ⟨a,ha,m1,m2⟩:=e12400 ht h1 h2 h3 h4 hp.len hp.val hq.len hq.val hy hz
     have m3:=e22500 ht h1 h2 h3 h4 hp.len hp.val hq.len hq.val hy hz hno
     replace m1:ev 12400 [ndsD ns,edsD es,intsD x.gn,gesD x.ge,valsD x.vs,intsD x.ns,intsD x.es,.int x.next,pnsD p.rn,pesD p.re,pnsD p.an,pesD p.ae,pvsD p.vl,.int p.n0,.int p.n1,pnsD q.rn,pesD q.re,pnsD q.an,pesD q.ae,pvsD q.vl,.int q.n0,.int q.n1]=_:=m1
     replace m3:ev 22500 [ndsD ns,edsD es,intsD x.gn,gesD x.ge,valsD x.vs,intsD x.ns,intsD x.es,.int x.next,pnsD p.rn,pesD p.re,pnsD p.an,pesD p.ae,pvsD p.vl,.int p.n0,.int p.n1,pnsD q.rn,pesD q.re,pnsD q.an,pesD q.ae,pvsD q.vl,.int q.n0,.int q.n1]=_:=m3
     have hl0:ltI 0 ((([]:List D).length:Nat):Int)=false:=by decide
     cases hm:mgS ns es y p q with
     | error e =>
      have he:=mgS_err hm
      rw [hm] at m1 m3
      replace m3:_=some [D.list [],D.list [],D.list [],D.list [],D.list [],D.int 0,D.int e]:=m3
      match a,ha with
      | [b1,b2,b3,b4,b5,b6],_ =>
       replace m1:_=some [b1,b2,b3,b4,b5,b6,D.list [],D.list [],D.list [],D.list [],D.list [],D.int 0,D.int e]:=m1
       refine ⟨[],e,by simp,?_,?_⟩
       · refine ev_by u400 ?_
         simp only [t400,go_sem,g1,h00,c1,List.map_nil,hl0,m1]
         rw [cond_ne he]
         rfl
       · refine ev_by u17100 ?_
         simp only [t17100,go_sem,g2,h00,c2,List.map_nil,hl0,m3]
         rw [cond_ne he]
         rfl
     | ok m =>
      rw [m2 ⟨m,hm⟩,hm] at m1
      rw [hm] at m3
      replace m1:_=some [intsD y.gn,gesD y.ge,valsD y.vs,intsD y.ns,intsD y.es,.int y.next,intsD m.gn,gesD m.ge,valsD m.vs,intsD m.ns,intsD m.es,.int m.next,.int 0]:=m1
      replace m3:_=some [intsD m.gn,gesD m.ge,valsD m.vs,intsD m.ns,intsD m.es,.int m.next,.int 0]:=m3
      obtain ⟨w,w1,w2,w3⟩:=alone_ok ay az b1 b2 b3
      have hmv:=mgS_ok hm
      have k1:=e14600 ht h1 h2 h3 h4 hf hp.len hp.val hq.len hq.val hy hz w1 w2 hmv
      have k2:=e23100 ht h1 h2 h3 h4 hf hp.len hp.val hq.len hq.val hy hz w1 w2 hmv
      refine ⟨cntS ns es x y w m,0,?_,?_,?_⟩
      · have t3:=(typesErr_ok (host_ok hmv).2.1).2.2.1
        have n3:=(trackErr_ok hmv).2.1.n3
        have:=flat_len (row4 es.length (excS ns es x++excS ns es y++excS ns es w) (excS ns es m)) 20 m.ns fun n _=>by
         unfold row4
         rw [lm]
         exact Nat.le_trans (List.length_filter_le _ _) (by simpa using t3)
        unfold cntS col4
        omega
      · refine ev_by u400 ?_
        simp only [t400,go_sem,g1,h00,c1,List.map_nil,hl0,m1,k1]
      · refine ev_by u17100 ?_
        simp only [t17100,go_sem,g2,h00,c2,List.map_nil,hl0,m3,k2]
 · refine ⟨[],givenErr ns es x p q,by simp,?_,?_⟩
   · refine ev_by u400 ?_
     simp only [t400,go_sem,g1]
     rw [cond_ne hg]
     rfl
   · refine ev_by u17100 ?_
     simp only [t17100,go_sem,g2]
     rw [cond_ne hg]
     rfl
def nilT:Trk:=⟨[],[],[],[],[],0⟩
theorem both_merge:∃ (m:Trk) (e:Int),(m.gn.length≤40∧m.ge.length≤80∧m.vs.length≤40∧m.ns.length≤40∧m.es.length≤80∧∀ v,v∈m.vs→v.length≤8)∧ev 15700 [ndsD ns,edsD es,intsD x.gn,gesD x.ge,valsD x.vs,intsD x.ns,intsD x.es,.int x.next,pnsD p.rn,pesD p.re,pnsD p.an,pesD p.ae,pvsD p.vl,.int p.n0,.int p.n1,pnsD q.rn,pesD q.re,pnsD q.an,pesD q.ae,pvsD q.vl,.int q.n0,.int q.n1]=some [intsD m.gn,gesD m.ge,valsD m.vs,intsD m.ns,intsD m.es,.int m.next,.int e]∧ev 23700 [ndsD ns,edsD es,intsD x.gn,gesD x.ge,valsD x.vs,intsD x.ns,intsD x.es,.int x.next,pnsD p.rn,pesD p.re,pnsD p.an,pesD p.ae,pvsD p.vl,.int p.n0,.int p.n1,pnsD q.rn,pesD q.re,pnsD q.an,pesD q.ae,pvsD q.vl,.int q.n0,.int q.n1]=some [intsD m.gn,gesD m.ge,valsD m.vs,intsD m.ns,intsD m.es,.int m.next,.int e]:=by
 obtain ⟨⟨f1,f2,f3,f4⟩,f5⟩:=id hf
 have h1:x.gn.length≤1000:=by omega
 have h2:x.ge.length≤1000:=by omega
 have h3:x.ns.length≤1000000:=by omega
 have h4:x.es.length≤1000000:=by omega
 have hnil:(nilT.gn.length≤40∧nilT.ge.length≤80∧nilT.vs.length≤40∧nilT.ns.length≤40∧nilT.es.length≤80∧∀ v,v∈nilT.vs→v.length≤8):=by
  refine ⟨by decide,by decide,by decide,by decide,by decide,fun v hv=>by cases hv⟩
 have g1:=e500 ht h1 h2 h3 h4 hp.len hp.val hq.len hq.val
 have g2:=e17200 ht h1 h2 h3 h4 hp.len hp.val hq.len hq.val
 replace g1:ev 500 [ndsD ns,edsD es,intsD x.gn,gesD x.ge,valsD x.vs,intsD x.ns,intsD x.es,.int x.next,pnsD p.rn,pesD p.re,pnsD p.an,pesD p.ae,pvsD p.vl,.int p.n0,.int p.n1,pnsD q.rn,pesD q.re,pnsD q.an,pesD q.ae,pvsD q.vl,.int q.n0,.int q.n1]=_:=g1
 replace g2:ev 17200 [ndsD ns,edsD es,intsD x.gn,gesD x.ge,valsD x.vs,intsD x.ns,intsD x.es,.int x.next,pnsD p.rn,pesD p.re,pnsD p.an,pesD p.ae,pvsD p.vl,.int p.n0,.int p.n1,pnsD q.rn,pesD q.re,pnsD q.an,pesD q.ae,pvsD q.vl,.int q.n0,.int q.n1]=_:=g2
 by_cases hg:givenErr ns es x p q=0
 · obtain ⟨y,z,hy,hz,b1,b2,b3⟩:=given_ok hg
   rw [hg] at g1 g2
   have ay:=applyS_ok hy
   have az:=applyS_ok hz
   have h00:eqI 0 0=true:=by decide
   obtain ⟨_,hsx,hv8,_⟩:=trackErr_ok ay.track
   have c1:=e11400 hp.len hq.len ay az
   have c2:=e22100 hsx hv8 hp.len hq.len
   replace c1:ev 11400 [pnsD p.rn,pesD p.re,pnsD p.an,pesD p.ae,pvsD p.vl,.int p.n0,.int p.n1,pnsD q.rn,pesD q.re,pnsD q.an,pesD q.ae,pvsD q.vl,.int q.n0,.int q.n1]=_:=c1
   replace c2:ev 22100 [intsD x.gn,gesD x.ge,valsD x.vs,intsD x.ns,intsD x.es,.int x.next,pnsD p.rn,pesD p.re,pnsD p.an,pesD p.ae,pvsD p.vl,.int p.n0,.int p.n1,pnsD q.rn,pesD q.re,pnsD q.an,pesD q.ae,pvsD q.vl,.int q.n0,.int q.n1]=_:=c2
   by_cases hc:0 < (colS x p q).length
   · refine ⟨nilT,11,hnil,?_,?_⟩
     · refine ev_by u15700 ?_
       simp only [t15700,go_sem,g1,h00,c1,lm]
       rw [cond_lt (by omega)]
       rfl
     · refine ev_by u23700 ?_
       simp only [t23700,go_sem,g2,h00,c2,lm]
       rw [cond_lt (by omega)]
       rfl
   · have hno:colS x p q=[]:=List.length_eq_zero_iff.1 (by omega)
     rw [hno] at c1 c2
     obtain ⟨a,ha,m1,m2⟩:=e12400 ht h1 h2 h3 h4 hp.len hp.val hq.len hq.val hy hz
     have m3:=e22500 ht h1 h2 h3 h4 hp.len hp.val hq.len hq.val hy hz hno
     replace m1:ev 12400 [ndsD ns,edsD es,intsD x.gn,gesD x.ge,valsD x.vs,intsD x.ns,intsD x.es,.int x.next,pnsD p.rn,pesD p.re,pnsD p.an,pesD p.ae,pvsD p.vl,.int p.n0,.int p.n1,pnsD q.rn,pesD q.re,pnsD q.an,pesD q.ae,pvsD q.vl,.int q.n0,.int q.n1]=_:=m1
     replace m3:ev 22500 [ndsD ns,edsD es,intsD x.gn,gesD x.ge,valsD x.vs,intsD x.ns,intsD x.es,.int x.next,pnsD p.rn,pesD p.re,pnsD p.an,pesD p.ae,pvsD p.vl,.int p.n0,.int p.n1,pnsD q.rn,pesD q.re,pnsD q.an,pesD q.ae,pvsD q.vl,.int q.n0,.int q.n1]=_:=m3
     have hl0:ltI 0 ((([]:List D).length:Nat):Int)=false:=by decide
     cases hm:mgS ns es y p q with
     | error e =>
      have he:=mgS_err hm
      rw [hm] at m1 m3
      replace m3:_=some [D.list [],D.list [],D.list [],D.list [],D.list [],D.int 0,D.int e]:=m3
      match a,ha with
      | [b1,b2,b3,b4,b5,b6],_ =>
       replace m1:_=some [b1,b2,b3,b4,b5,b6,D.list [],D.list [],D.list [],D.list [],D.list [],D.int 0,D.int e]:=m1
       have q1:ev 15800 [ndsD ns,edsD es,intsD x.gn,gesD x.ge,valsD x.vs,intsD x.ns,intsD x.es,.int x.next,pnsD p.rn,pesD p.re,pnsD p.an,pesD p.ae,pvsD p.vl,.int p.n0,.int p.n1,pnsD q.rn,pesD q.re,pnsD q.an,pesD q.ae,pvsD q.vl,.int q.n0,.int q.n1]=some [.list [],.list [],.list [],.list [],.list [],.int 0,.int e]:=by
        refine ev_by u15800 ?_
        simp only [t15800,go_sem,m1]
        rw [cond_ne he]
       have q2:ev 23800 [ndsD ns,edsD es,intsD x.gn,gesD x.ge,valsD x.vs,intsD x.ns,intsD x.es,.int x.next,pnsD p.rn,pesD p.re,pnsD p.an,pesD p.ae,pvsD p.vl,.int p.n0,.int p.n1,pnsD q.rn,pesD q.re,pnsD q.an,pesD q.ae,pvsD q.vl,.int q.n0,.int q.n1]=some [.list [],.list [],.list [],.list [],.list [],.int 0,.int e]:=by
        refine ev_by u23800 ?_
        simp only [t23800,go_sem,m3]
        rw [cond_ne he]
       refine ⟨nilT,e,hnil,?_,?_⟩
       · refine ev_by u15700 ?_
         simp only [t15700,go_sem,g1,h00,c1,List.map_nil,hl0,q1]
         rfl
       · refine ev_by u23700 ?_
         simp only [t23700,go_sem,g2,h00,c2,List.map_nil,hl0,q2]
         rfl
     | ok m =>
      rw [m2 ⟨m,hm⟩,hm] at m1
      rw [hm] at m3
      replace m1:_=some [intsD y.gn,gesD y.ge,valsD y.vs,intsD y.ns,intsD y.es,.int y.next,intsD m.gn,gesD m.ge,valsD m.vs,intsD m.ns,intsD m.es,.int m.next,.int 0]:=m1
      replace m3:_=some [intsD m.gn,gesD m.ge,valsD m.vs,intsD m.ns,intsD m.es,.int m.next,.int 0]:=m3
      obtain ⟨w,w1,w2,w3⟩:=alone_ok ay az b1 b2 b3
      have hmv:=mgS_ok hm
      have k1:=e14600 ht h1 h2 h3 h4 hf hp.len hp.val hq.len hq.val hy hz w1 w2 hmv
      have k2:=e23100 ht h1 h2 h3 h4 hf hp.len hp.val hq.len hq.val hy hz w1 w2 hmv
      by_cases hcn:0 < (cntS ns es x y w m).length
      · have q1:ev 15800 [ndsD ns,edsD es,intsD x.gn,gesD x.ge,valsD x.vs,intsD x.ns,intsD x.es,.int x.next,pnsD p.rn,pesD p.re,pnsD p.an,pesD p.ae,pvsD p.vl,.int p.n0,.int p.n1,pnsD q.rn,pesD q.re,pnsD q.an,pesD q.ae,pvsD q.vl,.int q.n0,.int q.n1]=some [.list [],.list [],.list [],.list [],.list [],.int 0,.int 11]:=by
         refine ev_by u15800 ?_
         simp only [t15800,go_sem,m1,h00,k1,lm]
         rw [cond_lt (by omega)]
        have q2:ev 23800 [ndsD ns,edsD es,intsD x.gn,gesD x.ge,valsD x.vs,intsD x.ns,intsD x.es,.int x.next,pnsD p.rn,pesD p.re,pnsD p.an,pesD p.ae,pvsD p.vl,.int p.n0,.int p.n1,pnsD q.rn,pesD q.re,pnsD q.an,pesD q.ae,pvsD q.vl,.int q.n0,.int q.n1]=some [.list [],.list [],.list [],.list [],.list [],.int 0,.int 11]:=by
         refine ev_by u23800 ?_
         simp only [t23800,go_sem,m3,h00,k2,lm]
         rw [cond_lt (by omega)]
        refine ⟨nilT,11,hnil,?_,?_⟩
        · refine ev_by u15700 ?_
          simp only [t15700,go_sem,g1,h00,c1,List.map_nil,hl0,q1]
          rfl
        · refine ev_by u23700 ?_
          simp only [t23700,go_sem,g2,h00,c2,List.map_nil,hl0,q2]
          rfl
      · have q1:ev 15800 [ndsD ns,edsD es,intsD x.gn,gesD x.ge,valsD x.vs,intsD x.ns,intsD x.es,.int x.next,pnsD p.rn,pesD p.re,pnsD p.an,pesD p.ae,pvsD p.vl,.int p.n0,.int p.n1,pnsD q.rn,pesD q.re,pnsD q.an,pesD q.ae,pvsD q.vl,.int q.n0,.int q.n1]=some [intsD m.gn,gesD m.ge,valsD m.vs,intsD m.ns,intsD m.es,.int m.next,.int 0]:=by
         refine ev_by u15800 ?_
         simp only [t15800,go_sem,m1,h00,k1,lm]
         rw [cond_nlt (by omega)]
        have q2:ev 23800 [ndsD ns,edsD es,intsD x.gn,gesD x.ge,valsD x.vs,intsD x.ns,intsD x.es,.int x.next,pnsD p.rn,pesD p.re,pnsD p.an,pesD p.ae,pvsD p.vl,.int p.n0,.int p.n1,pnsD q.rn,pesD q.re,pnsD q.an,pesD q.ae,pvsD q.vl,.int q.n0,.int q.n1]=some [intsD m.gn,gesD m.ge,valsD m.vs,intsD m.ns,intsD m.es,.int m.next,.int 0]:=by
         refine ev_by u23800 ?_
         simp only [t23800,go_sem,m3,h00,k2,lm]
         rw [cond_nlt (by omega)]
        obtain ⟨_,hsm,hm8,_⟩:=trackErr_ok hmv
        have n1:=hsm.n1
        have n2:=hsm.n2
        have n3:=hsm.n3
        have n4:=hsm.e1
        have n5:=hsm.e2
        refine ⟨m,0,⟨by omega,by omega,by omega,by omega,by omega,all_mem (P:=fun v:List Int=>v.length≤8) fun j hj=>hm8 j (by omega)⟩,?_,?_⟩
        · refine ev_by u15700 ?_
          simp only [t15700,go_sem,g1,h00,c1,List.map_nil,hl0,q1]
        · refine ev_by u23700 ?_
          simp only [t23700,go_sem,g2,h00,c2,List.map_nil,hl0,q2]
 · refine ⟨nilT,givenErr ns es x p q,hnil,?_,?_⟩
   · refine ev_by u15700 ?_
     simp only [t15700,go_sem,g1]
     rw [cond_ne hg]
     rfl
   · refine ev_by u23700 ?_
     simp only [t23700,go_sem,g2]
     rw [cond_ne hg]
     rfl
end
end Go.SX.T57
namespace Go.SX.T57
open Go.SX
theorem e15900 (l:List Co) (hl:l.length≤1000000):ev 15900 [cosD l,cosD l]=some [.bool true]:=by
 have h:∀ y:D,∀ i,i≤l.length→ev 15901 [cosD l,cosD l,y,.int l.length,.int i]=some [.bool true]:=by
  intro y
  refine down ?_ fun i hi ih=>?_
  · refine ev_by u15901 ?_
    simp only [t15901,go_sem,ltI_irr]
  · have hc:=co_eq (l.getD i default) (l.getD i default)
    rw [decide_eq_true rfl] at hc
    refine ev_by u15901 ?_
    simp only [t15901,go_sem,lm,idx_map _ _ _ hi,in_range hi,wrapS i (by omega),ih,hc,c_cells]
    rw [cond_lt (by omega)]
 refine ev_by u15900 ?_
 simp only [t15900,go_sem,lm]
 rw [cond_eq rfl]
 exact h _ 0 (by omega)
theorem e24200 (l:List Int) (hl:l.length≤1000000):ev 24200 [intsD l,intsD l]=some [.int 0]:=by
 have h:∀ y:D,∀ i,i≤l.length→ev 24201 [intsD l,intsD l,y,.int i]=some [.int 0]:=by
  intro y
  refine down ?_ fun i hi ih=>?_
  · refine ev_by u24201 ?_
    simp only [t24201,go_sem,lm,ltI_irr,Int.sub_self]
    rfl
  · refine ev_by u24201 ?_
    simp only [t24201,go_sem,lm,idx_map _ _ _ hi,in_range hi,wrapS i (by omega),ih]
    rw [cond_lt (by omega),cond_lt (by omega),cond_eq rfl]
 refine ev_by u24200 ?_
 simp only [t24200,go_sem]
 exact h _ 0 (by omega)
theorem e24100 (gn:List Int) (ge:List Ge) (h1:gn.length≤1000000) (h2:ge.length≤1000000):ev 24100 [intsD gn,gesD ge,intsD gn,gesD ge]=some [.bool true]:=by
 have hs:=e21500 gn (show Len gn.length by omega)
 have h:∀ y:D,∀ i,i≤ge.length→ev 24101 [intsD gn,gesD ge,intsD gn,gesD ge,y,.int i]=some [.bool true]:=by
  intro y
  refine down ?_ fun i hi ih=>?_
  · refine ev_by u24101 ?_
    simp only [t24101,go_sem,lm,ltI_irr]
  · refine ev_by u24101 ?_
    simp only [t24101,go_sem,lm,idx_map _ _ _ hi,in_range hi,wrapS i (by omega),ih,eq_t (show (ge.getD i default).ty=(ge.getD i default).ty from rfl),eq_t (show (ge.getD i default).src=(ge.getD i default).src from rfl),eq_t (show (ge.getD i default).dst=(ge.getD i default).dst from rfl)]
    rw [cond_lt (by omega)]
    rfl
 refine ev_by u24100 ?_
 simp only [t24100,go_sem,hs,lm]
 rw [cond_eq rfl]
 exact h _ 0 (by omega)
theorem e24000 (gn:List Int) (ge:List Ge) (vs:List (List Int)) (h1:gn.length≤1000000) (h2:ge.length≤1000000) (h3:vs.length≤1000000) (h4:∀ v,v∈vs→v.length≤1000000):ev 24000 [intsD gn,gesD ge,valsD vs,intsD gn,gesD ge,valsD vs]=some [.bool true]:=by
 have hs:=e24100 gn ge h1 h2
 have h00:eqI 0 0=true:=by decide
 have h:∀ y:D,∀ i,i≤vs.length→ev 24001 [intsD gn,gesD ge,valsD vs,intsD gn,gesD ge,valsD vs,y,.int i,intsD gn,gesD ge,valsD vs,intsD gn,gesD ge,valsD vs]=some [.bool true]:=by
  intro y
  refine down ?_ fun i hi ih=>?_
  · refine ev_by u24001 ?_
    simp only [t24001,go_sem,lm,ltI_irr]
  · have hc:=e24200 _ (h4 _ (getD_mem hi))
    refine ev_by u24001 ?_
    simp only [t24001,go_sem,lm,idx_map _ _ _ hi,in_range hi,wrapS i (by omega),ih,hc,h00]
    rw [cond_lt (by omega)]
 refine ev_by u24000 ?_
 simp only [t24000,go_sem,hs,lm]
 rw [cond_eq rfl]
 exact h _ 0 (by omega)
theorem e23900 {m:Trk} (h1:m.gn.length≤1000000) (h2:m.ge.length≤1000000) (h3:m.vs.length≤1000000) (h4:∀ v,v∈m.vs→v.length≤1000000) (h5:m.ns.length≤1000000) (h6:m.es.length≤1000000):ev 23900 [intsD m.gn,gesD m.ge,valsD m.vs,intsD m.ns,intsD m.es,.int m.next,intsD m.gn,gesD m.ge,valsD m.vs,intsD m.ns,intsD m.es,.int m.next]=some [.bool true]:=by
 have a:=e24000 m.gn m.ge m.vs h1 h2 h3 h4
 have b:=e21500 m.ns (show Len m.ns.length by omega)
 have c:=e21500 m.es (show Len m.es.length by omega)
 refine ev_by u23900 ?_
 simp only [t23900,go_sem,a,b,c,eq_t (show m.next=m.next from rfl)]
section
variable {ns:List Nd} {es:List Ed} (hT:LenT ns es) {x:Trk} (hv:Len x.vs.length) (h1:Len x.ns.length) (h2:Len x.es.length) {p q:Pt}
include hT hv h1 h2
theorem e0:ev 0 [ndsD ns,edsD es,intsD x.gn,gesD x.ge,valsD x.vs,intsD x.ns,intsD x.es,.int x.next,pnsD p.rn,pesD p.re,pnsD p.an,pesD p.ae,pvsD p.vl,.int p.n0,.int p.n1,pnsD q.rn,pesD q.re,pnsD q.an,pesD q.ae,pvsD q.vl,.int q.n0,.int q.n1]=some [.bool true]:=by
 obtain ⟨b,hb,hi⟩:=e16000 hT (x:=x) hv h1 h2 (p:=p) (q:=q)
 cases b
 · refine ev_by u0 ?_
   simp only [t0,go_sem,awake_ok,hb]
 · obtain ⟨ht,hf,hp,hq⟩:=hi rfl
   obtain ⟨l,e,hl,r1,r2⟩:=both_conf ht hf hp hq
   have c1:=e16600 hf
   have c2:=e16900 hp.len hp.val
   have c3:=e16900 hq.len hq.val
   replace c1:ev 16600 [intsD x.gn,gesD x.ge,valsD x.vs,intsD x.ns,intsD x.es,.int x.next]=some [intsD x.gn,gesD x.ge,valsD x.vs,intsD x.ns,intsD x.es,.int x.next]:=c1
   replace c2:ev 16900 [pnsD p.rn,pesD p.re,pnsD p.an,pesD p.ae,pvsD p.vl,.int p.n0,.int p.n1]=some [pnsD p.rn,pesD p.re,pnsD p.an,pesD p.ae,pvsD p.vl,.int p.n0,.int p.n1]:=c2
   replace c3:ev 16900 [pnsD q.rn,pesD q.re,pnsD q.an,pesD q.ae,pvsD q.vl,.int q.n0,.int q.n1]=some [pnsD q.rn,pesD q.re,pnsD q.an,pesD q.ae,pvsD q.vl,.int q.n0,.int q.n1]:=c3
   have c4:=e15900 l hl
   refine ev_by u0 ?_
   simp only [t0,go_sem,awake_ok,hb,c1,c2,c3,r1,r2,eq_t (show e=e from rfl),c4]
theorem e23600:ev 23600 [ndsD ns,edsD es,intsD x.gn,gesD x.ge,valsD x.vs,intsD x.ns,intsD x.es,.int x.next,pnsD p.rn,pesD p.re,pnsD p.an,pesD p.ae,pvsD p.vl,.int p.n0,.int p.n1,pnsD q.rn,pesD q.re,pnsD q.an,pesD q.ae,pvsD q.vl,.int q.n0,.int q.n1]=some [.bool true]:=by
 obtain ⟨b,hb,hi⟩:=e16000 hT (x:=x) hv h1 h2 (p:=p) (q:=q)
 cases b
 · refine ev_by u23600 ?_
   simp only [t23600,go_sem,awake_ok,hb]
 · obtain ⟨ht,hf,hp,hq⟩:=hi rfl
   obtain ⟨m,e,⟨l1,l2,l3,l4,l5,l6⟩,r1,r2⟩:=both_merge ht hf hp hq
   have c1:=e16600 hf
   have c2:=e16900 hp.len hp.val
   have c3:=e16900 hq.len hq.val
   replace c1:ev 16600 [intsD x.gn,gesD x.ge,valsD x.vs,intsD x.ns,intsD x.es,.int x.next]=some [intsD x.gn,gesD x.ge,valsD x.vs,intsD x.ns,intsD x.es,.int x.next]:=c1
   replace c2:ev 16900 [pnsD p.rn,pesD p.re,pnsD p.an,pesD p.ae,pvsD p.vl,.int p.n0,.int p.n1]=some [pnsD p.rn,pesD p.re,pnsD p.an,pesD p.ae,pvsD p.vl,.int p.n0,.int p.n1]:=c2
   replace c3:ev 16900 [pnsD q.rn,pesD q.re,pnsD q.an,pesD q.ae,pvsD q.vl,.int q.n0,.int q.n1]=some [pnsD q.rn,pesD q.re,pnsD q.an,pesD q.ae,pvsD q.vl,.int q.n0,.int q.n1]:=c3
   have c4:=e23900 (m:=m) (by omega) (by omega) (by omega) (fun v hv=>by have:=l6 v hv; omega) (by omega) (by omega)
   refine ev_by u23600 ?_
   simp only [t23600,go_sem,awake_ok,hb,c1,c2,c3,r1,r2,eq_t (show e=e from rfl),c4]
end
theorem mergeConflicts_pure (ν:List D) (h:All2 (WK env.ti) ([25,42].flatMap (kindsOf env.ti)) ν):Ev tree prim (0 * 100) ν [.bool true]:=by
 obtain ⟨ns,es,x,p,q,rfl,a,b,c,d⟩:=dec_three h
 exact (evr_iff primDet).1 (e0 a b c d)
theorem mergeMerge_pure (ν:List D) (h:All2 (WK env.ti) ([25,42].flatMap (kindsOf env.ti)) ν):Ev tree prim (236 * 100) ν [.bool true]:=by
 obtain ⟨ns,es,x,p,q,rfl,a,b,c,d⟩:=dec_three h
 exact (evr_iff primDet).1 (e23600 a b c d)
end Go.SX.T57
