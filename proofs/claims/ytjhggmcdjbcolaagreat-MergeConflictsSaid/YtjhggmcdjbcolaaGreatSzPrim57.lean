/-
What the functions of Go's library answer that have no tree here: the first place of a byte in a string; one element taken out; the order of nodes, edges, collisions.
-/
import Derived.Test.YtjhggmcdjbcolaaGreatSzGo
import Derived.Test.YtjhggmcdjbcolaaGreatSzV57
import Derived.KernelRfl
import Derived.Lib.Bytealg
set_option linter.unusedVariables false
set_option linter.unusedSimpArgs false
set_option linter.unusedSectionVars false
namespace Go.SX.T57
open Go.SX
/-! ### Elements in order -/
def idOf (d:D):Int:=(d.cells.getD 0 default).toInt
def SortN (ds r:List D):Prop:=∃ xs ys:List D,ds=[.list xs]∧r=[.list ys]∧xs.length < 4611686018427387904∧ys.Perm xs∧ys.Pairwise fun a b=>idOf a < idOf b
abbrev Co:=Int × Int × Int
def cD (c:Co):D:=.agg [.int c.1,.int c.2.1,.int c.2.2]
def ltC (x y:Co):Bool:=decide (x.2.1 < y.2.1) || (decide (x.2.1=y.2.1)&&decide (x.2.2 < y.2.2))
def smallC (c:Co):Bool:=decide (-4611686018427387904 < c.2.1∧c.2.1 < 4611686018427387904 ∧ -4611686018427387904 < c.2.2∧c.2.2 < 4611686018427387904 )
def SortC (ds r:List D):Prop:=∃ xs ys:List Co,ds=[.list (xs.map cD)]∧r=[.list (ys.map cD)]∧xs.length < 4611686018427387904∧xs.all smallC=true∧(∀ a b,a∈xs→b∈xs→a.1=b.1)∧ys.Perm xs∧ys.Pairwise fun a b=>ltC b a=false
theorem cD_inj {p q:Co} (h:cD p=cD q):p=q:=by
 obtain ⟨a,b,c⟩:=p
 obtain ⟨a',b',c'⟩:=q
 simp only [cD,D.agg.injEq,List.cons.injEq,D.int.injEq,and_true] at h
 obtain ⟨rfl,rfl,rfl⟩:=h
 rfl
theorem mapC_inj {l m:List Co} (h:l.map cD=m.map cD):l=m:=List.map_inj_right (fun _ _ h=>cD_inj h) |>.1 h
theorem ltC_iff {x y:Co}:ltC x y=true ↔ x.2.1 < y.2.1 ∨ (x.2.1=y.2.1∧x.2.2 < y.2.2):=by simp [ltC]
theorem ltC_false {x y:Co}:ltC x y=false ↔ ¬ (x.2.1 < y.2.1 ∨ (x.2.1=y.2.1∧x.2.2 < y.2.2)):=by rw [←ltC_iff]; simp
theorem sortN_unique {l m:List D} (h1:l.Pairwise fun a b=>idOf a < idOf b) (h2:m.Pairwise fun a b=>idOf a < idOf b) (hp:l.Perm m):l=m:=by
 refine List.Perm.eq_of_pairwise (le:=fun a b=>idOf a < idOf b) ?_ h1 h2 hp
 intro a b _ _ ha hb
 omega
theorem sortC_unique {xs l m:List Co} (hk:∀ a b,a∈xs→b∈xs→a.1=b.1) (h1:l.Pairwise fun a b=>ltC b a=false) (h2:m.Pairwise fun a b=>ltC b a=false) (hp1:l.Perm xs) (hp2:m.Perm xs):l=m:=by
 refine List.Perm.eq_of_pairwise (le:=fun a b=>ltC b a=false) ?_ h1 h2 (hp1.trans hp2.symm)
 intro a b ha hb h3 h4
 rw [ltC_false] at h3 h4
 have:=hk a b (hp1.mem_iff.1 ha) (hp2.mem_iff.1 hb)
 exact Prod.ext this (Prod.ext (by omega) (by omega))
def DelR (ds r:List D):Prop:=∃ (xs:List D) (i:Nat),ds=[.list xs,.int i,.int ((i+1:Nat):Int)]∧i < xs.length∧r=[.list (xs.take i++xs.drop (i+1))]
def prim (l:Nat) (ds r:List D):Prop:=(l=2700∧∃ s b,ds=[.str s,.int b]∧r=[.int (Lib.indexByte s.data.toList b.toNat.toUInt8)]) ∨
 ((l=8900 ∨ l=9300)∧DelR ds r) ∨ ((l=10400 ∨ l=10500)∧SortN ds r) ∨ (l=12000∧SortC ds r)
theorem primDet:PrimDet prim:=by
 intro l ds r r' h h'
 rcases h with ⟨rfl,s,b,h1,rfl⟩ | ⟨hl,xs,i,h1,h2,rfl⟩ | ⟨hl,xs,ys,h1,rfl,_,h3,h4⟩ | ⟨rfl,xs,ys,h1,rfl,_,_,h2,h3,h4⟩
 · rcases h' with ⟨_,s',b',h1',rfl⟩ | ⟨h,_⟩ | ⟨h,_⟩ | ⟨h,_⟩
   · rw [h1] at h1'
     simp only [List.cons.injEq,D.str.injEq,D.int.injEq,and_true] at h1'
     obtain ⟨rfl,rfl⟩:=h1'
     rfl
   all_goals omega
 · rcases h' with ⟨h,_⟩ | ⟨_,xs',i',h1',h2',rfl⟩ | ⟨h,_⟩ | ⟨h,_⟩
   · omega
   · rw [h1] at h1'
     simp only [List.cons.injEq,D.list.injEq,D.int.injEq,and_true] at h1'
     obtain ⟨rfl,h3,_⟩:=h1'
     obtain rfl:i=i':=by omega
     rfl
   all_goals omega
 · rcases h' with ⟨h,_⟩ | ⟨h,_⟩ | ⟨_,xs',ys',h1',rfl,_,h3',h4'⟩ | ⟨h,_⟩
   · omega
   · omega
   · rw [h1] at h1'
     simp only [List.cons.injEq,D.list.injEq,and_true] at h1'
     subst h1'
     rw [sortN_unique h4 h4' (h3.trans h3'.symm)]
   · omega
 · rcases h' with ⟨h,_⟩ | ⟨h,_⟩ | ⟨h,_⟩ | ⟨_,xs',ys',h1',rfl,_,_,h2',h3',h4'⟩
   · omega
   · omega
   · omega
   · rw [h1] at h1'
     simp only [List.cons.injEq,D.list.injEq,and_true] at h1'
     have:=mapC_inj h1'
     subst this
     rw [sortC_unique h2 h4 h4' h3 h3']
/-! ### The kernel computes -/
def insN (x:D):List D→List D
 | []=>[x]
 | y::r=>bif decide (idOf y < idOf x) then y::insN x r else x::y::r
def sortN:List D→List D
 | []=>[]
 | x::r=>insN x (sortN r)
theorem insN_perm (x:D):∀ l,(insN x l).Perm (x::l)
 | []=>.refl _
 | y::r=>by
  unfold insN
  cases decide (idOf y < idOf x)
  · exact .refl _
  · exact (List.Perm.cons y (insN_perm x r)).trans (List.Perm.swap x y r)
theorem sortN_perm:∀ l,(sortN l).Perm l
 | []=>.refl _
 | x::r=>(insN_perm x _).trans (.cons x (sortN_perm r))
def strictB:List D→Bool
 | []=>true
 | x::r=>r.all (fun y=>decide (idOf x < idOf y))&&strictB r
theorem strictB_ok:∀ {l:List D},strictB l=true→l.Pairwise fun a b=>idOf a < idOf b
 | [],_=>.nil
 | x::r,h=>by
  simp only [strictB,Bool.and_eq_true,List.all_eq_true,decide_eq_true_eq] at h
  exact .cons h.1 (strictB_ok h.2)
def insC (x:Co):List Co→List Co
 | []=>[x]
 | y::r=>bif ltC y x then y::insC x r else x::y::r
def sortC:List Co→List Co
 | []=>[]
 | x::r=>insC x (sortC r)
theorem insC_perm (x:Co):∀ l,(insC x l).Perm (x::l)
 | []=>.refl _
 | y::r=>by
  unfold insC
  cases ltC y x
  · exact .refl _
  · exact (List.Perm.cons y (insC_perm x r)).trans (List.Perm.swap x y r)
theorem sortC_perm:∀ l,(sortC l).Perm l
 | []=>.refl _
 | x::r=>(insC_perm x _).trans (.cons x (sortC_perm r))
theorem insC_sorted (x:Co):∀ {l:List Co},(l.Pairwise fun a b=>ltC b a=false)→(insC x l).Pairwise fun a b=>ltC b a=false
 | [],_=>.cons (fun _ h=>by cases h) .nil
 | y::r,h=>by
  have h0:∀ z,z∈r→ltC z y=false:=fun z hz=>(List.pairwise_cons.1 h).1 z hz
  have h1:=(List.pairwise_cons.1 h).2
  unfold insC
  cases hc:ltC y x
  · refine .cons (fun z hz=>?_) h
    rcases List.mem_cons.1 hz with rfl | hz
    · exact hc
    · have h2:=h0 z hz
      rw [ltC_false] at hc h2 ⊢
      omega
  · refine .cons (fun z hz=>?_) (insC_sorted x h1)
    rcases List.mem_cons.1 ((insC_perm x r).mem_iff.1 hz) with rfl | hz
    · rw [ltC_iff] at hc
      rw [ltC_false]
      omega
    · exact h0 z hz
theorem sortC_sorted:∀ l:List Co,(sortC l).Pairwise fun a b=>ltC b a=false
 | []=>.nil
 | x::r=>insC_sorted x (sortC_sorted r)
def decC:List D→Option (List Co)
 | []=>some []
 | .agg [.int a,.int b,.int c]::r=>(decC r).map fun l=>(a,b,c)::l
 | _=>none
theorem decC_ok:∀ {ds:List D} {l:List Co},decC ds=some l→ds=l.map cD
 | [],l,h=>by cases h; rfl
 | d::r,l,h=>by
  unfold decC at h
  split at h
  · rename_i heq; cases heq
  · rename_i a b c r' heq
    cases heq
    obtain ⟨l',h',rfl⟩:=Option.map_eq_some_iff.1 h
    rw [decC_ok h']
    rfl
  · cases h
def peDel (xs:List D) (i j:Int):Option (List D):=if 0≤i∧j=i+1∧i < xs.length then some [.list (xs.take i.toNat++xs.drop (i.toNat+1))] else none
theorem peDel_ok {xs:List D} {i j:Int} {r:List D} (h:peDel xs i j=some r):DelR [.list xs,.int i,.int j] r:=by
 unfold peDel at h
 split at h
 · rename_i hc
   cases h
   refine ⟨xs,i.toNat,?_,by omega,rfl⟩
   have h1:(i.toNat:Int)=i:=by omega
   have h2:((i.toNat+1:Nat):Int)=j:=by omega
   rw [h1,h2]
 · cases h
def peN (xs:List D):Option (List D):=if xs.length < 4611686018427387904∧strictB (sortN xs)=true then some [.list (sortN xs)] else none
theorem peN_ok {xs r:List D} (h:peN xs=some r):SortN [.list xs] r:=by
 unfold peN at h
 split at h
 · rename_i hc
   cases h
   exact ⟨xs,_,rfl,rfl,hc.1,sortN_perm xs,strictB_ok hc.2⟩
 · cases h
def peC (xs:List D):Option (List D):=(decC xs).bind fun l=>if l.length < 4611686018427387904∧l.all smallC=true∧(l.all fun a=>l.all fun b=>decide (a.1=b.1))=true then some [.list ((sortC l).map cD)] else none
theorem peC_ok {xs r:List D} (h:peC xs=some r):SortC [.list xs] r:=by
 obtain ⟨l,h1,h2⟩:=Option.bind_eq_some_iff.1 h
 split at h2
 · rename_i hc
   cases h2
   refine ⟨l,sortC l,by rw [decC_ok h1],rfl,hc.1,hc.2.1,fun a b ha hb=>?_,sortC_perm l,sortC_sorted l⟩
   exact of_decide_eq_true (List.all_eq_true.1 (List.all_eq_true.1 hc.2.2 a ha) b hb)
 · cases h2
def pe (l:Nat) (ds:List D):Option (List D):=match l,ds with
 | 2700,[.str s,.int b]=>some [.int (Lib.indexByte s.data.toList b.toNat.toUInt8)]
 | 8900,[.list xs,.int i,.int j]=>peDel xs i j
 | 9300,[.list xs,.int i,.int j]=>peDel xs i j
 | 10400,[.list xs]=>peN xs
 | 10500,[.list xs]=>peN xs
 | 12000,[.list xs]=>peC xs
 | _,_=>none
theorem pe_ok:∀ l ds r,pe l ds=some r→prim l ds r:=by
 intro l ds r h
 unfold pe at h
 split at h
 · cases h
   exact .inl ⟨rfl,_,_,rfl,rfl⟩
 · exact .inr (.inl ⟨.inl rfl,peDel_ok h⟩)
 · exact .inr (.inl ⟨.inr rfl,peDel_ok h⟩)
 · exact .inr (.inr (.inl ⟨.inl rfl,peN_ok h⟩))
 · exact .inr (.inr (.inl ⟨.inr rfl,peN_ok h⟩))
 · exact .inr (.inr (.inr ⟨rfl,peC_ok h⟩))
 · cases h
noncomputable def ev:Nat→List D→Option (List D):=evr tree prim
theorem ev_by {l:Nat} {t:T} (ht:tree l=some t) {ds r:List D} (h:t.go ev ds=some r):ev l ds=some r:=evr_of primDet ht h
theorem ev_eq {l:Nat} {t:T} (ht:tree l=some t) (hf:t.flat=true) {ds:List D}:ev l ds=t.go ev ds:=evr_eq primDet ht hf
theorem ev_ex {n l:Nat} {ds r:List D} (h:fnEx tree pe n l ds=some r):ev l ds=some r:=(evr_iff primDet).2 ⟨n,fnEx_ok pe_ok _ _ _ _ h⟩
theorem ev_pr {l:Nat} {ds r:List D} (hn:tree l=none) (h:prim l ds r):ev l ds=some r:=by
 refine (evr_iff primDet).2 ⟨1,?_⟩
 show Fn tree prim 1 l ds r
 unfold Fn
 rw [hn]
 exact h
theorem awake_run:fnEx tree pe 1000 100 []=some [.bool true]:=by kernel_rfl
theorem awake_ok:ev 100 []=some [.bool true]:=ev_ex awake_run
end Go.SX.T57
