/-
Arguments that read as data are data that the trees speak of; what a law's tree answers, the call answers.
-/
import Derived.Test.YtjhggmcdjbcolaaGreatSzTab
import Derived.WalkKit
import Derived.ProofKit
import Derived.OpenShut
import Derived.ShutString
import Derived.ChangeOld
import Derived.Below
import Derived.SizedLaws
set_option linter.unusedVariables false
set_option linter.unusedSimpArgs false
set_option linter.unusedSectionVars false
namespace Go.SX
open Go.RowKit
inductive WK (ti:TypeId→TI):K→D→Prop where
 | int {k:IntKind} {n:Int}:(Lit.int k n).wf=true→WK ti (.int k) (.int n)
 | bool (b:Bool):WK ti .bool (.bool b)
 | str (s:ByteArray):s.size≤reachBytes→WK ti .str (.str s)
 | sl {t e:TypeId} {agg:Bool} {lv:List K} {xs:List D}:ti t=.sl e agg lv→xs.length≤reachBytes→(∀ x,x∈xs→agg=true→∃ l,x=.agg l∧l.length=lv.length) →
  (∀ x,x∈xs→∀ (c:Nat) k,lv[c]?=some k→WK ti k (cellD agg c x))→WK ti (.sl t) (.list xs)
def leafOf (ti:TypeId→TI) (t:TypeId):List (Option K):=match ti t with
 | .one k=>[some k]
 | .sl ..=>[some (.sl t)]
 | .ag _ lv _=>lv
 | .other=>[none]
 | .bad=>[]
def offB:List (Nat × List (Option K))→Nat→Bool
 | [],_=>true
 | p::r,acc=>decide (p.1=acc)&&offB r (acc+p.2.length)
def partsOf (P:Program) (ti:TypeId→TI) (t:TypeId):List (Nat × List (Option K)):=match P.underlying t with
 | some (.struct fs)=>fs.toList.map fun f=>(f.offset,leafOf ti f.type)
 | some (.array n e)=>(List.range n).map fun i=>(i * P.cellsOf e,leafOf ti e)
 | _=>[]
def lvB (P:Program) (ti:TypeId→TI) (t:TypeId):Bool:=match ti t with
 | .sl e agg lv=>decide (leafOf ti e=lv.map some)&&decide ((ti e).isAgg=agg)&&decide (0 < P.bytesOf e)
 | .ag _ lv _=>decide (lv=(partsOf P ti t).flatMap (·.2))&&offB (partsOf P ti t) 0
 | _=>true
theorem offB_get:∀ {l:List (Nat × List (Option K))} {acc c:Nat} {x:Option K},offB l acc=true→(l.flatMap (·.2))[c]?=some x→∃ (i:Nat) (p:Nat × List (Option K)) (c' : Nat),l[i]?=some p∧p.2[c']?=some x∧p.1+c'=acc+c
 | [],acc,c,x,h,hx=>by simp at hx
 | p::r,acc,c,x,h,hx=>by
  simp only [offB,Bool.and_eq_true,decide_eq_true_eq] at h
  simp only [List.flatMap_cons] at hx
  by_cases hc:c < p.2.length
  · rw [List.getElem?_append_left hc] at hx
    exact ⟨0,p,c,rfl,hx,by omega⟩
  · rw [List.getElem?_append_right (by omega)] at hx
    obtain ⟨i,q,c',h1,h2,h3⟩:=offB_get h.2 hx
    exact ⟨i+1,q,c',by simpa using h1,h2,by omega⟩
theorem exists_list {p:Nat→D→Prop}:∀ {n:Nat},(∀ c,c < n→∃ d,p c d)→∃ l:List D,l.length=n∧∀ c,c < n→p c (l.getD c default)
 | 0,h=>⟨[],rfl,fun c hc=>by omega⟩
 | n+1,h=>by
  obtain ⟨l,h1,h2⟩:=exists_list (n:=n) fun c hc=>h c (by omega)
  obtain ⟨d,hd⟩:=h n (by omega)
  refine ⟨l++[d],by simp [h1],fun c hc=>?_⟩
  by_cases hcn:c < n
  · have:=h2 c hcn
    simp only [List.getD_eq_getElem?_getD] at this ⊢
    rw [List.getElem?_append_left (by omega)]
    exact this
  · have:c=n:=by omega
    subst this
    simp only [List.getD_eq_getElem?_getD]
    rw [List.getElem?_append_right (by omega),h1]
    simpa using hd
theorem cellsOf_eq {P:Program} {t:TypeId} {i:TypeInfo} (h:P.info? t=some i):P.cellsOf t=i.size:=by simp [Program.cellsOf,h]
section
variable {H:Type} {enc:TypeId × Value→H} {P:Program} {w:World} {ti:TypeId→TI}
theorem cell_spot {a:Addr} {v:Value} (h:w.cell? a=some v):a.spot=none∧a.block < w.heap.size:=by
 unfold World.cell? at h
 split at h
 · rename_i c t f hb
   split at h
   · cases h
   · rename_i hs
     refine ⟨by simpa using hs,?_⟩
     rcases Nat.lt_or_ge a.block w.heap.size with hl | hl
     · exact hl
     · rw [Array.getElem?_eq_none hl] at hb; cases hb
 · cases h
theorem addr_add (b off n:Nat):(⟨b,off,none⟩ : Addr).add n=⟨b,off+n,none⟩:=by
 unfold Addr.add
 split
 · rename_i h
   subst h
   rfl
 · rfl
theorem weightsAll_mem {H:Type} {P:Program} {e:TypeId}:∀ {l:List (DataW H)} {d:DataW H},d∈l→∀ {q:Nat},q∈d.weights P e→q∈DataW.weightsAll P e l
 | [],_,h,_,_=>by cases h
 | x::r,d,h,q,hq=>by
  simp only [DataW.weightsAll,List.mem_append]
  rcases List.mem_cons.1 h with rfl | h
  · exact .inl hq
  · exact .inr (weightsAll_mem h hq)
theorem open_leaves (hT:TyOK P ti) (hL:∀ t,lvB P ti t=true):∀ (n:Nat) (t:TypeId) (cs:List Value) (x:DataW H × List MemPlace),DataW.trod enc P w 0 (fun _=>true) true n t cs=some x→ti t≠.bad→(∀ q,q∈x.1.weights P t→q≤reachBytes) →
 cs.length=(leafOf ti t).length∧∀ (c:Nat) k,(leafOf ti t)[c]?=some (some k)→∃ d v,cs[c]?=some v∧Rd ti w (fun b=>b < w.heap.size) k d v∧WK ti k d:=by
 intro n
 induction n with
 | zero=>intro t cs x h; simp [DataW.trod] at h
 | succ n ih =>
  intro t cs x h hb hw
  have hF:=hT t
  have hlv:=hL t
  unfold TyF at hF
  unfold lvB at hlv
  unfold leafOf
  cases ht:ti t with
  | bad=>exact absurd ht hb
  | one k =>
   simp only [ht] at hF ⊢
   obtain ⟨d,z,h1,h2,_⟩:=hF
   unfold DescK at h2
   split at h2
   · subst h2
     obtain ⟨m,rfl,_,hwf⟩:=DataW.trod_int h1.und h
     refine ⟨rfl,fun c k hk=>?_⟩
     cases c with
     | zero=>cases hk; exact ⟨_,_,rfl,.int _ _,.int hwf⟩
     | succ c=>simp at hk
   · obtain ⟨m,rfl,_⟩:=DataW.trod_bool h1.und h
     refine ⟨rfl,fun c k hk=>?_⟩
     cases c with
     | zero=>cases hk; exact ⟨_,_,rfl,.bool _,.bool _⟩
     | succ c=>simp at hk
   · obtain ⟨m,rfl,rfl,_⟩:=DataW.trod_string h1.und h
     refine ⟨rfl,fun c k hk=>?_⟩
     cases c with
     | zero =>
      cases hk
      have hq:=hw m.data.toList.length (by show _∈[m.data.toList.length]; exact List.mem_singleton.2 rfl)
      have e:m.data.toList.length=m.size:=Array.length_toList
      rw [e] at hq
      exact ⟨_,_,rfl,.str _,.str _ hq⟩
     | succ c=>simp at hk
   · exact h2.elim
  | other =>
   simp only [ht] at hF ⊢
   obtain ⟨d,z,h1,_⟩:=hF
   refine ⟨?_,fun c k hk=>by cases c <;> simp at hk⟩
   have hr:=h1.row
   unfold DataW.trod at h
   rw [h1.und] at h
   split at h <;> simp_all [TypeDesc.isRow]
  | sl e agg lv =>
   simp only [ht] at hF hlv ⊢
   simp only [Bool.and_eq_true,decide_eq_true_eq] at hlv
   obtain ⟨h1,j,z,hj,hjs,hlt,hF⟩:=hF
   have hce:P.cellsOf e=lv.length:=by rw [cellsOf_eq hj,hjs]
   have hne:ti e≠.bad:=by
    intro hbad
    have:=hlv.1.1
    unfold leafOf at this
    rw [hbad] at this
    simp only at this
    have:=congrArg List.length this
    simp at this
    omega
   rcases DataW.trod_slice h1.und h with ⟨rfl,_⟩ | ⟨a,len,cap,elems,rest,m,hm,rfl,hxe,_,hlc,hcm,hel,hall,_,_⟩
   · refine ⟨rfl,fun c k hk=>?_⟩
     cases c with
     | zero=>cases hk; exact ⟨.list [],_,rfl,.sl0 _ _ _,.sl ht (by simp) (fun x hx=>by cases hx) (fun x hx=>by cases hx)⟩
     | succ c=>simp at hk
   · refine ⟨rfl,fun c k hk=>?_⟩
     cases c with
     | succ c=>simp at hk
     | zero =>
      cases hk
      obtain rfl:m=n:=by omega
      by_cases hz:len=0
      · subst hz
        exact ⟨.list [],_,rfl,.sl0 _ _ _,.sl ht (by simp) (fun x hx=>by cases hx) (fun x hx=>by cases hx)⟩
      · have hw2:elems.length≤reachBytes∧∀ (i:Nat) y,elems[i]?=some y→∀ q,q∈y.1.weights P e→q≤reachBytes:=by
         have hwx:x.1.weights P t=(elems.length+rest.length) * P.bytesOf e::(DataW.weightsAll P e (elems.map (·.1))++DataW.weightsAll P e (rest.map (·.1))):=by
          rw [hxe]
          simp only [DataW.weights,h1.und,List.length_map]
         rw [hwx] at hw
         constructor
         · have:=hw ((elems.length+rest.length) * P.bytesOf e) (List.mem_cons.2 (.inl rfl))
           have h2:(elems.length+rest.length) * 1≤(elems.length+rest.length) * P.bytesOf e:=Nat.mul_le_mul_left _ hlv.2
           omega
         · intro i y hy q hq
           refine hw q ?_
           simp only [List.mem_cons,List.mem_append]
           exact .inr (.inl (weightsAll_mem (List.mem_map.2 ⟨y,List.mem_of_getElem? hy,rfl⟩) hq))
        have hone:∀ i,i < len→∃ x,(agg=true→∃ l,x=D.agg l∧l.length=lv.length)∧∃ ci,w.cells? 0 (a.add (i * lv.length)) lv.length=some ci∧ci.length=lv.length ∧
         ∀ (c:Nat) k,lv[c]?=some k→∃ v,ci[c]?=some v∧Rd ti w (fun b=>b < w.heap.size) k (cellD agg c x) v∧WK ti k (cellD agg c x):=by
         intro i hi
         have hy:=hall i hi
         have hyl:i < elems.length:=by omega
         rw [List.getElem?_eq_getElem hyl,hce] at hy
         obtain ⟨ci,hci,hti⟩:=Option.bind_eq_some_iff.1 hy
         obtain ⟨g1,g2⟩:=ih e ci _ hti hne (hw2.2 i _ (List.getElem?_eq_getElem hyl))
         rw [hlv.1.1] at g1 g2
         have hcl:ci.length=lv.length:=by simpa using g1
         obtain ⟨l,l1,l2⟩:=exists_list (n:=lv.length) (p:=fun c d=>∀ k,lv[c]?=some k→∃ v,ci[c]?=some v∧Rd ti w (fun b=>b < w.heap.size) k d v∧WK ti k d) fun c hc=>by
          obtain ⟨d,v,e1,e2,e3⟩:=g2 c lv[c] (by simp [hc])
          exact ⟨d,fun k hk=>by
           rw [List.getElem?_eq_getElem hc] at hk
           cases hk
           exact ⟨v,e1,e2,e3⟩⟩
         cases hag:agg with
         | true =>
          refine ⟨.agg l,fun _=>⟨l,rfl,l1⟩,ci,hci,hcl,fun c k hk=>?_⟩
          exact l2 c (List.getElem?_eq_some_iff.1 hk).1 k hk
         | false =>
          refine ⟨l.getD 0 default,(by intro h; cases h),ci,hci,hcl,fun c k hk=>?_⟩
          have hl1:lv.length=1:=by
           exact hF.2.2.2.1 hag
          have hc:=(List.getElem?_eq_some_iff.1 hk).1
          have hc0:c=0:=by omega
          subst hc0
          exact l2 0 hc k hk
        obtain ⟨xs,x1,x2⟩:=exists_list (n:=len) hone
        obtain ⟨ci,hci,hcl,hck⟩:=(x2 0 (by omega)).2
        obtain ⟨_,_,hcell⟩:=World.cells?_some hci
        have h0:=hcell 0 hlt
        rw [List.getElem?_eq_getElem (by omega)] at h0
        obtain ⟨hsp,hbl⟩:=cell_spot h0
        obtain ⟨b,off,sp⟩:=a
        simp [Addr.add] at hsp hbl
        subst hsp
        have hcells:∀ j c,j < len→c < lv.length→∃ ci,w.cells? 0 ((⟨b,off,none⟩ : Addr).add (j * lv.length)) lv.length=some ci∧w.cell? ⟨b,off+(j * lv.length+c),none⟩=ci[c]?:=by
         intro j c hj hc
         obtain ⟨cj,e1,e2,_⟩:=(x2 j hj).2
         obtain ⟨_,_,e3⟩:=World.cells?_some e1
         refine ⟨cj,e1,?_⟩
         rw [←e3 c hc,addr_add,addr_add,Nat.add_assoc]
        refine ⟨.list xs,_,rfl,?_,.sl ht (by have:=hw2.1; omega) (fun x hx=>?_) (fun x hx=>?_)⟩
        · have:=Rd.sl (ti:=ti) (w:=w) (S:=fun b=>b < w.heap.size) t e agg lv xs b off cap (fun j c=>(w.cell? ⟨b,off+(j * lv.length+c),none⟩).getD undef) ht (by omega) hbl (fun j c hj hc=>?_) (fun j c k hj hk=>?_)
          · rw [x1] at this
            exact this
          · rw [x1] at hj
            obtain ⟨cj,e1,e2⟩:=hcells j c hj hc
            obtain ⟨_,e4,_⟩:=World.cells?_some e1
            show w.cell? ⟨b,off+(j * lv.length+c),none⟩=some _
            rw [e2,List.getElem?_eq_getElem (by omega)]
            rfl
          · rw [x1] at hj
            have hc:=(List.getElem?_eq_some_iff.1 hk).1
            obtain ⟨cj,e1,e2,e3⟩:=(x2 j hj).2
            obtain ⟨v,e4,e5,e6⟩:=e3 c k hk
            obtain ⟨cj',e7,e8⟩:=hcells j c hj hc
            rw [e1] at e7
            cases e7
            show Rd ti w (fun b=>b < w.heap.size) k _ ((w.cell? ⟨b,off+(j * lv.length+c),none⟩).getD undef)
            rw [e8,e4]
            exact e5
        · obtain ⟨i,hi⟩:=List.mem_iff_getElem?.1 hx
          have hil:=(List.getElem?_eq_some_iff.1 hi).1
          have:=(x2 i (by omega)).1
          rw [List.getD_eq_getElem?_getD,hi] at this
          exact this
        · obtain ⟨i,hi⟩:=List.mem_iff_getElem?.1 hx
          have hil:=(List.getElem?_eq_some_iff.1 hi).1
          obtain ⟨cj,e1,e2,e3⟩:=(x2 i (by omega)).2
          rw [List.getD_eq_getElem?_getD,hi] at e3
          intro c k hk
          obtain ⟨v,_,_,e6⟩:=e3 c k hk
          exact e6
  | ag st lv fs =>
   simp only [ht] at hF hlv ⊢
   simp only [Bool.and_eq_true,decide_eq_true_eq] at hlv
   obtain ⟨i,z,d,hu,hrow,hi,hsz,_,_,_⟩:=hF
   have hct:P.cellsOf t=lv.length:=by rw [cellsOf_eq hi,hsz]
   have key:∀ (c:Nat) k,lv[c]?=some (some k)→∃ (i:Nat) (p:Nat × List (Option K)) (c' : Nat),(partsOf P ti t)[i]?=some p∧p.2[c']?=some (some k)∧p.1+c'=c:=by
    intro c k hk
    have hk' : ((partsOf P ti t).flatMap (·.2))[c]?=some (some k):=by rw [←hlv.1]; exact hk
    obtain ⟨i,p,c',h1,h2,h3⟩:=offB_get hlv.2 hk'
    exact ⟨i,p,c',h1,h2,by omega⟩
   cases d with
   | struct fields =>
    obtain ⟨xs,m,hm,hxe,hl,hxl,hall⟩:=DataW.trod_struct hu h
    have hwx:x.1.weights P t=DataW.weightsEach P (fields.toList.map (·.type)) (xs.map (·.1)):=by
     rw [hxe]
     simp only [DataW.weights,hu]
    rw [hwx] at hw
    obtain rfl:m=n:=by omega
    refine ⟨by rw [hl,hct],fun c k hk=>?_⟩
    obtain ⟨q,p,c',g1,g2,g3⟩:=key c k hk
    unfold partsOf at g1
    rw [hu] at g1
    simp only [List.getElem?_map] at g1
    obtain ⟨f,hf,rfl⟩:=Option.map_eq_some_iff.1 g1
    have hf' : fields[q]?=some f:=by simpa using hf
    have hq:=hall q f hf'
    have hql:q < xs.length:=by rw [hxl]; exact (Array.getElem?_eq_some_iff.1 hf').1
    rw [List.getElem?_eq_getElem hql] at hq
    obtain ⟨e1,e2⟩:=ih f.type _ _ hq (by
     intro hbad
     simp only [leafOf,hbad] at g2
     simp at g2) (fun z hz=>hw z (DataW.weights_mem_each (j:=q) (t:=f.type) (d:=xs[q].1) (by simp [hf']) (by simp [hql]) z hz))
    obtain ⟨dd,v,e3,e4,e5⟩:=e2 c' k g2
    refine ⟨dd,v,?_,e4,e5⟩
    rw [List.getElem?_take] at e3
    split at e3
    · rw [List.getElem?_drop] at e3
      simp only at g3
      rw [←g3]
      exact e3
    · cases e3
   | array len e =>
    obtain ⟨xs,m,hm,hxe,hl,hxl,hall⟩:=DataW.trod_array hu h
    have hwx:x.1.weights P t=DataW.weightsAll P e (xs.map (·.1)):=by
     rw [hxe]
     simp only [DataW.weights,hu]
    rw [hwx] at hw
    obtain rfl:m=n:=by omega
    refine ⟨by rw [hl,hct],fun c k hk=>?_⟩
    obtain ⟨q,p,c',g1,g2,g3⟩:=key c k hk
    unfold partsOf at g1
    rw [hu] at g1
    simp only [List.getElem?_map] at g1
    obtain ⟨q',hf,rfl⟩:=Option.map_eq_some_iff.1 g1
    obtain ⟨hql,rfl⟩ : q < len∧q'=q:=by
     have:=List.getElem?_eq_some_iff.1 hf
     obtain ⟨h1,h2⟩:=this
     simp at h1 h2
     exact ⟨h1,h2.symm⟩
    have hq:=hall q' hql
    rw [List.getElem?_eq_getElem (by omega)] at hq
    obtain ⟨e1,e2⟩:=ih e _ _ hq (by
     intro hbad
     simp only [leafOf,hbad] at g2
     simp at g2) (fun z hz=>hw z (weightsAll_mem (List.mem_map.2 ⟨_,List.getElem_mem _,rfl⟩) hz))
    obtain ⟨dd,v,e3,e4,e5⟩:=e2 c' k g2
    refine ⟨dd,v,?_,e4,e5⟩
    rw [List.getElem?_take] at e3
    split at e3
    · rw [List.getElem?_drop] at e3
      simp only at g3
      rw [←g3]
      exact e3
    · cases e3
   | _=>cases hrow
/-! ### Arguments -/
def cellsFrom:List K→Nat→List SV1
 | [],_=>[]
 | k::r,n=>.e k (.v n)::cellsFrom r (n+1)
def kindsOf (ti:TypeId→TI) (t:TypeId):List K:=(leafOf ti t).filterMap id
def slotOf (ti:TypeId→TI) (t:TypeId) (n:Nat):Slot:=if (ti t).isAgg then .v (.ag (cellsFrom (kindsOf ti t) n)) else .v (.c ((cellsFrom (kindsOf ti t) n).headD .u))
def slotsOf (ti:TypeId→TI):List TypeId→Nat→List Slot
 | [],_=>[]
 | t::r,n=>slotOf ti t n::slotsOf ti r (n+(kindsOf ti t).length)
def plainB (ti:TypeId→TI) (t:TypeId):Bool:=(leafOf ti t).all Option.isSome&&!(leafOf ti t).isEmpty
theorem kinds_of_plain {l:List (Option K)} (h:l.all Option.isSome=true):l=(l.filterMap id).map some:=by
 induction l with
 | nil=>rfl
 | cons a l ih =>
  simp only [List.all_cons,Bool.and_eq_true] at h
  obtain ⟨k,rfl⟩:=Option.isSome_iff_exists.1 h.1
  simp only [List.filterMap_cons,id,List.map_cons]
  rw [←ih h.2]
theorem cellsFrom_len:∀ (l:List K) (n:Nat),(cellsFrom l n).length=l.length
 | [],n=>rfl
 | k::r,n=>by simp [cellsFrom,cellsFrom_len r]
theorem cellsFrom_get:∀ (l:List K) (n i:Nat) (a:SV1),(cellsFrom l n)[i]?=some a→∃ k,l[i]?=some k∧a=.e k (.v (n+i))
 | [],n,i,a,h=>by simp [cellsFrom] at h
 | k::r,n,0,a,h=>by simp [cellsFrom] at h; exact ⟨k,rfl,h.symm⟩
 | k::r,n,i+1,a,h=>by
  simp only [cellsFrom,List.getElem?_cons_succ] at h
  obtain ⟨k',h1,h2⟩:=cellsFrom_get r (n+1) i a h
  exact ⟨k',by simpa using h1,by rw [h2]; congr 2; omega⟩
theorem open_one (hT:TyOK P ti) (hL:∀ t,lvB P ti t=true) {t:TypeId} (hp:plainB ti t=true) {v:Value} {d:DataW H} {ps:List MemPlace} {r:Reach} {base:Nat} (hv:Value.okWide P w r base t v) (h:DataW.Trod enc P w 0 (fun _=>true) true t v d ps) (hw:∀ q,q∈d.weights P t→q≤reachBytes) :
 ∃ xs:List D,All2 (WK ti) (kindsOf ti t) xs∧∀ (pre post:List D),SlotR ti w (fun b=>b < w.heap.size) (fun _=>none) (pre++xs++post) (slotOf ti t pre.length) v:=by
 simp only [plainB,Bool.and_eq_true,Bool.not_eq_true'] at hp
 have hkk:=kinds_of_plain hp.1
 have hb:ti t≠.bad:=by
  intro hbad
  have:=hp.2
  simp [leafOf,hbad] at this
 obtain ⟨fuel,hf⟩:=h
 obtain ⟨h1,h2⟩:=open_leaves hT hL fuel t _ _ hf hb hw
 have hlen:(leafOf ti t).length=(kindsOf ti t).length:=by
  have:=congrArg List.length hkk
  rw [List.length_map] at this
  exact this
 obtain ⟨xs,x1,x2⟩:=exists_list (n:=(kindsOf ti t).length) (p:=fun c d=>∀ k,(kindsOf ti t)[c]?=some k→∃ u,v.cells.toList[c]?=some u∧Rd ti w (fun b=>b < w.heap.size) k d u∧WK ti k d) fun c hc=>by
  obtain ⟨d,u,e1,e2,e3⟩:=h2 c (kindsOf ti t)[c] (by rw [hkk]; simp [kindsOf])
  exact ⟨d,fun k hk=>by rw [List.getElem?_eq_getElem hc] at hk; cases hk; exact ⟨u,e1,e2,e3⟩⟩
 have hall:All2 (WK ti) (kindsOf ti t) xs:=All2.of_get x1.symm fun i k d hk hd=>by
  obtain ⟨u,_,_,e3⟩:=x2 i (List.getElem?_eq_some_iff.1 hk).1 k hk
  rw [List.getD_eq_getElem?_getD,hd] at e3
  exact e3
 refine ⟨xs,hall,fun pre post=>?_⟩
 have hcells:All2 (SR ti w (fun b=>b < w.heap.size) (fun _=>none) (pre++xs++post)) (cellsFrom (kindsOf ti t) pre.length) v.cells.toList:=by
  refine All2.of_get (by rw [cellsFrom_len,h1,hlen]) fun i a u ha hu=>?_
  obtain ⟨k,g1,rfl⟩:=cellsFrom_get _ _ _ _ ha
  have hi:=(List.getElem?_eq_some_iff.1 g1).1
  obtain ⟨u',e1,e2,_⟩:=x2 i hi k g1
  rw [hu] at e1
  cases e1
  show Rd ti w _ k ((pre++xs++post).getD (pre.length+i) default) u
  rw [List.append_assoc,List.getD_eq_getElem?_getD,List.getElem?_append_right (by omega),Nat.add_sub_cancel_left,List.getElem?_append_left (by omega),←List.getD_eq_getElem?_getD]
  exact e2
 unfold slotOf
 obtain ⟨d',i',hu,hrow,_,_⟩:=(hT t).common hb
 split
 · rename_i hag
   rw [hag] at hrow
   unfold Value.okWide at hv
   rw [hu] at hv
   cases d' <;> simp [TypeDesc.isRow] at hrow <;> simp only at hv <;> obtain ⟨cs,rfl,_⟩:=hv <;> exact ⟨cs.toList,by simp,hcells⟩
 · rename_i hag
   have hone:(leafOf ti t).length=1:=by
    unfold leafOf
    cases hti:ti t with
    | ag st lv fs=>rw [hti] at hag; exact absurd rfl hag
    | bad=>exact absurd hti hb
    | _=>rfl
   cases hk:kindsOf ti t with
   | nil=>rw [hk,hone] at hlen; cases hlen
   | cons k r =>
    have hr:r=[]:=by
     rw [hk,hone,List.length_cons] at hlen
     exact List.eq_nil_of_length_eq_zero (by omega)
    subst hr
    rw [hk] at hcells
    simp only [cellsFrom,List.headD_cons] at hcells ⊢
    have hv1:v.cells.toList=[v]:=by
     cases v with
     | agg cs =>
      unfold Value.okWide at hv
      rw [hu] at hv
      have:d'.isRow=false:=by rw [hrow]; simpa using hag
      cases d' <;> simp [TypeDesc.isRow] at this <;> (simp only [Cell.okWide,Cell.ok,hu] at hv)
     | _=>rfl
    rw [hv1] at hcells
    cases hcells with
    | cons h _=>exact h
theorem open_all (hT:TyOK P ti) (hL:∀ t,lvB P ti t=true) {r:Reach} {base:Nat}:∀ {ts:List TypeId} {vs:List Value} {ds:List (DataW H)} {ps:List MemPlace} (pre:List D),(ts.all (plainB ti))=true→(∀ (j:Nat) t v,ts[j]?=some t→vs[j]?=some v→Value.okWide P w r base t v) →
 DataW.TrodAll enc P w 0 (fun _=>true) true ts vs ds ps→(∀ q,q∈DataW.weightsEach P ts ds→q≤reachBytes)→∃ xs:List D,All2 (WK ti) (ts.flatMap (kindsOf ti)) xs∧∀ post,All2 (SlotR ti w (fun b=>b < w.heap.size) (fun _=>none) (pre++xs++post)) (slotsOf ti ts pre.length) vs
 | [],vs,ds,ps,pre,hp,hv,h,hw=>by
  obtain ⟨rfl,_,_⟩:=ChangeShapes.trodAll_nil h
  exact ⟨[],.nil,fun post=>.nil⟩
 | t::ts,vs,ds,ps,pre,hp,hv,h,hw=>by
  simp only [List.all_cons,Bool.and_eq_true] at hp
  obtain ⟨v,vs',d,ds',p,q,rfl,rfl,rfl,h1,h2⟩:=ChangeShapes.trodAll_cons h
  simp only [DataW.weightsEach,List.mem_append] at hw
  obtain ⟨xs,g1,g2⟩:=open_one hT hL hp.1 (hv 0 t v rfl rfl) h1 (fun q hq=>hw q (.inl hq))
  obtain ⟨ys,k1,k2⟩:=open_all hT hL (pre++xs) hp.2 (fun j t' v' ht hv'=>hv (j+1) t' v' (by simpa using ht) (by simpa using hv')) h2 (fun q hq=>hw q (.inr hq))
  refine ⟨xs++ys,by simpa using g1.app k1,fun post=>?_⟩
  have hl:(pre++xs).length=pre.length+(kindsOf ti t).length:=by rw [List.length_append,g1.length]
  have e1:=g2 pre (ys++post)
  have e2:=k2 post
  rw [hl] at e2
  have e3:pre++(xs++ys)++post=pre++xs++(ys++post):=by simp
  have e4:pre++xs++ys++post=pre++xs++(ys++post):=by simp
  rw [e3]
  rw [e4] at e2
  exact .cons e1 e2
/-! ### A law's call -/
theorem law_calls {s : Sig} {fn : Func} {R : List D → List D → Prop} (hS : SigOK P ti s R) (hf : P.funcs[s.f]? = some fn) (hname : (fn.name == "runtime.NumGoroutine") = false) (hb : fn.body.isSome = true)
 (hin:s.inO=[]) (hout:s.outO=[]) (hos:s.outS=[.c (.e .bool (.v 0))]) {ν:List D} (hR:R ν [.bool true]) (hn:ν.length=s.nIn) {vs:List Value} (hv:All2 (SlotR ti w (fun b=>b < w.heap.size) (fun _=>none) ν) s.inS vs) :
 Calls P s.f vs.toArray w fun e w'=>e=.returned (.bool true)∧Below w.heap.size w w':=by
 have hE:Entry ti s ν vs w (fun b=>b < w.heap.size) (fun _=>False) (fun _=>none):={
  len:=hn
  vals:=hv
  dom:=fun o v h=>by cases h
  objs:=fun o x h=>by rw [hin] at h; simp at h
  sep:=fun o o' x x' b h=>by rw [hin] at h; simp at h
  own:=fun o x b h=>by rw [hin] at h; simp at h
  stab:=fun b hb=>hb }
 obtain ⟨nx,w1,hrun,hk⟩:=hS ν [.bool true] vs w _ _ _ hR hE
 obtain ⟨c,hc⟩:=Option.isSome_iff_exists.1 hb
 rw [run_enter hf hname hc] at hrun
 cases hrun
 refine Calls.mono hk fun e w' he=>?_
 cases e with
 | returned v =>
  obtain ⟨S',ω',hO⟩:=he
  have hr:=hO.vals
  rw [hos] at hr
  have hr' : Rd ti w' S' .bool (.bool true) v:=hr
  obtain ⟨_,rfl⟩:=Rd.bool_inv hr'
  exact ⟨rfl,{ os:=hO.frame.os,tape:=hO.frame.tape,output:=hO.frame.output,size:=hO.frame.size,block:=fun k hk=>hO.frame.block k hk fun h=>h }⟩
 | panicked _=>exact he.elim
 | outgrown=>exact he.elim
theorem trodAll_stays (hl:laidOutB P=true) {w' : World} (hb:Below w.heap.size w w'):∀ {ts:List TypeId} {vs:List Value} {ds:List (DataW H)} {ps:List MemPlace},(ts.all fun t=>P.readableRec t&&decide (t < P.types.size))=true →
 DataW.TrodAll enc P w 0 (fun _=>true) true ts vs ds ps→DataW.TrodAll enc P w' 0 (fun b=>decide (b < w.heap.size)) true ts vs ds ps
 | [],vs,ds,ps,hp,h=>by
  obtain ⟨rfl,rfl,rfl⟩:=ChangeShapes.trodAll_nil h
  exact ChangeShapes.trodAll_mk0
 | t::ts,vs,ds,ps,hp,h=>by
  simp only [List.all_cons,Bool.and_eq_true,decide_eq_true_eq] at hp
  obtain ⟨v,vs',d,ds',p,q,rfl,rfl,rfl,h1,h2⟩:=ChangeShapes.trodAll_cons h
  have hlt:∀ x∈p,x.block < w.heap.size:=by obtain ⟨m,hm⟩:=h1; exact DataW.trod_lt m _ _ _ hm
  exact trodAll_cons_mk (Below.trod hl hp.1.1 hp.1.2 h1 hb hlt) (trodAll_stays hl hb hp.2 h2)
end
end Go.SX
