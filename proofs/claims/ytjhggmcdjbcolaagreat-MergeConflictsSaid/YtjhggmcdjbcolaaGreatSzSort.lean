/-
slices.SortFunc over a row of the call's own, as an answer: the row holds what the library's sort makes of its elements.
-/
import Derived.Test.YtjhggmcdjbcolaaGreatSzCall
import Derived.Shelf.SlSortCmp.NoneTotal
import Derived.Test.YtjhggmcdjbcolaaGreatSzLay57
import Derived.Test.YtjhggmcdjbcolaaGreatSzCmp57
import Derived.Test.YtjhggmcdjbcolaaGreatSzPrim57
import Derived.Test.YtjhggmcdjbcolaaGreatSzT57
set_option linter.unusedVariables false
set_option linter.unusedSimpArgs false
set_option linter.unusedSectionVars false
namespace Go.SX
open Go.RowKit Go.Proofs Go.Shelf Go.Sort
def sortSig (f t g:Nat) (fl:Bool):Sig:={ f:=f,inS:=[.v (.c (.own 0)),.v (.c (.fn g []))],inO:=[.row t (.v 0)],nIn:=1,outS:=[],outO:=[.row t (.v 0)],nOut:=1,flat:=fl }
section
variable {P:Program} {ρ:Ren} {α:Type} [Inhabited α]
theorem cellsOf (enc:α→List Value) (k:Nat) (hk:∀ x,(enc x).length=k) (d:Array α) (j c:Nat) (hj:j < d.size) (hc:c < k):(flatK enc k d)[j * k+c]! = (enc d[j]!).getD c undef:=by
 have h1:(j+1) * k≤d.size * k:=Nat.mul_le_mul_right k hj
 rw [Nat.add_mul,Nat.one_mul] at h1
 rw [get_flatK _ _ _ _ (by omega)]
 have h2:(j * k+c) / k=j:=(blk_iff k j _ (by omega)).1 ⟨by omega,by omega⟩
 have h3:(j * k+c) % k=c:=by rw [Nat.mod_eq_sub_div_mul,h2]; omega
 rw [h2,h3,List.getElem!_eq_getElem?_getD,List.getD_eq_getElem?_getD,List.getElem?_eq_getElem (by rw [hk]; exact hc)]
 rfl
theorem divmod_lt {k n t:Nat} (h:t < n * k):t / k < n∧t % k < k∧t=t / k * k+t % k:=by
 have hk:0 < k:=by
  rcases Nat.eq_zero_or_pos k with h0 | h0
  · subst h0; simp at h
  · exact h0
 refine ⟨(Nat.div_lt_iff_lt_mul hk).2 h,Nat.mod_lt _ hk,?_⟩
 rw [Nat.mul_comm]
 exact (Nat.div_add_mod t k).symm
theorem ownsRow_unique {w:World} {e:TypeId} {k n:Nat} {v:Value} {us us' : List Value} (h:w.ownsRow 0 e k v n us) (h' : w.ownsRow 0 e k v n us'):us=us':=by
 rcases h.2 with ⟨hv,hn⟩ | ⟨g,cap,cur,hv,_,hg,_,_,_,ht⟩
 · have h1:=h.1
   have h2:=h'.1
   rw [hn,Nat.zero_mul] at h1 h2
   rw [List.length_eq_zero_iff.1 h1,List.length_eq_zero_iff.1 h2]
 · rcases h'.2 with ⟨hv',hn'⟩ | ⟨g',cap',cur',hv',_,hg',_,_,_,ht'⟩
   · rw [hv] at hv'; cases hv'
   · rw [hv] at hv'
     cases hv'
     rw [hg] at hg'
     cases hg'
     rw [←ht,←ht']
theorem sort_goes {fl:Bool} (L:SlLaysF0.n6 P ρ) {ti:TypeId→TI} {t e:TypeId} {lv:List K} (hti:ti t=.sl e true lv)
 (aE:∀ w,(isAgg (ρ.t 24)).run P w=.ok true w) (zE:∀ w,(Go.sizeOf (ρ.t 24)).run P w=.ok lv.length w)
 (enc:α→List Value) (hk:∀ x,(enc x).length=lv.length) (h1:∀ x,∀ v∈enc x,v.oneCell'=true) (toD:α→D)
 (cf:α→α→Int) (hO:SWO (ltOf cf)) (g:Nat) (eg:∀ args w,(callFunc g args).run P w=.ok (.enter g args) w)
 (hc:∀ x y W,Calls P g #[.agg (enc x).toArray,.agg (enc y).toArray] W fun e w'=>e=.returned (.int .i64 (cf x y))∧∃ q os',w'=grow (W.drewN q) os')
 (eF:∀ args w,(callFunc (ρ.f 6) args).run P w=.ok (.enter (ρ.f 6) args) w)
 {xs:List α} (hlen:xs.length < 4611686018427387904) {vs:List Value} {w:World} {S F:Nat→Prop} {ω:Nat→Option Value}
 (hE:Entry ti (sortSig (ρ.f 6) t g fl) [.list (xs.map toD)] vs w S F ω)
 (hR:∀ x,x∈xs→∀ c k,lv[c]?=some k→Rd ti w S k (cellD true c (toD x)) ((enc x).getD c undef))
 (hV:∀ v us,ω 0=some v→w.ownsRow 0 e lv.length v (xs.map toD).length us→∀ j c,j < xs.length→c < lv.length→us.getD (j * lv.length+c) undef=(enc (xs.getD j default)).getD c undef) :
 Goes P (ρ.f 6) vs.toArray w fun v w'=>∃ S' ω',Out ti (sortSig (ρ.f 6) t g fl) [.list ((pdq (ltOf cf) xs.toArray 0 xs.length (Lib.bitLen xs.length) true true).toList.map toD)] w S F ω v w' S' ω':=by
 have hv:=hE.vals
 obtain ⟨v0,v1,rfl,⟨hω,a,n,cap,hv0⟩,cv,hv1,hcv⟩ : ∃ v0 v1,vs=[v0,v1]∧(ω 0=some v0∧∃ a n cap,v0=.slice a n cap)∧∃ cv:List Value,v1=.func (.func g) #[] cv.toArray∧All2 (CapR ti w S ω [.list (xs.map toD)]) [] cv:=by
  cases hv with
  | cons h1 hv=>cases hv with
   | cons h2 hv=>cases hv with
    | nil=>exact ⟨_,_,rfl,h1,h2⟩
 obtain rfl:cv=[]:=by cases hcv; rfl
 subst hv1
 obtain ⟨v,e',agg',lv',ds,us,hω',hti',hden,hown,hcells⟩:=hE.objs 0 _ rfl
 rw [hω] at hω'
 obtain rfl:=Option.some.inj hω'
 rw [hti] at hti'
 cases hti'
 have hds:ds=xs.map toD:=by
  have:(D.list (xs.map toD))=.list ds:=hden
  exact (D.list.inj this).symm
 subst hds
 have hcells':=hV v0 us hω hown
 obtain ⟨hl,hcase⟩:=hown
 rw [List.length_map] at hl
 have stays:∀ w',w'=w→Out ti (sortSig (ρ.f 6) t g fl) [.list (xs.map toD)] w S F ω (.tuple #[]) w' S ω:=by
  rintro _ rfl
  exact {
   frame:=Fr.refl _ F
   smono:=fun _ h=>h
   sbd:=fun _ h=>.inl h
   stab:=hE.stab
   omono:=fun _ _ h=>h
   dom:=hE.dom
   vals:=⟨[],rfl,.nil⟩
   objs:=hE.objs
   sep:=hE.sep
   own:=fun o ob b h1 h2 h3=>let ⟨x,y,z⟩:=hE.own o ob b h1 h2 h3; ⟨x,y,.inr z⟩ }
 rcases hcase with ⟨rfl,hn⟩ | ⟨gb,cap',cur,rfl,hb,hblk,hncap,hmax,hsz,htake⟩
 · rw [List.length_map] at hn
   have h0:=AnyF.slices_SortFunc_none (P:=P) (ρ:=ρ) L none 0 (.func (.func g) #[] #[]) w
   refine ⟨_,_,eF _ _,?_⟩
   refine h0.mono ?_
   rintro _ w' ⟨rfl,rfl⟩
   obtain rfl:xs=[]:=List.length_eq_zero_iff.1 hn
   refine ⟨S,ω,?_⟩
   have:(pdq (ltOf cf) ([]:List α).toArray 0 ([]:List α).length (Lib.bitLen ([]:List α).length) true true).toList.map toD=([]:List α).map toD:=by
    have:=(pdq_sorts (ltOf cf) hO ([]:List α).toArray 0 0 (Lib.bitLen 0) true true (Nat.zero_le _) (Nat.le_refl _) (Or.inl rfl)).1.1
    have h2:(pdq (ltOf cf) ([]:List α).toArray 0 0 (Lib.bitLen 0) true true)=#[]:=Array.size_eq_zero_iff.1 this
    show (pdq (ltOf cf) ([]:List α).toArray 0 0 (Lib.bitLen 0) true true).toList.map toD=_
    rw [h2]
   rw [this]
   exact stays _ rfl
 · rw [List.length_map] at hncap htake ⊢
   have hF:=hE.own 0 _ gb rfl rfl (by rw [hω]; rfl)
   obtain ⟨hnS,hlt,hFg⟩:=hF
   have hsz' : xs.length * lv.length≤cur.size:=by rw [hsz]; exact Nat.mul_le_mul_right _ hncap
   have hcur:∀ j,j < xs.length * lv.length→cur[j]?=some ((flatK enc lv.length xs.toArray)[j]!):=by
    intro j hj
    obtain ⟨d1,d2,d3⟩:=divmod_lt hj
    have hu:us[j]?=cur[j]?:=by
     rw [←htake,List.getElem?_take_of_lt hj]
     simp
    have hg:=hcells' (j / lv.length) (j % lv.length) d1 d2
    rw [←d3] at hg
    have hf:=cellsOf enc lv.length hk xs.toArray (j / lv.length) (j % lv.length) (by simpa using d1) d2
    rw [←d3] at hf
    have hx:xs.toArray[j / lv.length]! = xs.getD (j / lv.length) default:=by
     rw [List.getElem!_toArray,List.getElem!_eq_getElem?_getD,List.getD_eq_getElem?_getD]
    rw [hx,←hg] at hf
    rw [hf,←hu,List.getD_eq_getElem?_getD,List.getElem?_eq_getElem (by rw [hl]; exact hj)]
    rfl
   have hH:HoldsK enc lv.length w gb 0 xs.toArray:=by
    intro j hj
    rw [size_flatK,List.size_toArray] at hj
    rw [Nat.zero_add]
    refine ⟨?_,by simp [World.frozen?,hblk]⟩
    show (match w.heap[gb]? with | some (.cells c _ _)=>if (none:Option _).isSome then none else c[j]? | _=>none)=_
    rw [hblk]
    exact hcur j hj
   have key:=AnyQ.slices_SortFunc_eq L lv.length aE zE enc hk h1 cf hO g #[] gb 0 cap' xs.toArray w eg (fun m os dk _ x y=>hc x y _) hH hlt (by simpa using hlen)
   rw [List.size_toArray] at key
   refine ⟨_,_,eF _ _,?_⟩
   refine key.mono ?_
   rintro _ w' ⟨rfl,n,os,rfl⟩
   have hsorts:=pdq_sorts (ltOf cf) hO xs.toArray 0 xs.length (Lib.bitLen xs.length) true true (Nat.zero_le _) (by simp) (Or.inl rfl)
   generalize hd' : pdq (ltOf cf) xs.toArray 0 xs.length (Lib.bitLen xs.length) true true=d' at hsorts
   obtain ⟨⟨hsd,_,hperm⟩,_⟩:=hsorts
   have hsd' : d'.size=xs.length:=by rw [hsd]; simp
   have hdl:d'.toList.length=xs.length:=by simpa using hsd'
   have hmem:∀ x,x∈d'.toList→x∈xs:=by
    intro x hx
    have e1:d'.extract 0 xs.length=d':=by rw [←hsd']; exact Array.extract_size
    have e2:xs.toArray.extract 0 xs.length=xs.toArray:=by
     have:=Array.extract_size (xs:=xs.toArray)
     rwa [List.size_toArray] at this
    rw [e1,e2] at hperm
    exact hperm.mem_iff.1 hx
   have hhs:(sortWorldK enc lv.length w gb 0 n d' os).heap.size=w.heap.size+os.size:=by
    show ((putRow id (Sort.ahead w n) gb 0 (flatK enc lv.length d')).heap++os).size=_
    rw [Array.size_append,Sort.size_putRow]
    rfl
   have hother:∀ b,b < w.heap.size→b≠gb→(sortWorldK enc lv.length w gb 0 n d' os).heap[b]?=w.heap[b]?:=by
    intro b hb hne
    show (((w.heap).modify gb _)++os)[b]?=_
    rw [Array.getElem?_append_left (by simpa using hb),Array.getElem?_modify,if_neg (fun h=>hne h.symm)]
   have hnew:(sortWorldK enc lv.length w gb 0 n d' os).heap[gb]?=some (.cells (putCells id 0 (flatK enc lv.length d') cur) e (0,0)):=by
    show (((w.heap).modify gb _)++os)[gb]?=_
    rw [Array.getElem?_append_left (by simpa using hlt),Array.getElem?_modify,if_pos rfl,hblk]
    rfl
   have hcur' : ∀ j,j < xs.length * lv.length→(putCells id 0 (flatK enc lv.length d') cur)[j]?=some ((flatK enc lv.length d')[j]!):=by
    intro j hj
    unfold putCells
    rw [Array.getElem?_mapIdx,Array.getElem?_eq_getElem (by omega)]
    simp [hsd',hj]
   have hSb:∀ b,S b→(sortWorldK enc lv.length w gb 0 n d' os).heap[b]?=w.heap[b]?:=fun b hb=>hother b (hE.stab b hb) (fun h=>hnS (h ▸ hb))
   refine ⟨S,ω,?_⟩
   exact {
    frame:=⟨rfl,rfl,rfl,by rw [hhs]; omega,fun b hb hFb=>hother b hb (fun h=>hFb (h ▸ hFg))⟩
    smono:=fun _ h=>h
    sbd:=fun _ h=>.inl h
    stab:=fun b hb=>by rw [hhs]; have:=hE.stab b hb; omega
    omono:=fun _ _ h=>h
    dom:=hE.dom
    vals:=⟨[],rfl,.nil⟩
    objs:=fun o ob ho=>by
     have ho0:o=0∧ob=.row t (.v 0):=by
      cases o with
      | zero=>exact ⟨rfl,(Option.some.inj ho).symm⟩
      | succ o=>cases ho
     obtain ⟨rfl,rfl⟩:=ho0
     refine ⟨_,e,true,lv,d'.toList.map toD,(putCells id 0 (flatK enc lv.length d') cur).toList.take (xs.length * lv.length),hω,hti,rfl,⟨?_,.inr ⟨gb,cap',putCells id 0 (flatK enc lv.length d') cur,?_,hb,hnew,?_,hmax,?_,?_⟩⟩,?_⟩
     · have hpl:(putCells id 0 (flatK enc lv.length d') cur).toList.length=cur.size:=by simp [putCells]
       rw [List.length_take,hpl,List.length_map,hdl]
       omega
     · simp only [List.length_map,hdl]
     · simp only [List.length_map,hdl]; exact hncap
     · unfold putCells
       rw [Array.size_mapIdx]
       exact hsz
     · simp only [List.length_map,hdl]
     · intro j c k hj hkc
       rw [List.length_map,hdl] at hj
       have hcl:c < lv.length:=(List.getElem?_eq_some_iff.1 hkc).1
       have hjx:j < xs.length:=hj
       have hjd:j < d'.size:=by omega
       have hlt2:j * lv.length+c < xs.length * lv.length:=by
        have:(j+1) * lv.length≤xs.length * lv.length:=Nat.mul_le_mul_right _ hjx
        rw [Nat.add_mul,Nat.one_mul] at this
        omega
       have hval:((putCells id 0 (flatK enc lv.length d') cur).toList.take (xs.length * lv.length)).getD (j * lv.length+c) undef=(enc d'[j]!).getD c undef:=by
        rw [List.getD_eq_getElem?_getD,List.getElem?_take_of_lt hlt2,Array.getElem?_toList,hcur' _ hlt2,cellsOf enc lv.length hk d' j c hjd hcl]
        rfl
       have hdj:(d'.toList.map toD).getD j default=toD d'[j]!:=by
        rw [List.getD_eq_getElem?_getD,List.getElem?_map,Array.getElem?_toList,Array.getElem?_eq_getElem hjd,getElem!_pos d' j hjd]
        rfl
       rw [hval,hdj]
       refine (hR d'[j]! (hmem _ ?_) c k hkc).mono hSb fun _ h=>h
       rw [getElem!_pos d' j hjd]
       exact Array.getElem_mem_toList hjd
    sep:=hE.sep
    own:=fun o ob b h1 h2 h3=>let ⟨x,y,z⟩:=hE.own o ob b h1 h2 h3; ⟨x,by rw [hhs]; omega,.inr z⟩ }
end
end Go.SX
namespace Go.SX.T57
open Go.SX Go.RowKit Go.Proofs Go.Shelf Go.Sort
def fix1 (v:Value):Value:=if v.oneCell'=true then v else .bool false
theorem fix1_one (v:Value):(fix1 v).oneCell'=true:=by
 unfold fix1
 split
 · assumption
 · rfl
theorem fix1_eq {v:Value} (h:v.oneCell'=true):fix1 v=v:=if_pos h
abbrev El:=D × List Value
def encE (k:Nat) (x:El):List Value:=.int .i64 (idOf x.1)::(List.range k).map fun c=>fix1 (x.2.getD c undef)
def cfE (x y:El):Int:=cmpI (idOf x.1) (idOf y.1)
theorem ltOf_cfE (x y:El):ltOf cfE x y=decide (idOf x.1 < idOf y.1):=by
 unfold ltOf cfE cmpI
 rw [Bool.eq_iff_iff]
 simp only [decide_eq_true_eq]
 split
 · simp_all
 · split <;> omega
theorem swoE:SWO (ltOf cfE) where
 irrefl x:=by rw [ltOf_cfE]; simp
 trans x y z h1 h2:=by rw [ltOf_cfE] at *; simp at *; omega
 ntrans x y z h1 h2:=by rw [ltOf_cfE] at *; simp at *; omega
theorem encE_len (k:Nat) (x:El):(encE k x).length=k+1:=by simp [encE]
theorem encE_one (k:Nat) (x:El):∀ v∈encE k x,v.oneCell'=true:=by
 intro v hv
 rcases List.mem_cons.1 hv with rfl | hv
 · rfl
 · obtain ⟨c,_,rfl⟩:=List.mem_map.1 hv
   exact fix1_one _
theorem enc2 (x:El):(encE 2 x).toArray=#[.int .i64 (idOf x.1),fix1 (x.2.getD 0 undef),fix1 (x.2.getD 1 undef)]:=rfl
theorem enc3 (x:El):(encE 3 x).toArray=#[.int .i64 (idOf x.1),fix1 (x.2.getD 0 undef),fix1 (x.2.getD 1 undef),fix1 (x.2.getD 2 undef)]:=rfl
theorem closure204 (x y:El) (W:World):Calls Tryz.prog 204 #[.agg (encE 2 x).toArray,.agg (encE 2 y).toArray] W fun e w'=>e=.returned (.int .i64 (cfE x y))∧∃ q os',w'=grow (W.drewN q) os':=by
 rw [enc2,enc2]
 exact walk204 _ _ _ _ _ _ (fix1_one _) (fix1_one _) (fix1_one _) (fix1_one _) W
theorem closure206 (x y:El) (W:World):Calls Tryz.prog 206 #[.agg (encE 3 x).toArray,.agg (encE 3 y).toArray] W fun e w'=>e=.returned (.int .i64 (cfE x y))∧∃ q os',w'=grow (W.drewN q) os':=by
 rw [enc3,enc3]
 exact walk206 _ _ _ _ _ _ _ _ (fix1_one _) (fix1_one _) (fix1_one _) (fix1_one _) (fix1_one _) (fix1_one _) W
theorem eg204 (args:Array Value) (w:World):(callFunc 204 args).run Tryz.prog w=.ok (.enter 204 args) w:=enters_of Tryz.func204 (by kernel_rfl) rfl args w
theorem eg206 (args:Array Value) (w:World):(callFunc 206 args).run Tryz.prog w=.ok (.enter 206 args) w:=enters_of Tryz.func206 (by kernel_rfl) rfl args w
theorem eg128 (args:Array Value) (w:World):(callFunc 128 args).run Tryz.prog w=.ok (.enter 128 args) w:=enters_of Tryz.func128 (by kernel_rfl) rfl args w
theorem eg215 (args:Array Value) (w:World):(callFunc 215 args).run Tryz.prog w=.ok (.enter 215 args) w:=enters_of Tryz.func215 (by kernel_rfl) rfl args w
theorem eg216 (args:Array Value) (w:World):(callFunc 216 args).run Tryz.prog w=.ok (.enter 216 args) w:=enters_of Tryz.func216 (by kernel_rfl) rfl args w
theorem eg127 (args:Array Value) (w:World):(callFunc 127 args).run Tryz.prog w=.ok (.enter 127 args) w:=enters_of Tryz.func127 (by kernel_rfl) rfl args w
def elsOf (k:Nat) (ds:List D) (us:List Value):List El:=(List.range ds.length).map fun j=>(ds.getD j default,(List.range k).map fun c=>us.getD (j * (k+1)+(c+1)) undef)
theorem els_fst (k:Nat) (ds:List D) (us:List Value):(elsOf k ds us).map (·.1)=ds:=by
 unfold elsOf
 rw [List.map_map]
 apply List.ext_getElem?
 intro j
 rw [List.getElem?_map]
 by_cases hj:j < ds.length
 · rw [List.getElem?_range hj,List.getElem?_eq_getElem hj]
   simp [List.getD_eq_getElem?_getD,hj]
 · rw [List.getElem?_eq_none (by simpa using hj),List.getElem?_eq_none (by omega)]
   rfl
theorem els_get (k:Nat) (ds:List D) (us:List Value) {j:Nat} (hj:j < ds.length):(elsOf k ds us).getD j default=(ds.getD j default,(List.range k).map fun c=>us.getD (j * (k+1)+(c+1)) undef):=by
 unfold elsOf
 rw [List.getD_eq_getElem?_getD,List.getElem?_map,List.getElem?_range hj]
 rfl
theorem range_getD {α:Type} (f:Nat→α) (k c:Nat) (d:α) (h:c < k):((List.range k).map f).getD c d=f c:=by
 rw [List.getD_eq_getElem?_getD,List.getElem?_map,List.getElem?_range h]
 rfl
theorem sortN_ok {ρ:Ren} {f t g e:Nat} {fl:Bool} {k:Nat} {lv:List K} (hf:ρ.f 6=f) (he:ρ.t 24=e) (L:SlLaysF0.n6 Tryz.prog ρ) (hti:env.ti t=.sl e true (.int .i64::lv)) (hlv:lv.length=k)
 (aE:∀ w,(isAgg e).run Tryz.prog w=.ok true w) (zE:∀ w,(Go.sizeOf e).run Tryz.prog w=.ok (k+1) w)
 (eg:∀ args w,(callFunc g args).run Tryz.prog w=.ok (.enter g args) w) (hc:∀ x y W,Calls Tryz.prog g #[.agg (encE k x).toArray,.agg (encE k y).toArray] W fun e w'=>e=.returned (.int .i64 (cfE x y))∧∃ q os',w'=grow (W.drewN q) os')
 (eF:∀ args w,(callFunc f args).run Tryz.prog w=.ok (.enter f args) w):SigOK Tryz.prog env.ti (sortSig f t g fl) SortN:=by
 subst hf he
 intro ν rs vs w S F ω hR hE
 obtain ⟨xs,ys,rfl,rfl,hlen,hp,hs⟩:=hR
 obtain ⟨v,e',agg',lv',ds,us,hω,hti',hden,hown,hcells⟩:=hE.objs 0 _ rfl
 rw [hti] at hti'
 cases hti'
 obtain rfl:xs=ds:=D.list.inj hden
 have hk1:(K.int IntKind.i64::lv).length=k+1:=by simp [hlv]
 -- the cells of an element
 have cell:∀ j c,j < xs.length→c < k+1→us.getD (j * (k+1)+c) undef=(encE k ((elsOf k xs us).getD j default)).getD c undef:=by
  intro j c hj hc
  obtain ⟨kc,hkc⟩ : ∃ kc,(K.int IntKind.i64::lv)[c]?=some kc:=⟨_,List.getElem?_eq_getElem (by omega)⟩
  have hr:=hcells j c kc hj hkc
  rw [hk1] at hr
  rw [els_get k xs us hj]
  cases c with
  | zero =>
   obtain rfl:K.int IntKind.i64=kc:=Option.some.inj hkc
   have hr:Rd env.ti w S (.int .i64) ((xs.getD j default).cells.getD 0 default) (us.getD (j * (k+1)+0) undef):=hr
   exact (Rd.int_inv hr).2
  | succ c =>
   show _=((List.range k).map fun c=>fix1 (((List.range k).map fun c=>us.getD (j * (k+1)+(c+1)) undef).getD c undef)).getD c undef
   rw [range_getD _ _ _ _ (by omega),range_getD _ _ _ _ (by omega)]
   exact (fix1_eq hr.one).symm
 have helen:(elsOf k xs us).length=xs.length:=by simp [elsOf]
 have hE' : Entry env.ti (sortSig (ρ.f 6) t g fl) [.list ((elsOf k xs us).map (·.1))] vs w S F ω:=by rw [els_fst]; exact hE
 have key:=sort_goes (P:=Tryz.prog) (ρ:=ρ) (fl:=fl) L (ti:=env.ti) (t:=t) (lv:=.int .i64::lv) hti aE (fun w=>by rw [zE w,hk1]) (encE k) (fun x=>by rw [encE_len,hk1]) (encE_one k) (·.1) cfE swoE g eg hc eF (by rw [helen]; exact hlen) (vs:=vs) (w:=w) (S:=S) (F:=F) (ω:=ω) hE'
  (fun x hx c kk hkk=>by
    obtain ⟨j,hj⟩:=List.mem_iff_getElem?.1 hx
    have hjl:j < xs.length:=by rw [←helen]; exact (List.getElem?_eq_some_iff.1 hj).1
    have hxj:(elsOf k xs us).getD j default=x:=by rw [List.getD_eq_getElem?_getD,hj]; rfl
    have hcl:c < k+1:=by rw [←hk1]; exact (List.getElem?_eq_some_iff.1 hkk).1
    have hr:=hcells j c kk hjl hkk
    rw [hk1,cell j c hjl hcl,hxj] at hr
    have hd:xs.getD j default=x.1:=by rw [←hxj,els_get k xs us hjl]
    rw [hd] at hr
    exact hr)
  (fun v' us' hω' hown' j c hj hc=>by
    rw [hω] at hω'
    cases hω'
    rw [els_fst] at hown'
    have:=SX.ownsRow_unique hown' hown
    subst this
    rw [hk1]
    rw [helen] at hj
    exact cell j c hj (by rw [←hk1]; exact hc))
 have hsrt:=pdq_sorts (ltOf cfE) swoE (elsOf k xs us).toArray 0 (elsOf k xs us).length (Lib.bitLen (elsOf k xs us).length) true true (Nat.zero_le _) (by simp) (Or.inl rfl)
 have hres:(pdq (ltOf cfE) (elsOf k xs us).toArray 0 (elsOf k xs us).length (Lib.bitLen (elsOf k xs us).length) true true).toList.map (·.1)=ys:=by
  generalize hd' : pdq (ltOf cfE) (elsOf k xs us).toArray 0 (elsOf k xs us).length (Lib.bitLen (elsOf k xs us).length) true true=d' at hsrt
  obtain ⟨⟨hsd,_,hperm⟩,hsrt⟩:=hsrt
  have hsd' : d'.size=(elsOf k xs us).length:=by rw [hsd]; simp
  have e1:d'.extract 0 (elsOf k xs us).length=d':=by rw [←hsd']; exact Array.extract_size
  have e2:(elsOf k xs us).toArray.extract 0 (elsOf k xs us).length=(elsOf k xs us).toArray:=by
   have:=Array.extract_size (xs:=(elsOf k xs us).toArray)
   rwa [List.size_toArray] at this
  rw [e1,e2] at hperm
  have hperm' : (d'.toList.map (·.1)).Perm xs:=by
   have:=hperm.map (·.1)
   rw [els_fst] at this
   exact this
  have hle:(d'.toList.map (·.1)).Pairwise fun a b=>idOf a≤idOf b:=by
   rw [List.pairwise_map,List.pairwise_iff_getElem]
   intro i j hi hj hij
   have hj' : j < d'.size:=by simpa using hj
   have hi' : i < d'.size:=by simpa using hi
   have h:=hsrt i j (Nat.zero_le _) hij (by omega)
   rw [ltOf_cfE,getElem!_pos d' j hj',getElem!_pos d' i hi'] at h
   simpa using h
  have hnd:((d'.toList.map (·.1)).map idOf).Nodup:=by
   have h1:(ys.map idOf).Nodup:=by
    rw [List.Nodup,List.pairwise_map]
    exact hs.imp fun h=>by omega
   exact ((hperm'.trans hp.symm).map idOf).nodup_iff.2 h1
  have hlt:(d'.toList.map (·.1)).Pairwise fun a b=>idOf a < idOf b:=by
   rw [List.Nodup,List.pairwise_map] at hnd
   exact (hle.and hnd).imp fun ⟨h1,h2⟩=>by omega
  exact sortN_unique hlt hs (hperm'.trans hp.symm)
 rw [hres] at key
 exact key
theorem ok104:SigOK Tryz.prog env.ti s104 (prim 10400):=by
 have h:=sortN_ok (ρ:=Tryz.sortNode_ren) (f:=215) (t:=35) (g:=204) (e:=79) (fl:=false) (k:=2) (lv:=[.int .i64,.sl 26]) rfl rfl Tryz.sortNode rfl rfl Tryz.isAgg79 Tryz.sizeOf79 eg204 closure204 eg215
 intro ν rs vs w S F ω hR hE
 rcases hR with ⟨h,_⟩ | ⟨h,_⟩ | ⟨_,hR⟩ | ⟨h,_⟩
 · omega
 · omega
 · exact h ν rs vs w S F ω hR hE
 · omega
theorem ok105:SigOK Tryz.prog env.ti s105 (prim 10500):=by
 have h:=sortN_ok (ρ:=Tryz.sortEdge_ren) (f:=216) (t:=36) (g:=206) (e:=84) (fl:=true) (k:=3) (lv:=[.int .i64,.int .i64,.int .i64]) rfl rfl Tryz.sortEdge rfl rfl Tryz.isAgg84 Tryz.sizeOf84 eg206 closure206 eg216
 intro ν rs vs w S F ω hR hE
 rcases hR with ⟨h,_⟩ | ⟨h,_⟩ | ⟨_,hR⟩ | ⟨h,_⟩
 · omega
 · omega
 · exact h ν rs vs w S F ω hR hE
 · omega
/-! ### Collisions -/
abbrev SC:={ c:Co // smallC c=true }
instance:Inhabited SC:=⟨⟨(0,0,0),by decide⟩⟩
theorem SC.small (x:SC) : -4611686018427387904 < x.1.2.1∧x.1.2.1 < 4611686018427387904 ∧ -4611686018427387904 < x.1.2.2∧x.1.2.2 < 4611686018427387904:=by
 have h:=x.2
 simpa [smallC] using h
def cfC (x y:SC):Int:=if x.1.2.1 - y.1.2.1=0 then x.1.2.2 - y.1.2.2 else x.1.2.1 - y.1.2.1
def encC (x:SC):List Value:=[.int .i64 x.1.1,.int .i64 x.1.2.1,.int .i64 x.1.2.2]
theorem ltOf_cfC (x y:SC):ltOf cfC x y=ltC x.1 y.1:=by
 rw [Bool.eq_iff_iff,ltC_iff]
 unfold ltOf cfC
 rw [decide_eq_true_iff]
 split <;> omega
theorem swoC:SWO (ltOf cfC) where
 irrefl x:=by
  rw [ltOf_cfC,ltC_false]
  omega
 trans x y z h1 h2:=by
  rw [ltOf_cfC,ltC_iff] at *
  omega
 ntrans x y z h1 h2:=by
  rw [ltOf_cfC,ltC_false] at *
  omega
theorem closure128 (x y:SC) (W:World):Calls Tryz.prog 128 #[.agg (encC x).toArray,.agg (encC y).toArray] W fun e w'=>e=.returned (.int .i64 (cfC x y))∧∃ q os',w'=grow (W.drewN q) os':=by
 obtain ⟨a1,a2,b1,b2⟩:=x.small
 obtain ⟨c1,c2,d1,d2⟩:=y.small
 exact walk128 _ _ (nowrap0 (by omega) (by omega)) (nowrap0 (by omega) (by omega)) _ (rfl:cfC x y=_) W
theorem attachC (l:List Co) (h:l.all smallC=true):∃ xs:List SC,xs.map (·.1)=l:=by
 refine ⟨l.pmap (fun p hp=>⟨p,hp⟩) (fun p hp=>List.all_eq_true.1 h p hp),?_⟩
 rw [List.map_pmap]
 simp
theorem ok120:SigOK Tryz.prog env.ti s120 (prim 12000):=by
 intro ν rs vs w S F ω hR hE
 rcases hR with ⟨h,_⟩ | ⟨h,_⟩ | ⟨h,_⟩ | ⟨_,l,ys,rfl,rfl,hlen,hsm,hkind,hp,hs⟩
 · omega
 · omega
 · omega
 obtain ⟨xs,rfl⟩:=attachC l hsm
 rw [List.length_map] at hlen
 rw [List.map_map] at hE
 have key:=sort_goes (P:=Tryz.prog) (ρ:=Tryz.sortColl_ren) (fl:=true) Tryz.sortColl (ti:=env.ti) (t:=45) (e:=53) (lv:=[.int .i64,.int .i64,.int .i64]) rfl
  (fun w=>Tryz.isAgg53 w) (fun w=>Tryz.sizeOf53 w) encC (fun _=>rfl) (fun x v hv=>by simp [encC] at hv; rcases hv with rfl | rfl | rfl <;> rfl) (cD ∘ (·.1)) cfC swoC 128 eg128 closure128 eg127 hlen (vs:=vs) (w:=w) (S:=S) (F:=F) (ω:=ω) hE
  (fun x _ c k hk=>by
    match c,hk with
    | 0,hk=>cases hk; exact Rd.int _ _
    | 1,hk=>cases hk; exact Rd.int _ _
    | 2,hk=>cases hk; exact Rd.int _ _)
  (fun v us hω hown j c hj hc=>by
    obtain ⟨v0,e',agg',lv',ds,us0,hω0,hti',hden,hown0,hcells⟩:=hE.objs 0 _ rfl
    rw [hω] at hω0
    cases hω0
    have hti2:env.ti 45=.sl 53 true [.int .i64,.int .i64,.int .i64]:=rfl
    rw [hti2] at hti'
    cases hti'
    have hds:xs.map (cD ∘ (·.1))=ds:=D.list.inj hden
    subst hds
    have:=SX.ownsRow_unique hown hown0
    subst this
    have hg:(xs.map (cD ∘ (·.1))).getD j default=cD (xs.getD j default).1:=by
     rw [List.getD_eq_getElem?_getD,List.getElem?_map,List.getD_eq_getElem?_getD,List.getElem?_eq_getElem hj]
     rfl
    have h:=hcells j c (.int .i64) (by simpa using hj) (by
     match c,hc with
     | 0,_=>rfl
     | 1,_=>rfl
     | 2,_=>rfl)
    rw [hg] at h
    match c,hc with
    | 0,_=>exact (Rd.int_inv (show Rd env.ti w S (.int .i64) (.int (xs.getD j default).1.1) _ from h)).2
    | 1,_=>exact (Rd.int_inv (show Rd env.ti w S (.int .i64) (.int (xs.getD j default).1.2.1) _ from h)).2
    | 2,_=>exact (Rd.int_inv (show Rd env.ti w S (.int .i64) (.int (xs.getD j default).1.2.2) _ from h)).2)
 have hsrt:=pdq_sorts (ltOf cfC) swoC xs.toArray 0 xs.length (Lib.bitLen xs.length) true true (Nat.zero_le _) (by simp) (Or.inl rfl)
 have he:(pdq (ltOf cfC) xs.toArray 0 xs.length (Lib.bitLen xs.length) true true).toList.map (cD ∘ (·.1))=ys.map cD:=by
  generalize hd' : pdq (ltOf cfC) xs.toArray 0 xs.length (Lib.bitLen xs.length) true true=d' at hsrt
  obtain ⟨⟨hsd,_,hperm⟩,hsrt⟩:=hsrt
  have hsd' : d'.size=xs.length:=by rw [hsd]; simp
  have e1:d'.extract 0 xs.length=d':=by rw [←hsd']; exact Array.extract_size
  have e2:xs.toArray.extract 0 xs.length=xs.toArray:=by
   have:=Array.extract_size (xs:=xs.toArray)
   rwa [List.size_toArray] at this
  rw [e1,e2] at hperm
  rw [←List.map_map]
  congr 1
  refine sortC_unique hkind ?_ hs (hperm.map _) hp
  rw [List.pairwise_map,List.pairwise_iff_getElem]
  intro i j hi hj hij
  have hj' : j < d'.size:=by simpa using hj
  have hi' : i < d'.size:=by simpa using hi
  have h:=hsrt i j (Nat.zero_le _) hij (by omega)
  rw [ltOf_cfC,getElem!_pos d' j hj',getElem!_pos d' i hi'] at h
  simpa using h
 rw [he] at key
 exact key
end Go.SX.T57
