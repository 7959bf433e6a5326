/-
What a step looks at: two states that agree there step alike.
-/
import Derived.Test.YtjhggmcdjbcolaaGreatSzStep
set_option linter.unusedVariables false
set_option linter.unusedSimpArgs false
set_option linter.unusedSectionVars false
namespace Go.SX
open Go.RowKit
section
variable {objs objs' : List SObj} {T:Nat→Prop} (hag:∀ o,T o→objs[o]?=objs'[o]?)
include hag
theorem dataOf_loc {a:SV1} (ha:∀ p,p∈a.nums→T p):dataOf objs a=dataOf objs' a:=by
 cases a with
 | own o=>simp only [dataOf,hag o (ha o (by simp [SV1.nums]))]
 | dp o=>simp only [dataOf,hag o (ha o (by simp [SV1.nums]))]
 | nst o ts i c t=>simp only [dataOf,hag o (ha o (by simp [SV1.nums]))]
 | _=>rfl
theorem datasOf_loc:∀ {l:List SV1},(∀ a,a∈l→∀ p,p∈a.nums→T p)→datasOf objs l=datasOf objs' l
 | [],_=>rfl
 | a::l,h=>by
  simp only [datasOf,dataOf_loc hag (h a (by simp)),datasOf_loc (l:=l) fun b hb=>h b (by simp [hb])]
theorem elems_loc {agg:Bool} {lv:List K}:∀ {l:List SV},(∀ v,v∈l→∀ p,p∈v.nums→T p)→elems objs agg lv l=elems objs' agg lv l
 | [],_=>rfl
 | v::l,h=>by
  simp only [elems,elems_loc (l:=l) fun b hb=>h b (by simp [hb]),datasOf_loc hag (l:=v.cells) fun a ha p hp=>h v (by simp) p (by simp only [SV.nums,List.mem_flatMap]; exact ⟨a,ha,hp⟩)]
theorem deepParts_loc {ti:TypeId→TI}:∀ {l:List SV1} {lv:List K},(∀ a,a∈l→∀ p,p∈a.nums→T p)→deepParts ti objs l lv=deepParts ti objs' l lv
 | [],[],_=>rfl
 | [],_::_,_=>rfl
 | a::l,lv,h=>by
  cases a with
  | own o =>
   cases lv with
   | nil=>rfl
   | cons k kr =>
    cases k with
    | sl t=>simp only [deepParts,hag o (h (.own o) (by simp) o (by simp [SV1.nums])),deepParts_loc (l:=l) fun b hb=>h b (by simp [hb])]
    | _=>rfl
  | e k x =>
   cases lv with
   | nil=>rfl
   | cons k' kr=>cases k' <;> simp only [deepParts,deepParts_loc (l:=l) fun b hb=>h b (by simp [hb])]
  | _=>cases lv <;> rfl
variable (hcl:∀ o,T o→∀ x,objs[o]?=some x→∀ p,p∈x.nums→T p)
include hcl
theorem mBox_loc {ks:List (K × E)} {o:Nat} (ho:T o) (m:M):mBox objs ks o m=mBox objs' ks o m:=by
 unfold mBox
 rw [←hag o ho]
 cases h:objs[o]? with
 | none=>rfl
 | some x =>
  cases x with
  | box cs =>
   simp only
   rw [datasOf_loc hag (l:=cs) fun a ha p hp=>hcl o ho _ h p (by simp only [SObj.nums,List.mem_flatMap]; exact ⟨a,ha,hp⟩)]
  | _=>rfl
theorem mCaps_loc:∀ (hs as:List Cap) (m:M),(∀ o,Cap.p o∈as→T o)→mCaps objs hs as m=mCaps objs' hs as m
 | [],[],m,_=>rfl
 | [],_::_,m,_=>rfl
 | _::_,[],m,_=>by simp [mCaps]
 | .p o::r,.p a::r',m,h=>by
  simp only [mCaps]
  congr 1
  funext m
  exact mCaps_loc r r' m fun o ho=>h o (by simp [ho])
 | .r ks::r,.r ys::r',m,h=>by
  simp only [mCaps]
  congr 1
  funext m
  exact mCaps_loc r r' m fun o ho=>h o (by simp [ho])
 | .r ks::r,.p a::r',m,h=>by
  simp only [mCaps,mBox_loc hag hcl (h a (by simp))]
  congr 1
  funext m
  exact mCaps_loc r r' m fun o ho=>h o (by simp [ho])
 | .p o::r,.r ys::r',m,h=>by simp [mCaps]
theorem mData_loc {k:K} {x:E} {a:SV1} (ha:∀ p,p∈a.nums→T p) (m:M):mData objs k x a m=mData objs' k x a m:=by
 simp only [mData,dataOf_loc hag ha]
theorem m1_loc {h a:SV1} (ha:∀ p,p∈a.nums→T p) (m:M):m1 objs h a m=m1 objs' h a m:=by
 cases h with
 | e k x=>cases a <;> simp only [m1] <;> exact mData_loc hag hcl ha m
 | r ks =>
  cases a with
  | p o off =>
   cases off with
   | zero=>simp only [m1]; exact mBox_loc hag hcl (ha o (by simp [SV1.nums])) m
   | succ n=>simp [m1]
  | _=>simp [m1]
 | fn g cs =>
  cases a with
  | fn g' cs' =>
   simp only [m1]
   split
   · exact mCaps_loc hag hcl _ _ m fun o ho=>ha o (by simp only [SV1.nums,List.mem_filterMap]; exact ⟨_,ho,rfl⟩)
   · rfl
  | _=>simp [m1]
 | _=>cases a <;> simp [m1]
theorem m1s_loc:∀ (hs as:List SV1) (m:M),(∀ a,a∈as→∀ p,p∈a.nums→T p)→m1s objs hs as m=m1s objs' hs as m
 | [],[],m,_=>rfl
 | [],_::_,m,_=>rfl
 | _::_,[],m,_=>rfl
 | h::r,a::r',m,ha=>by
  simp only [m1s,m1_loc hag hcl (ha a (by simp))]
  congr 1
  funext m
  exact m1s_loc r r' m fun b hb=>ha b (by simp [hb])
theorem mSV_loc {h a:SV} (ha:∀ p,p∈a.nums→T p) (m:M):mSV objs h a m=mSV objs' h a m:=by
 cases h <;> cases a <;> simp only [mSV]
 · exact m1_loc hag hcl (fun p hp=>ha p (by simpa [SV.nums,SV.cells] using hp)) m
 · exact m1s_loc hag hcl _ _ m fun b hb p hp=>ha p (by simp only [SV.nums,SV.cells,List.mem_flatMap]; exact ⟨b,hb,hp⟩)
theorem mSVs_loc:∀ (hs as:List SV) (m:M),(∀ a,a∈as→∀ p,p∈a.nums→T p)→mSVs objs hs as m=mSVs objs' hs as m
 | [],[],m,_=>rfl
 | [],_::_,m,_=>rfl
 | _::_,[],m,_=>rfl
 | h::r,a::r',m,ha=>by
  simp only [mSVs,mSV_loc hag hcl (ha a (by simp))]
  congr 1
  funext m
  exact mSVs_loc r r' m fun b hb=>ha b (by simp [hb])
theorem mSlot_loc {h a:Slot} (ha:∀ p,p∈a.nums→T p) (m:M):mSlot objs h a m=mSlot objs' h a m:=by
 cases h <;> cases a <;> simp only [mSlot]
 · exact mSV_loc hag hcl (fun p hp=>ha p hp) m
 · exact mSVs_loc hag hcl _ _ m fun b hb p hp=>ha p (by simp only [Slot.nums,List.mem_flatMap]; exact ⟨b,hb,hp⟩)
theorem mSlots_loc:∀ (hs as:List Slot) (m:M),(∀ a,a∈as→∀ p,p∈a.nums→T p)→mSlots objs hs as m=mSlots objs' hs as m
 | [],[],m,_=>rfl
 | [],_::_,m,_=>rfl
 | _::_,[],m,_=>rfl
 | h::r,a::r',m,ha=>by
  simp only [mSlots,mSlot_loc hag hcl (ha a (by simp))]
  congr 1
  funext m
  exact mSlots_loc r r' m fun b hb=>ha b (by simp [hb])
theorem mObj_loc {ti:TypeId→TI} {h:SObj} {a:Option Nat} (ha:∀ o,a=some o→T o) (m:M):mObj ti objs h a m=mObj ti objs' h a m:=by
 cases a with
 | none=>cases h <;> rfl
 | some o =>
  have ho:=ha o rfl
  cases h with
  | row t x=>simp only [mObj,hag o ho]
  | box cs =>
   simp only [mObj]
   rw [←hag o ho]
   cases hx:objs[o]? with
   | none=>rfl
   | some x =>
    cases x with
    | box ds =>
     simp only
     exact m1s_loc hag hcl _ _ m fun b hb p hp=>hcl o ho _ hx p (by simp only [SObj.nums,List.mem_flatMap]; exact ⟨b,hb,hp⟩)
    | _=>rfl
  | fro t x=>rfl
  | dead=>rfl
  | deep t x=>simp only [mObj,hag o ho]
  | fbox ks=>rfl
end
/-! ### The numbers that a matching has met -/
def RT (T:Nat→Prop) (m:M):Prop:=∀ (i a:Nat),m.rho[i]?=some (some (some a))→T a
section
variable {objs:List SObj} {T:Nat→Prop}
theorem mE_rho {h a:E} {m m' : M} (hm:mE h a m=some m'):m'.rho=m.rho:=by
 unfold mE at hm
 split at hm
 · split at hm
   · cases hm; rfl
   · split at hm
     · cases hm; rfl
     · cases hm
   · cases hm
 · split at hm
   · cases hm; rfl
   · cases hm
theorem mKE_rho:∀ {ks ys:List (K × E)} {m m' : M},mKE ks ys m=some m'→m'.rho=m.rho
 | [],[],m,m',h=>by simp [mKE] at h; subst h; rfl
 | [],_::_,m,m',h=>by simp [mKE] at h
 | _::_,[],m,m',h=>by simp [mKE] at h
 | (k,x)::r,(k',y)::r',m,m',h=>by
  simp only [mKE] at h
  split at h
  · obtain ⟨m1,h1,h2⟩:=Option.bind_eq_some_iff.1 h
    rw [mKE_rho h2,mE_rho h1]
  · cases h
theorem mO_rt {o:Nat} {a:Option Nat} {m m' : M} (hm:mO o a m=some m') (h:RT T m) (ha:∀ p,a=some p→T p):RT T m':=by
 unfold mO at hm
 split at hm
 · cases hm
   intro i b hb
   simp only at hb
   by_cases hi:o=i
   · subst hi
     rw [List.getElem?_set] at hb
     split at hb
     · split at hb
       · simp at hb; exact ha b hb
       · cases hb
     · exact h _ b hb
   · rw [List.getElem?_set_ne hi] at hb
     exact h i b hb
 · split at hm
   · cases hm; exact h
   · cases hm
 · cases hm
theorem RT.of_rho {m m' : M} (h:RT T m) (he:m'.rho=m.rho):RT T m':=fun i a hi=>h i a (by rw [←he]; exact hi)
theorem mBox_rho {ks:List (K × E)} {o:Nat} {m m' : M} (hm:mBox objs ks o m=some m'):m'.rho=m.rho:=by
 unfold mBox at hm
 split at hm
 · split at hm
   · obtain ⟨m1,h1,rfl⟩:=Option.map_eq_some_iff.1 hm
     show m1.rho=m.rho
     exact mKE_rho h1
   · cases hm
 · exact mKE_rho hm
 · cases hm
theorem mCaps_rt:∀ {hs as:List Cap} {m m' : M},mCaps objs hs as m=some m'→RT T m→(∀ o,Cap.p o∈as→T o)→RT T m'
 | [],[],m,m',h,hr,_=>by simp [mCaps] at h; subst h; exact hr
 | [],_::_,m,m',h,_,_=>by simp [mCaps] at h
 | _::_,[],m,m',h,_,_=>by simp [mCaps] at h
 | .p o::r,.p a::r',m,m',h,hr,ha=>by
  simp only [mCaps] at h
  obtain ⟨m1,h1,h2⟩:=Option.bind_eq_some_iff.1 h
  exact mCaps_rt h2 (mO_rt h1 hr fun p hp=>by cases hp; exact ha _ (by simp)) fun o ho=>ha o (by simp [ho])
 | .r ks::r,.r ys::r',m,m',h,hr,ha=>by
  simp only [mCaps] at h
  obtain ⟨m1,h1,h2⟩:=Option.bind_eq_some_iff.1 h
  exact mCaps_rt h2 (hr.of_rho (mKE_rho h1)) fun o ho=>ha o (by simp [ho])
 | .r ks::r,.p a::r',m,m',h,hr,ha=>by
  simp only [mCaps] at h
  obtain ⟨m1,h1,h2⟩:=Option.bind_eq_some_iff.1 h
  exact mCaps_rt h2 (hr.of_rho (mBox_rho h1)) fun o ho=>ha o (by simp [ho])
 | .p o::r,.r ys::r',m,m',h,_,_=>by simp [mCaps] at h
theorem mData_rho {k:K} {x:E} {a:SV1} {m m' : M} (hm:mData objs k x a m=some m'):m'.rho=m.rho:=by
 unfold mData at hm
 split at hm
 · split at hm
   · obtain ⟨m1,h1,rfl⟩:=Option.map_eq_some_iff.1 hm
     show m1.rho=m.rho
     exact mE_rho h1
   · cases hm
 · cases hm
theorem m1_rt {h a:SV1} {m m' : M} (hm:m1 objs h a m=some m') (hr:RT T m) (ha:∀ p,p∈a.nums→T p):RT T m':=by
 unfold m1 at hm
 split at hm
 · cases hm; exact hr
 · split at hm
   · cases hm; exact hr
   · cases hm
 · exact mO_rt hm hr fun p hp=>by cases hp; exact ha _ (by simp [SV1.nums])
 · exact mO_rt hm hr fun p hp=>by cases hp
 · exact mO_rt hm hr fun p hp=>by cases hp; exact ha _ (by simp [SV1.nums])
 · exact mO_rt hm hr fun p hp=>by cases hp
 · split at hm
   · obtain ⟨m1',h1,h2⟩:=Option.bind_eq_some_iff.1 hm
     exact (mO_rt h1 hr fun p hp=>by cases hp; exact ha _ (by simp [SV1.nums])).of_rho (mE_rho h2)
   · cases hm
 · split at hm
   · exact mO_rt hm hr fun p hp=>by cases hp; exact ha _ (by simp [SV1.nums])
   · cases hm
 · exact hr.of_rho (mKE_rho hm)
 · exact hr.of_rho (mBox_rho hm)
 · split at hm
   · exact mCaps_rt hm hr fun o ho=>ha o (by simp only [SV1.nums,List.mem_filterMap]; exact ⟨_,ho,rfl⟩)
   · cases hm
 · exact hr.of_rho (mData_rho hm)
 · cases hm
theorem m1s_rt:∀ {hs as:List SV1} {m m' : M},m1s objs hs as m=some m'→RT T m→(∀ a,a∈as→∀ p,p∈a.nums→T p)→RT T m'
 | [],[],m,m',h,hr,_=>by simp [m1s] at h; subst h; exact hr
 | [],_::_,m,m',h,_,_=>by simp [m1s] at h
 | _::_,[],m,m',h,_,_=>by simp [m1s] at h
 | _::r,a::r',m,m',h,hr,ha=>by
  simp only [m1s] at h
  obtain ⟨m1,h1,h2⟩:=Option.bind_eq_some_iff.1 h
  exact m1s_rt h2 (m1_rt h1 hr (ha a (by simp))) fun b hb=>ha b (by simp [hb])
theorem mSV_rt {h a:SV} {m m' : M} (hm:mSV objs h a m=some m') (hr:RT T m) (ha:∀ p,p∈a.nums→T p):RT T m':=by
 cases h <;> cases a <;> simp only [mSV] at hm
 · exact m1_rt hm hr fun p hp=>ha p (by simpa [SV.nums,SV.cells] using hp)
 · cases hm
 · cases hm
 · exact m1s_rt hm hr fun b hb p hp=>ha p (by simp only [SV.nums,SV.cells,List.mem_flatMap]; exact ⟨b,hb,hp⟩)
theorem mSVs_rt:∀ {hs as:List SV} {m m' : M},mSVs objs hs as m=some m'→RT T m→(∀ a,a∈as→∀ p,p∈a.nums→T p)→RT T m'
 | [],[],m,m',h,hr,_=>by simp [mSVs] at h; subst h; exact hr
 | [],_::_,m,m',h,_,_=>by simp [mSVs] at h
 | _::_,[],m,m',h,_,_=>by simp [mSVs] at h
 | _::r,a::r',m,m',h,hr,ha=>by
  simp only [mSVs] at h
  obtain ⟨m1,h1,h2⟩:=Option.bind_eq_some_iff.1 h
  exact mSVs_rt h2 (mSV_rt h1 hr (ha a (by simp))) fun b hb=>ha b (by simp [hb])
theorem mSlot_rt {h a:Slot} {m m' : M} (hm:mSlot objs h a m=some m') (hr:RT T m) (ha:∀ p,p∈a.nums→T p):RT T m':=by
 cases h <;> cases a <;> simp only [mSlot] at hm <;> try (cases hm; done)
 all_goals first
  | exact mSV_rt hm hr ha
  | exact mSVs_rt hm hr fun b hb p hp=>ha p (by simp only [Slot.nums,List.mem_flatMap]; exact ⟨b,hb,hp⟩)
  | (cases hm; exact hr)
theorem mSlots_rt:∀ {hs as:List Slot} {m m' : M},mSlots objs hs as m=some m'→RT T m→(∀ a,a∈as→∀ p,p∈a.nums→T p)→RT T m'
 | [],[],m,m',h,hr,_=>by simp [mSlots] at h; subst h; exact hr
 | [],_::_,m,m',h,_,_=>by simp [mSlots] at h
 | _::_,[],m,m',h,_,_=>by simp [mSlots] at h
 | _::r,a::r',m,m',h,hr,ha=>by
  simp only [mSlots] at h
  obtain ⟨m1,h1,h2⟩:=Option.bind_eq_some_iff.1 h
  exact mSlots_rt h2 (mSlot_rt h1 hr (ha a (by simp))) fun b hb=>ha b (by simp [hb])
theorem mObj_rt (hcl:∀ o,T o→∀ x,objs[o]?=some x→∀ p,p∈x.nums→T p) {ti:TypeId→TI} {h:SObj} {a:Option Nat} {m m' : M} (hm:mObj ti objs h a m=some m') (hr:RT T m) (ha:∀ o,a=some o→T o):RT T m':=by
 unfold mObj at hm
 split at hm
 · split at hm
   · exact hr.of_rho (mE_rho hm)
   · cases hm
 · split at hm
   · split at hm
     · exact hr.of_rho (mE_rho hm)
     · cases hm
   · cases hm
 · split at hm
   · rename_i hx
     exact m1s_rt hm hr fun b hb p hp=>hcl _ (ha _ rfl) _ hx p (by simp only [SObj.nums,List.mem_flatMap]; exact ⟨b,hb,hp⟩)
   · cases hm
 · split at hm
   · exact hr.of_rho (mE_rho hm)
   · cases hm
 · split at hm
   · split at hm
     · exact hr.of_rho (mE_rho hm)
     · cases hm
   · cases hm
 · cases hm; exact hr
 · cases hm
theorem mObjs_loc {objs' : List SObj} (hag:∀ o,T o→objs[o]?=objs'[o]?) (hcl:∀ o,T o→∀ x,objs[o]?=some x→∀ p,p∈x.nums→T p) {ti:TypeId→TI}:∀ (hs:List SObj) (i:Nat) (m:M),RT T m→mObjs ti objs hs i m=mObjs ti objs' hs i m
 | [],i,m,hr=>rfl
 | h::r,i,m,hr=>by
  simp only [mObjs]
  split
  · rename_i a ha
    have hT:∀ o,a=some o→T o:=fun o ho=>hr i o (by rw [ha,ho])
    rw [←mObj_loc hag hcl hT]
    cases hm:mObj ti objs h a m with
    | none=>rfl
    | some m1=>exact mObjs_loc hag hcl r (i+1) m1 (mObj_rt hcl hm hr hT)
  · split
    · exact mObjs_loc hag hcl r (i+1) m hr
    · rfl
theorem mtch_loc {objs' : List SObj} (hag:∀ o,T o→objs[o]?=objs'[o]?) (hcl:∀ o,T o→∀ x,objs[o]?=some x→∀ p,p∈x.nums→T p) {ti:TypeId→TI} {hs as:List Slot} {ho:List SObj} {n:Nat} (ha:∀ a,a∈as→∀ p,p∈a.nums→T p) :
 mtch 0 ti hs ho n as objs=mtch 0 ti hs ho n as objs':=by
 unfold mtch
 split
 · rw [←mSlots_loc hag hcl _ _ _ ha]
   cases hm:mSlots objs hs as { th:=List.replicate n none,rho:=seed 0 ho.length,lent:=[] } with
   | none=>rfl
   | some m =>
    simp only [Option.bind_some]
    rw [mObjs_loc hag hcl ho 0 m (mSlots_rt hm (fun i a hi=>by
     simp only [seed,List.range_zero,List.map_nil,List.nil_append] at hi
     have:=List.mem_of_getElem? hi
     rw [List.mem_replicate] at this
     cases this.2) ha)]
 · rfl
theorem findSig_loc {objs' : List SObj} (hag:∀ o,T o→objs[o]?=objs'[o]?) (hcl:∀ o,T o→∀ x,objs[o]?=some x→∀ p,p∈x.nums→T p) {env:Env} {g:FuncId} {as:List Slot} (ha:∀ a,a∈as→∀ p,p∈a.nums→T p):∀ (l:List Sig) (i:Nat),
 findSig env g as objs l i=findSig env g as objs' l i
 | [],i=>rfl
 | s::r,i=>by
  simp only [findSig,mtch_loc hag hcl ha,findSig_loc hag hcl ha r (i+1)]
end
/-! ### The steps -/
theorem constSlot_nums (ty:TypeId) (v:Value):(constSlot ty v).nums=[]:=by
 unfold constSlot
 split <;> rfl
theorem look_nums {σ:St} {ty:TypeId} {x:Operand} {o:Oper} (hx:x∈o.op.operands):∀ p,p∈(look σ ty x).nums→p∈(operTmps o).flatMap (slotNums σ):=by
 intro p hp
 cases x with
 | tmp t =>
  simp only [look] at hp
  cases hs:σ.slots[t]? with
  | none=>rw [hs] at hp; simp [Slot.nums] at hp
  | some s =>
   rw [hs] at hp
   refine List.mem_flatMap.2 ⟨t,?_,by simp only [slotNums,hs]; exact hp⟩
   simp only [operTmps,List.mem_filterMap]
   exact ⟨.tmp t,by simpa using hx,rfl⟩
 | const v=>simp only [look,constSlot_nums] at hp; cases hp
 | func f=>simp [look,Slot.nums,SV.nums,SV.cells,SV1.nums] at hp
 | global g=>simp [look,Slot.nums] at hp
structure Agree (o:Oper) (σ σ' : St):Prop where
 nb:σ.nb=σ'.nb
 vb:σ.vb=σ'.vb
 known:σ.known=σ'.known
 slots:∀ t,t∈operTmps o→σ.slots[t]?=σ'.slots[t]?
 objs:∀ p,p∈reads o σ→σ.objs[p]?=σ'.objs[p]?
section
variable {o:Oper} {σ σ' : St} {K:Delta→T}
theorem Agree.look (h:Agree o σ σ') {x:Operand} (hx:x∈o.op.operands) (ty:TypeId):look σ ty x=look σ' ty x:=by
 cases x with
 | tmp t =>
  simp only [SX.look]
  rw [h.slots t]
  simp only [operTmps,List.mem_filterMap]
  exact ⟨.tmp t,by simpa using hx,rfl⟩
 | _=>rfl
theorem Agree.look1 (h:Agree o σ σ') {x:Operand} (hx:x∈o.op.operands) (ty:TypeId):look1 σ ty x=look1 σ' ty x:=by simp only [SX.look1,h.look hx]
theorem Agree.lookSV (h:Agree o σ σ') {x:Operand} (hx:x∈o.op.operands) (ty:TypeId):lookSV σ ty x=lookSV σ' ty x:=by simp only [SX.lookSV,h.look hx]
theorem Agree.lookE (h:Agree o σ σ') {x:Operand} (hx:x∈o.op.operands):lookE σ x=lookE σ' x:=by simp only [SX.lookE,h.look hx]
theorem Agree.knownE (h:Agree o σ σ'):knownE σ=knownE σ':=by funext c; unfold SX.knownE; rw [h.known]
theorem Agree.ckIf (h:Agree o σ σ'):ckIf σ=ckIf σ':=by funext c t; simp only [SX.ckIf,h.knownE]
theorem Agree.ckLe (h:Agree o σ σ'):ckLe σ=ckLe σ':=by funext a b t; simp only [SX.ckLe,h.ckIf]
theorem Agree.ckRange (h:Agree o σ σ'):ckRange σ=ckRange σ':=by funext a b t; simp only [SX.ckRange,h.ckIf]
theorem look1_nums {ty:TypeId} {x:Operand} {a:SV1} (hx:x∈o.op.operands) (ha:look1 σ ty x=some a):∀ p,p∈a.nums→p∈(operTmps o).flatMap (slotNums σ):=by
 intro p hp
 have:=look_nums (σ:=σ) (ty:=ty) hx p
 unfold SX.look1 at ha
 split at ha
 · rename_i b hb
   cases ha
   rw [hb] at this
   exact this (by simpa [Slot.nums,SV.nums,SV.cells] using hp)
 · cases ha
theorem lookSV_nums {ty:TypeId} {x:Operand} {a:SV} (hx:x∈o.op.operands) (ha:lookSV σ ty x=some a):∀ p,p∈a.nums→p∈(operTmps o).flatMap (slotNums σ):=by
 intro p hp
 have:=look_nums (σ:=σ) (ty:=ty) hx p
 unfold SX.lookSV at ha
 split at ha
 · rename_i b hb
   cases ha
   rw [hb] at this
   exact this hp
 · cases ha
theorem stepLoad_loc {ti:TypeId→TI} {t:TypeId} {a:SV1} (ha:∀ p,p∈a.nums→σ.objs[p]?=σ'.objs[p]?):stepLoad ti t a σ K=stepLoad ti t a σ' K:=by
 cases a with
 | p o off=>simp only [stepLoad,ha o (by simp [SV1.nums])]; rfl
 | po o sz i off=>simp only [stepLoad,ha o (by simp [SV1.nums])]; rfl
 | pd o sz i off=>simp only [stepLoad,ha o (by simp [SV1.nums])]; rfl
 | pn o ts i c t k=>simp only [stepLoad,ha o (by simp [SV1.nums])]; rfl
 | _=>rfl
theorem datas_loc {l:List SV1} (ha:∀ a,a∈l→∀ p,p∈a.nums→σ.objs[p]?=σ'.objs[p]?):datasOf σ.objs l=datasOf σ'.objs l :=
 datasOf_loc (T:=fun p=>σ.objs[p]?=σ'.objs[p]?) (fun _ h=>h) ha
theorem data_loc {a:SV1} (ha:∀ p,p∈a.nums→σ.objs[p]?=σ'.objs[p]?):dataOf σ.objs a=dataOf σ'.objs a :=
 dataOf_loc (T:=fun p=>σ.objs[p]?=σ'.objs[p]?) (fun _ h=>h) ha
theorem SV.nums_mem {v:SV} {a:SV1} (ha:a∈v.cells) {p:Nat} (hp:p∈a.nums):p∈v.nums:=by
 simp only [SV.nums,List.mem_flatMap]; exact ⟨a,ha,hp⟩
theorem stepStore_loc {ti:TypeId→TI} {t:TypeId} {a:SV1} {v:SV} (ha:∀ p,p∈a.nums→σ.objs[p]?=σ'.objs[p]?) (hv:∀ p,p∈v.nums→σ.objs[p]?=σ'.objs[p]?):stepStore ti t a v σ K=stepStore ti t a v σ' K:=by
 have hd:datasOf σ.objs v.cells=datasOf σ'.objs v.cells:=datas_loc fun b hb p hp=>hv p (SV.nums_mem hb hp)
 cases a with
 | p o off=>simp only [stepStore,ha o (by simp [SV1.nums])]
 | po o sz i off=>simp only [stepStore,ha o (by simp [SV1.nums]),hd]
 | pn o ts i c t k=>simp only [stepStore,ha o (by simp [SV1.nums])]
 | _=>rfl
theorem appTo_loc (h:Agree o σ σ') {t:TypeId} {w y:E} {oo:Option Nat}:appTo t w y oo σ K=appTo t w y oo σ' K:=by simp only [appTo,h.nb]
theorem stepAppend_loc (h:Agree o σ σ') {ti:TypeId→TI} {t t2:TypeId} {s x:SV1} (hs:∀ p,p∈s.nums→σ.objs[p]?=σ'.objs[p]?) (hx:∀ p,p∈x.nums→σ.objs[p]?=σ'.objs[p]?):stepAppend ti t t2 s x σ K=stepAppend ti t t2 s x σ' K:=by
 have h1:∀ y l,stepApp t y l s σ K=stepApp t y l s σ' K:=by
  intro y l
  cases s with
  | own o=>simp only [stepApp,hs o (by simp [SV1.nums]),h.ckLe,appTo_loc h]
  | nil t'=>simp only [stepApp,h.ckLe,appTo_loc h]
  | _=>rfl
 have h2:∀ agg lv n,stepZeros t agg lv n s σ K=stepZeros t agg lv n s σ' K:=by
  intro agg lv n
  cases s with
  | own o=>simp only [stepZeros,hs o (by simp [SV1.nums]),h.ckLe,appTo_loc h]
  | nil t'=>simp only [stepZeros,h.ckLe,appTo_loc h]
  | _=>rfl
 have h3:∀ o1 o2,s=.dp o1→x=.dp o2→stepAppD t t2 o1 o2 σ K=stepAppD t t2 o1 o2 σ' K:=by
  intro o1 o2 e1 e2
  subst e1; subst e2
  simp only [stepAppD,hs o1 (by simp [SV1.nums]),hx o2 (by simp [SV1.nums]),h.ckLe,h.nb]
 unfold stepAppend
 split
 · split
   · exact h3 _ _ rfl rfl
   · rfl
   · rfl
   · simp only [data_loc hx,h1,h2]
 · rfl
theorem stepSlice_loc (h:Agree o σ σ') {ti:TypeId→TI} {t:TypeId} {x:SV1} {lo hi:Option E} (hx:∀ p,p∈x.nums→σ.objs[p]?=σ'.objs[p]?):stepSlice ti t x lo hi σ K=stepSlice ti t x lo hi σ' K:=by
 have h1:∀ n t1,sliceCks lo hi n σ t1=sliceCks lo hi n σ' t1:=fun n t1=>by simp only [sliceCks,h.ckLe]
 have h2:∀ t' w,stepCut t' w lo hi σ K=stepCut t' w lo hi σ' K:=fun t' w=>by simp only [stepCut,h1]; rfl
 cases x with
 | own o=>simp only [stepSlice,hx o (by simp [SV1.nums]),h.ckLe,h2,h.nb]; rfl
 | e k y=>cases k <;> simp only [stepSlice,h1,h2] <;> rfl
 | nil t'=>rfl
 | _=>rfl
theorem stepIndexAddr_loc (h:Agree o σ σ') {ti:TypeId→TI} {t:TypeId} {a:SV1} {i:E} (ha:∀ p,p∈a.nums→σ.objs[p]?=σ'.objs[p]?):stepIndexAddr ti t a i σ K=stepIndexAddr ti t a i σ' K:=by
 cases a with
 | own o=>simp only [stepIndexAddr,ha o (by simp [SV1.nums]),h.ckRange]; rfl
 | dp o=>simp only [stepIndexAddr,ha o (by simp [SV1.nums]),h.ckRange]; rfl
 | ow o sz lo=>simp only [stepIndexAddr,ha o (by simp [SV1.nums]),h.ckRange]; rfl
 | nst o ts j c t'=>simp only [stepIndexAddr,ha o (by simp [SV1.nums]),h.ckRange]; rfl
 | e k x=>cases k <;> (simp only [stepIndexAddr,h.ckRange]; rfl)
 | _=>simp only [stepIndexAddr,h.ckRange]; rfl
theorem intsOf_loc (h:Agree o σ σ'):∀ {l:List Operand},(∀ x,x∈l→x∈o.op.operands)→intsOf σ l=intsOf σ' l
 | [],_=>rfl
 | x::r,hl=>by
  simp only [intsOf,h.lookE (hl x (by simp)),intsOf_loc h (l:=r) fun p hp=>hl p (by simp [hp])]
theorem stepLen_loc {ti:TypeId→TI} {t:TypeId} {a:SV1} (ha:∀ p,p∈a.nums→σ.objs[p]?=σ'.objs[p]?):stepLen ti t a σ K=stepLen ti t a σ' K:=by
 cases a with
 | ow o sz lo=>simp only [stepLen,ha o (by simp [SV1.nums])]; rfl
 | _=>simp only [stepLen,data_loc ha]; rfl
theorem stepClear_loc {ti:TypeId→TI} {t:TypeId} {a:SV1} (ha:∀ p,p∈a.nums→σ.objs[p]?=σ'.objs[p]?):stepClear ti t a σ K=stepClear ti t a σ' K:=by
 cases a with
 | ow o sz lo=>simp only [stepClear,ha o (by simp [SV1.nums])]
 | _=>rfl
theorem stepPlain_loc (h:Agree o σ σ') {ti:TypeId→TI} {op:BinOp} {t:TypeId} {k k' : SX.K} {a b:E}:stepPlain ti op t k k' a b σ K=stepPlain ti op t k k' a b σ' K:=by
 simp only [stepPlain,h.ckIf]
 rfl
theorem stepBin_loc (h:Agree o σ σ') {ti:TypeId→TI} {eqt:List TypeId} {op:BinOp} {t:TypeId} {x y:Operand} (hx:x∈o.op.operands) (hy:y∈o.op.operands)
 (hob:∀ p,p∈(operTmps o).flatMap (slotNums σ)→σ.objs[p]?=σ'.objs[p]?):stepBin ti eqt op t x y σ K=stepBin ti eqt op t x y σ' K:=by
 unfold stepBin
 rw [←h.look hx,←h.look hy]
 have hnx:=look_nums (σ:=σ) (ty:=0) hx
 have hny:=look_nums (σ:=σ) (ty:=0) hy
 split
 · split
   · simp only [stepDiv,nzCk,h.ckIf]; rfl
   · simp only [stepDiv,nzCk,h.ckIf]; rfl
   · simp only [stepShift,nnCk,h.ckIf]; rfl
   · simp only [stepShift,nnCk,h.ckIf]; rfl
   · exact stepPlain_loc h
 · rfl
 · rfl
 · rename_i l m hl hm
   rw [hl] at hnx
   rw [hm] at hny
   have d1:datasOf σ.objs l=datasOf σ'.objs l:=datas_loc fun a ha p hp=>hob p (hnx p (by simp only [Slot.nums,SV.nums,SV.cells,List.mem_flatMap]; exact ⟨a,ha,hp⟩))
   have d2:datasOf σ.objs m=datasOf σ'.objs m:=datas_loc fun a ha p hp=>hob p (hny p (by simp only [Slot.nums,SV.nums,SV.cells,List.mem_flatMap]; exact ⟨a,ha,hp⟩))
   simp only [stepEq,d1,d2]
   rfl
 · rfl
theorem lookParts_loc (h:Agree o σ σ') {ty:TypeId}:∀ {l:List (Nat × Operand)},(∀ p,p∈l→p.2∈o.op.operands)→lookParts σ ty l=lookParts σ' ty l
 | [],_=>rfl
 | (i,x)::r,hl=>by
  simp only [lookParts,h.lookSV (hl (i,x) (by simp)),lookParts_loc h (l:=r) fun p hp=>hl p (by simp [hp])]
theorem lookParts_nums {ty:TypeId}:∀ {l:List (Nat × Operand)} {ps:List (Nat × SV)},lookParts σ ty l=some ps→(∀ p,p∈l→p.2∈o.op.operands)→∀ v,v∈ps.map (·.2)→∀ p,p∈v.nums→p∈(operTmps o).flatMap (slotNums σ)
 | [],ps,hl,_,v,hv,p,hp=>by simp [lookParts] at hl; subst hl; cases hv
 | (i,x)::r,ps,hl,ho,v,hv,p,hp=>by
  simp only [lookParts] at hl
  split at hl
  · rename_i v0 l0 h1 h2
    cases hl
    rcases List.mem_cons.1 hv with rfl | hv
    · exact lookSV_nums (ho (i,x) (by simp)) h1 p hp
    · exact lookParts_nums h2 (fun q hq=>ho q (by simp [hq])) v hv p hp
  · cases hl
theorem lookCaps_loc (h:Agree o σ σ'):∀ {l:List Operand},(∀ x,x∈l→x∈o.op.operands)→lookCaps σ l=lookCaps σ' l
 | [],_=>rfl
 | x::r,hl=>by
  simp only [lookCaps,h.look1 (hl x (by simp)),lookCaps_loc h (l:=r) fun p hp=>hl p (by simp [hp])]
theorem bndE_loc (h:Agree o σ σ') {x:Option Operand} (hx:∀ y,x=some y→y∈o.op.operands):bndE σ x=bndE σ' x:=by
 cases x with
 | none=>rfl
 | some y=>simp only [bndE,h.lookE (hx y rfl)]
theorem reads_all (hn:isCallV o=false) (hl:looksIn o=true):reads o σ=(operTmps o).flatMap (slotNums σ):=by
 simp [reads,hn,hl]
theorem ostep_loc {env:Env} (h:Agree o σ σ') (hn:isCallV o=false):ostep env o σ K=ostep env o σ' K:=by
 have hob:looksIn o=true→∀ p,p∈(operTmps o).flatMap (slotNums σ)→σ.objs[p]?=σ'.objs[p]?:=fun hl p hp=>h.objs p (by rw [reads_all hn hl]; exact hp)
 unfold ostep
 cases ho:o.op <;> try simp only
 case move x=>rw [h.look (by simp [ho,Op.operands])]; rfl
 case assign x=>rw [h.look (by simp [ho,Op.operands])]; rfl
 case pick c x y =>
  rw [h.look1 (x:=c) (by simp [ho,Op.operands]),h.look (x:=x) (by simp [ho,Op.operands]),h.look (x:=y) (by simp [ho,Op.operands])]
  split
  · simp only [stepPick,h.knownE]; rfl
  · rfl
 case alloc t=>simp only [stepAlloc,h.nb]
 case box t x =>
  rw [h.lookSV (by simp [ho,Op.operands])]
  simp only [stepBox,h.nb]
 case build t parts =>
  simp only [stepBuild]
  rw [lookParts_loc h (fun p hp=>by rw [ho]; simp [Op.operands]; exact ⟨p.1,by simpa using hp⟩)]
  rfl
 case buildSlice t n parts =>
  have hm:∀ p,p∈parts.toList→p.2∈o.op.operands:=fun p hp=>by rw [ho]; simp [Op.operands]; exact ⟨p.1,by simpa using hp⟩
  split
  · split
    · rename_i x hp
      have hxm:x∈o.op.operands:=hm (0,x) (by rw [hp]; simp)
      split
      · rw [←h.lookSV hxm]
        split
        · rename_i v hv
          unfold stepBuildDeep
          split
          · rename_i e lv cs hti
            have hd:=deepParts_loc (T:=fun p=>σ.objs[p]?=σ'.objs[p]?) (fun _ h=>h) (ti:=env.ti) (l:=cs) (lv:=lv) fun b hb p hp=>hob (by simp [looksIn,ho]) p (lookSV_nums hxm hv p (by simp only [SV.nums,SV.cells,List.mem_flatMap]; exact ⟨b,hb,hp⟩))
            rw [hd,h.nb]
          · rfl
        · rfl
      · rfl
    · rfl
  unfold stepBuildSlice
  split
  · rename_i e agg lv hti
    rw [←lookParts_loc h hm]
    split
    · rename_i ps hps
      have he:=elems_loc (T:=fun p=>σ.objs[p]?=σ'.objs[p]?) (fun _ h=>h) (agg:=agg) (lv:=lv) (l:=ps.map (·.2)) fun v hv p hp=>hob (by simp [looksIn,ho]) p (lookParts_nums hps hm v hv p hp)
      rw [he,h.nb]
    · rfl
  · rfl
 case load t x =>
  rw [←h.look1 (x:=x) (by simp [ho,Op.operands])]
  split
  · rename_i a ha
    exact stepLoad_loc fun p hp=>hob (by simp [looksIn,ho]) p (look1_nums (by simp [ho,Op.operands]) ha p hp)
  · rfl
 case store t x y =>
  rw [←h.look1 (x:=x) (by simp [ho,Op.operands]),←h.lookSV (x:=y) (by simp [ho,Op.operands])]
  split
  · rename_i a v ha hv
    exact stepStore_loc (fun p hp=>hob (by simp [looksIn,ho]) p (look1_nums (by simp [ho,Op.operands]) ha p hp)) (fun p hp=>hob (by simp [looksIn,ho]) p (lookSV_nums (by simp [ho,Op.operands]) hv p hp))
  · rfl
 case nilCheck x =>
  rw [h.look1 (x:=x) (by simp [ho,Op.operands])]
  split
  · unfold stepNilCheck; split <;> rfl
  · rfl
 case binOp op t x y t2=>exact stepBin_loc h (by simp [ho,Op.operands]) (by simp [ho,Op.operands]) (hob (by simp [looksIn,ho]))
 case unOp op t x =>
  cases op <;> simp only
  rw [h.look1 (x:=x) (by simp [ho,Op.operands])]
  split
  · unfold stepNot; split <;> rfl
  · rfl
 case convert src dst x =>
  rw [h.look1 (x:=x) (by simp [ho,Op.operands])]
  split
  · unfold stepConvert; split <;> rfl
  · rfl
 case makeFunc f first caps =>
  cases f <;> simp only
  split
  · unfold stepMakeFunc
    rw [lookCaps_loc h (fun x hx=>by rw [ho]; simp only [Op.operands]; exact Array.mem_append.2 (.inr (by simpa using hx)))]
    split <;> rfl
  · rfl
 case slice t x lo hi mx =>
  cases mx <;> simp only
  rw [←h.look1 (x:=x) (by simp [ho,Op.operands]),←bndE_loc h (x:=lo) (fun y hy=>by subst hy; simp [ho,Op.operands]),←bndE_loc h (x:=hi) (fun y hy=>by subst hy; simp [ho,Op.operands])]
  split
  · rename_i a el eh ha _ _
    exact stepSlice_loc h fun p hp=>hob (by simp [looksIn,ho]) p (look1_nums (by simp [ho,Op.operands]) ha p hp)
  · rfl
 case fieldAddr t x j =>
  rw [h.look1 (x:=x) (by simp [ho,Op.operands])]
  split
  · unfold stepFieldAddr; split
    · split <;> rfl
    · rfl
  · rfl
 case field t x j =>
  rw [h.lookSV (x:=x) (by simp [ho,Op.operands])]
  split
  · unfold stepField; rfl
  · rfl
 case indexAddr t x ix =>
  rw [←h.look1 (x:=x) (by simp [ho,Op.operands]),←h.lookE (x:=ix) (by simp [ho,Op.operands])]
  split
  · rename_i a k i ha _
    exact stepIndexAddr_loc h fun p hp=>hob (by simp [looksIn,ho]) p (look1_nums (by simp [ho,Op.operands]) ha p hp)
  · rfl
 case index t x ix =>
  rw [←h.lookSV (x:=x) (by simp [ho,Op.operands]),←h.lookE (x:=ix) (by simp [ho,Op.operands])]
  split
  · simp only [stepIndex,h.ckRange]; rfl
  · rfl
 case extract x j =>
  rw [h.look (x:=x) (by simp [ho,Op.operands])]
  unfold stepExtract; rfl
 case call c =>
  have hmem:∀ x,x∈c.args.toList→x∈o.op.operands:=fun x hx=>by rw [ho]; simp only [Op.operands,Call.operands]; exact Array.mem_append.2 (by first | exact .inl (by simpa using hx) | exact .inr (by simpa using hx))
  cases hc:c.callee <;> try simp only
  case value f=>simp [isCallV,ho,hc] at hn
  case builtin b =>
   cases b <;> try simp only
   case len =>
    split
    · rename_i x t ha ht
      rw [←h.look1 (hmem x (by rw [ha]; simp))]
      split
      · rename_i a hla
        exact stepLen_loc fun p hp=>hob (by simp [looksIn,ho]) p (look1_nums (hmem x (by rw [ha]; simp)) hla p hp)
      · rfl
    · rfl
   case cap =>
    split
    · rename_i x t ha ht
      rw [←h.look1 (hmem x (by rw [ha]; simp))]
      split
      · unfold stepCap; split <;> rfl
      · rfl
    · rfl
   case append =>
    split
    · rename_i s x t t2 ha ht
      rw [←h.look1 (hmem s (by rw [ha]; simp)),←h.look1 (hmem x (by rw [ha]; simp))]
      split
      · rename_i a b hla hlb
        exact stepAppend_loc h (fun p hp=>hob (by simp [looksIn,ho]) p (look1_nums (hmem s (by rw [ha]; simp)) hla p hp)) (fun p hp=>hob (by simp [looksIn,ho]) p (look1_nums (hmem x (by rw [ha]; simp)) hlb p hp))
      · rfl
    · rfl
   case clear =>
    split
    · rename_i x t ha ht
      rw [←h.look1 (hmem x (by rw [ha]; simp))]
      split
      · rename_i a hla
        exact stepClear_loc fun p hp=>hob (by simp [looksIn,ho]) p (look1_nums (hmem x (by rw [ha]; simp)) hla p hp)
      · rfl
    · rfl
   case max=>simp only [stepMinMax,intsOf_loc h hmem]; rfl
   case min=>simp only [stepMinMax,intsOf_loc h hmem]; rfl
end
end Go.SX
