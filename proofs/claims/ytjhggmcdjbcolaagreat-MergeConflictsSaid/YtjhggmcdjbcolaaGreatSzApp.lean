/-
append.
-/
import Derived.Test.YtjhggmcdjbcolaaGreatSzMem
import Derived.Laws.Runes
set_option linter.unusedVariables false
set_option linter.unusedSimpArgs false
set_option linter.unusedSectionVars false
namespace Go.SX
open Go.RowKit
theorem wrap_i64 {m:Nat} (hm:m≤1073741824):IntKind.i64.wrap (m:Int)=m:=wrap_small _ (by omega) (by omega)
section
variable {P:Program} (w:World)
theorem run_append_zeros (base:Nat) (t t2 ty e:TypeId) (k2:IntKind) (i:TypeInfo) (z:Value) (size:Nat) (ht:P.underlying t=some (.slice e)) (hk:P.underlying t2=some (.int k2)) (hi:P.info? e=some i) (hz:i.zero=some z)
 (hsize:i.size=size) (hzs:z.cells.size=size) (hsz:0 < size) (hz1:∀ u,u∈z.cells.toList→u.oneCell'=true)
 (v:Value) (n:Nat) (xs:List Value) (hown:w.ownsRow base e size v n xs) (m:Nat) (hm:m≤1073741824)
 (h63:n+m≤maxLen) (hbytes:(n+m) * i.bytes≤140737488355328) (hbase:base≤w.heap.size) :
 ∃ v' w',(Builtin.append_ #[t,t2] ty #[v,.int .i64 m]).run P w=.ok v' w'∧w'.ownsRow base e size v' (n+m) (xs++(Builtin.zeroCells z.cells m).toList)∧w.grownBy w' v.ownBlock ∧
  (v'.ownBlock=v.ownBlock ∨ v'.ownBlock=some w.heap.size):=by
 subst hsize
 generalize hnw:(Builtin.zeroCells z.cells m).toList=news
 have hl:news.length=m * i.size:=by rw [←hnw,Array.length_toList (xs:=Builtin.zeroCells z.cells m),size_zeroCells,hzs]
 have hna:Builtin.zeroCells z.cells m=news.toArray:=by rw [←hnw]
 have h1:∀ u,u∈news→u.oneCell'=true:=by
  intro u hu
  rw [←hnw] at hu
  simp only [Builtin.zeroCells,Array.toList_map,List.mem_map] at hu
  obtain ⟨q,hq,rfl⟩:=hu
  have hlt:q % z.cells.size < z.cells.size:=Nat.mod_lt _ (by omega)
  refine hz1 _ ?_
  rw [getElem!_pos z.cells _ hlt]
  exact Array.mem_toList_iff.2 (Array.getElem_mem hlt)
 have hsmall:n+m≤9223372036854775807:=by simp only [maxLen] at h63; omega
 have hlen:(xs++news).length=(n+m) * i.size:=by rw [List.length_append,hown.1,hl,Nat.add_mul]
 have hw:=wrap_i64 hm
 have hmb:¬ (281474976710656 < (m:Int) * (i.bytes:Int)):=by
  have:m * i.bytes≤(n+m) * i.bytes:=Nat.mul_le_mul_right _ (by omega)
  have h2:m * i.bytes≤140737488355328:=by omega
  have h3:((m * i.bytes:Nat):Int)≤140737488355328:=Int.ofNat_le.2 h2
  rw [Int.natCast_mul] at h3
  omega
 have hneg:¬ ((m:Int) < 0):=by omega
 have grown:∀ (old:Nat),old < n+m→∀ (row:Option Nat),
  (w.drew.alloc (.cells (xs.toArray++news.toArray++Builtin.zeroCells z.cells (grownCap w (n+m) old e - (n+m))) e)).ownsRow base e i.size
   (.slice (some ⟨w.heap.size,0,none⟩) (n+m) (grownCap w (n+m) old e)) (n+m) (xs++news) ∧
  w.grownBy (w.drew.alloc (.cells (xs.toArray++news.toArray++Builtin.zeroCells z.cells (grownCap w (n+m) old e - (n+m))) e)) row:=by
  intro old ho row
  have hge:=grownCap_ge w (n+m) old e
  have hcm:grownCap w (n+m) old e≤maxLen:=grownCap_le_maxLen w (n+m) old e h63
  refine ⟨⟨hlen,.inr ⟨w.heap.size,_,_,rfl,hbase,heap_alloc_new w.drew _,hge,hcm,?_,?_⟩⟩,⟨rfl,rfl,rfl,by simp,fun k hk _=>heap_alloc_old w.drew _ k hk⟩⟩
  · simp only [Array.size_append,List.size_toArray,size_zeroCells,hzs,hown.1,hl,←Nat.add_mul]
    congr 1
    omega
  · simp only [Array.toList_append,List.append_assoc]
    rw [←List.append_assoc,←hlen]
    exact List.take_left
 have happ0:m * i.size=0→news=[]:=fun h0=>List.eq_nil_of_length_eq_zero (by rw [hl]; exact h0)
 rcases hown.2 with ⟨rfl,rfl⟩ | ⟨g,cap,cur,rfl,hbg,hg,hnc,hcm,hcs,htake⟩
 · have hx:xs=[]:=List.eq_nil_of_length_eq_zero (by simpa using hown.1)
   subst hx
   by_cases hm0:m=0
   · subst hm0
     have hn:news=[]:=List.eq_nil_of_length_eq_zero (by simpa using hl)
     subst hn
     refine ⟨.slice none 0 0,w,?_,World.ownsRow_nil w base e i.size,⟨rfl,rfl,rfl,Nat.le_refl _,fun _ _ _=>rfl⟩,Or.inl rfl⟩
     have hw0:IntKind.i64.wrap 0=0:=by simpa using hw
     simp [Builtin.append_,run_underlying ht,run_underlying hk,asInt,asIntOf,hw0,sizeOf,typeInfo,hi]
   · have hpos:0 < m * i.size:=Nat.mul_pos (by omega) hsz
     have hgr:=grown 0 (by omega) (Value.ownBlock (.slice none 0 0))
     simp only [Nat.zero_add,List.nil_append,Array.empty_append] at hgr ⊢
     refine ⟨_,_,?_,hgr.1,hgr.2,Or.inr rfl⟩
     have h63' : ¬ (9223372036854775807 < (m:Int)):=by omega
     have h48' : ¬ (281474976710656 < Builtin.nextslicecap m 0 * i.bytes):=by rw [nextslicecap_zero (by omega)]; simp only [Nat.zero_add] at hbytes; omega
     have hs0:i.size≠0:=by omega
     simp [Builtin.append_,run_underlying ht,run_underlying hk,asInt,asIntOf,hw,hneg,hmb,sizeOf,typeInfo,zeroValue,hi,hz,hm0,hs0,h63',h48',Question.forced,run_firstCells_none,newRow,grownCap,hna]
     intro h0
     exact absurd h0 (by omega)
 · by_cases hroom:n+m≤cap
   · have hfit:n * i.size+news.length≤cur.size:=by rw [hl,hcs,←Nat.add_mul]; exact Nat.mul_le_mul_right _ hroom
     have hst:=run_storeCells_at P g (n * i.size) e news 0 cur w hg (by simpa using hfit) h1
     simp only [Nat.add_zero] at hst
     refine ⟨.slice (some ⟨g,0,none⟩) (n+m) cap,w.setRow g (cur.toList.take (n * i.size)++news++cur.toList.drop (n * i.size+news.length)).toArray,?_,⟨hlen,.inr ⟨g,cap,_,rfl,hbg,setRow_heap w g cur _ e _ hg,hroom,hcm,?_,?_⟩⟩,⟨rfl,rfl,rfl,by simp,fun k _ hk=>setRow_other w g k _ (fun e=>hk (by simp [Value.ownBlock,e]))⟩,Or.inl rfl⟩
     · by_cases hm0:m=0
       · subst hm0
         have hn:news=[]:=List.eq_nil_of_length_eq_zero (by simpa using hl)
         subst hn
         have hw0:IntKind.i64.wrap 0=0:=by simpa using hw
         simp only [List.length_nil,Nat.add_zero,List.append_nil] at hst ⊢
         simp [Builtin.append_,run_underlying ht,run_underlying hk,asInt,asIntOf,hw0,sizeOf,typeInfo,hi,hnc]
         simpa [Addr.add_mid,storeCells] using hst
       · have hs0:i.size≠0:=by omega
         simp [Builtin.append_,run_underlying ht,run_underlying hk,asInt,asIntOf,hw,hneg,hmb,sizeOf,typeInfo,zeroValue,hi,hz,hm0,hs0,hroom,hna,Addr.add_mid,hst]
         intro h0
         exact absurd h0 (by have:=Nat.mul_pos (Nat.pos_of_ne_zero hm0) hsz; omega)
     · simp only [List.size_toArray,List.length_append,List.length_take,List.length_drop,Array.length_toList]
       omega
     · rw [htake,←hlen]
       exact List.take_left
   · have holds:∀ j u,xs[j]?=some u→w.cell? ((⟨g,0,none⟩ : Addr).add j)=some u:=hown.cells (g:=g) rfl
     have hgr:=grown cap (by omega) (Value.ownBlock (.slice (some ⟨g,0,none⟩) n cap))
     refine ⟨_,_,?_,hgr.1,hgr.2,Or.inr rfl⟩
     have hm0:m≠0:=by omega
     have hs0:i.size≠0:=by omega
     have h63' : ¬ (9223372036854775807 < ((n:Int)+(m:Int))):=by omega
     have hf:=growslice_fits (show cap < n+m by omega) hbytes
     have h48' : ¬ (281474976710656 < Builtin.nextslicecap (n+m) cap * i.bytes):=by omega
     have hfo:=run_firstCells_some (P:=P) w.drew i.size n ⟨g,0,none⟩ n cap xs hown.1 (by simpa using holds)
     simp [Builtin.append_,run_underlying ht,run_underlying hk,asInt,asIntOf,hw,hneg,hmb,sizeOf,typeInfo,zeroValue,hi,hz,hm0,hs0,hroom,h63',h48',Question.forced,hfo,newRow,grownCap,hna]
     have hmi:¬ m * i.size=0:=by have:=Nat.mul_pos (Nat.pos_of_ne_zero hm0) hsz; omega
     rw [if_neg hmi]
     have h9:(xs++news).toArray=xs.toArray++news.toArray:=by simp
     rw [h9,Array.append_assoc]
end
section
variable {C:Cx} {σ:St} {ν:List D} {S:Nat→Prop} {ω:Nat→Option Value} {w:World} {r:List D} {a:Act} {o:Oper} {Q:Exit→Act→World→Prop} {K' : Delta→T}
theorem Fr_grownBy {w w' : World} {row:Option Nat} (h:w.grownBy w' row):Fr w (fun b=>row=some b) w':=⟨h.os,h.tape,h.output,h.size,fun k hk hF=>h.block k hk fun he=>hF he.symm⟩
theorem blk_slice (b:Option Addr) (n c:Nat):∀ x,Blk (.slice b n c) x ↔ (Value.slice b n c).ownBlock=some x:=by
 intro x
 cases b <;> exact Iff.rfl
theorem append_sim {tm:Array Value} (h:Sim C σ ν S ω tm w) (hnb:NbOK σ ω 1) {oo:Option Nat} {v v' : Value} {w' : World} {ob:SObj} (hv:∀ x,Blk v x ↔ v.ownBlock=some x) (hv' : ∀ x,Blk v' x ↔ v'.ownBlock=some x)
 (hold:(oo=none∧v.ownBlock=none) ∨ ∃ o x,oo=some o∧σ.objs[o]?=some x∧x.live=true∧ω o=some v)
 (hg:w.grownBy w' v.ownBlock) (hb:v'.ownBlock=v.ownBlock ∨ v'.ownBlock=some w.heap.size) (hlt:∀ b,v'.ownBlock=some b→b < w'.heap.size)
 (ho:ObjR C.ti w' S (upd1 ω σ.nb v') ν σ.nb ob):Sim C { σ with objs:=place (upds σ.objs (oldOf oo)) σ.nb [ob] } ν S (upd1 ω σ.nb v') tm w':=by
 obtain ⟨hn1,hn2,_⟩:=hnb.one h
 have hfr:=Fr_grownBy hg
 rcases hold with ⟨rfl,hnone⟩ | ⟨o,x,rfl,hx,hl,hω⟩
 · have h2:=h.grow (hfr.mono (G:=fun _=>False) fun b hb=>by rw [hnone] at hb; cases hb)
   refine h2.new hn1 hn2 (fun b _ hbb=>?_) ho
   rw [hv'] at hbb
   rcases hb with hb | hb
   · rw [hb,hnone] at hbb; cases hbb
   · rw [hb] at hbb
     cases hbb
     refine ⟨fun hS=>Nat.lt_irrefl _ (h.stab _ hS),hlt _ hb,.inl h.frame.size,fun o x ho hl he=>?_⟩
     exact Nat.lt_irrefl _ (h.own o x _ ho hl he).2.1
 · have h2:=h.setObj (ob':=.dead) hx hl hω (hfr.mono fun b hb=>(hv b).2 hb) trivial
   have hlen:(σ.objs.set o .dead).length=σ.objs.length:=by simp
   have key:=h2.new (n:=σ.nb) hn1 (by simp only [hlen]; exact hn2) (ob:=ob) (v:=v') (fun b _ hbb=>?_) ?_
   · exact key
   · rw [hv'] at hbb
     rcases hb with hb | hb
     · rw [hb,←hv] at hbb
       have hbb' : OwnB (ω o) b:=by rw [hω]; exact hbb
       obtain ⟨k1,k2,k3⟩:=h.own o x b hx hl hbb'
       refine ⟨k1,Nat.lt_of_lt_of_le k2 hg.size,k3,fun o2 x2 ho2 hl2 he2=>?_⟩
       simp only at ho2
       by_cases heq:o=o2
       · subst heq
         have hlt:o < σ.objs.length:=(List.getElem?_eq_some_iff.1 hx).1
         simp [hlt] at ho2
         subst ho2
         simp [SObj.live] at hl2
       · rw [List.getElem?_set_ne heq] at ho2
         exact heq (h.sep o o2 _ x2 b hx ho2 hl hl2 hbb' he2)
     · rw [hb] at hbb
       cases hbb
       refine ⟨fun hS=>Nat.lt_irrefl _ (h.stab _ hS),hlt _ hb,.inl h.frame.size,fun o2 x2 ho2 hl2 he2=>?_⟩
       have:=h2.own o2 x2 _ ho2 hl2 he2
       simp only at ho2
       by_cases heq:o=o2
       · subst heq
         have hlt:o < σ.objs.length:=(List.getElem?_eq_some_iff.1 hx).1
         simp [hlt] at ho2
         subst ho2
         simp [SObj.live] at hl2
       · rw [List.getElem?_set_ne heq] at ho2
         exact Nat.lt_irrefl _ (h.own o2 x2 _ ho2 hl2 he2).2.1
   · exact ho
structure Src2 (C:Cx) (w:World) (S:Nat→Prop) (t:TypeId) (lv:List K) (agg:Bool) (ds:List D) (v:Value):Prop where
 val:∃ b m c news,v=.slice b m c∧m=ds.length∧news.length=m * lv.length∧RowCells C.ti w S agg lv ds news∧(m=0 ∨ ∃ ad,b=some ad∧∀ j u,news[j]?=some u→w.cell? (ad.add j)=some u)
theorem src_of (h:Sim C σ ν S ω a.tmps w) {t e:TypeId} {agg:Bool} {lv:List K} (hti:C.ti t=.sl e agg lv) {s:SV1} {y:E} {l:List Nat} {v:Value} (hnd:∀ q,s≠.dp q) (hnn:∀ q ts i c t',s≠.nst q ts i c t') (hd:dataOf σ.objs s=some ((.sl t,y),l)) (hs:SR C.ti w S ω ν s v) :
 ∃ ds,y.den ν=.list ds∧Src2 C w S t lv agg ds v:=by
 have plain:∀ {y:E},Rd C.ti w S (.sl t) (y.den ν) v→∃ ds,y.den ν=.list ds∧Src2 C w S t lv agg ds v:=by
  intro y hr
  generalize y.den ν=d at hr
  cases hr with
  | sl0 _ b cap=>exact ⟨[],rfl,⟨b,0,cap,[],rfl,rfl,by simp,fun j c k hj=>by simp at hj,.inl rfl⟩⟩
  | sl _ e' agg' lv' xs b off cap u hti' hcap hS hc hr =>
   rw [hti] at hti'
   cases hti'
   have hlvp:∀ q,q < xs.length * lv.length→q / lv.length < xs.length∧q % lv.length < lv.length∧q / lv.length * lv.length+q % lv.length=q:=by
    intro q hq
    have hp:0 < lv.length:=by
     rcases Nat.eq_zero_or_pos lv.length with h0 | h0
     · rw [h0] at hq; simp at hq
     · exact h0
    refine ⟨Nat.div_lt_of_lt_mul (by rw [Nat.mul_comm]; exact hq),Nat.mod_lt _ hp,?_⟩
    have:=Nat.div_add_mod q lv.length
    rw [Nat.mul_comm] at this
    exact this
   refine ⟨xs,rfl,⟨_,xs.length,cap,(List.range (xs.length * lv.length)).map fun q=>u (q / lv.length) (q % lv.length),rfl,rfl,by simp,fun j c k hj hk=>?_,.inr ⟨_,rfl,fun q v' hq=>?_⟩⟩⟩
   · have hcl:c < lv.length:=(List.getElem?_eq_some_iff.1 hk).1
     have hlt:j * lv.length+c < xs.length * lv.length:=by
      calc j * lv.length+c < j * lv.length+lv.length:=by omega
       _=(j+1) * lv.length:=by rw [Nat.add_mul]; simp
       _≤_:=Nat.mul_le_mul_right _ hj
     have hp:0 < lv.length:=by omega
     have e1:(j * lv.length+c) / lv.length=j:=by
      rw [Nat.mul_comm,Nat.mul_add_div hp,Nat.div_eq_of_lt hcl,Nat.add_zero]
     have e2:(j * lv.length+c) % lv.length=c:=by
      rw [Nat.mul_comm,Nat.mul_add_mod,Nat.mod_eq_of_lt hcl]
     have e3:((List.range (xs.length * lv.length)).map fun q=>u (q / lv.length) (q % lv.length)).getD (j * lv.length+c) undef=u j c:=by
      rw [List.getD_eq_getElem?_getD,List.getElem?_map,List.getElem?_range hlt]
      simp only [Option.map_some,Option.getD_some,e1,e2]
     rw [e3]
     exact hr j c k hj hk
   · have hlt:q < xs.length * lv.length:=by
      have:=(List.getElem?_eq_some_iff.1 hq).1
      simpa using this
     rw [List.getElem?_map,List.getElem?_range hlt] at hq
     simp only [Option.map_some,Option.some.injEq] at hq
     subst hq
     obtain ⟨h1,h2,h3⟩:=hlvp q hlt
     rw [Addr.add_mid]
     have:=hc (q / lv.length) (q % lv.length) h1 h2
     rw [h3] at this
     exact this
 cases s with
 | e k' x' =>
  simp only [dataOf,Option.some.injEq,Prod.mk.injEq] at hd
  obtain ⟨⟨rfl,rfl⟩,rfl⟩:=hd
  exact plain hs
 | nil t' =>
  simp only [dataOf,Option.some.injEq,Prod.mk.injEq] at hd
  obtain ⟨⟨_,rfl⟩,rfl⟩:=hd
  obtain rfl:=hs
  exact plain (y:=.nil) (.sl0 t none 0)
 | own ob =>
  obtain ⟨hω,_⟩:=hs
  simp only [dataOf] at hd
  split at hd
  · rename_i t' y' hob
    simp only [Option.some.injEq,Prod.mk.injEq,K.sl.injEq] at hd
    obtain ⟨⟨rfl,rfl⟩,rfl⟩:=hd
    obtain ⟨v',e',agg',lv',ds,vs,hω',hti',hden,hown,hrc⟩:=h.objs ob _ hob
    rw [hω] at hω'
    cases hω'
    rw [hti] at hti'
    cases hti'
    refine ⟨ds,hden,?_⟩
    rcases hown.2 with ⟨rfl,hn⟩ | ⟨g,cap,cur,rfl,_⟩
    · exact ⟨none,0,0,vs,rfl,hn.symm,by rw [hown.1,hn],hrc,.inl rfl⟩
    · exact ⟨_,ds.length,cap,vs,rfl,rfl,hown.1,hrc,.inr ⟨_,rfl,hown.cells rfl⟩⟩
  · rename_i t' y' hob
    simp only [Option.some.injEq,Prod.mk.injEq,K.sl.injEq] at hd
    obtain ⟨⟨rfl,rfl⟩,rfl⟩:=hd
    obtain ⟨v',hω',hr⟩:=h.objs ob _ hob
    rw [hω] at hω'
    cases hω'
    exact plain hr
  · cases hd
 | dp q=>exact absurd rfl (hnd q)
 | nst q ts i c t'=>exact absurd rfl (hnn q ts i c t')
 | _=>simp [dataOf] at hd
theorem RowCells.app {ti:TypeId→TI} {agg:Bool} {lv:List K} {ds es:List D} {vs us:List Value} (h:RowCells ti w S agg lv ds vs) (hl:vs.length=ds.length * lv.length) (k:RowCells ti w S agg lv es us):RowCells ti w S agg lv (ds++es) (vs++us):=by
 intro j c kk hj hk
 have hc:c < lv.length:=(List.getElem?_eq_some_iff.1 hk).1
 by_cases hjd:j < ds.length
 · have hlt:j * lv.length+c < ds.length * lv.length:=by
    calc j * lv.length+c < j * lv.length+lv.length:=by omega
     _=(j+1) * lv.length:=by rw [Nat.add_mul]; simp
     _≤_:=Nat.mul_le_mul_right _ hjd
   have e1:(ds++es).getD j default=ds.getD j default:=by rw [List.getD_eq_getElem?_getD,List.getD_eq_getElem?_getD,List.getElem?_append_left hjd]
   have e2:(vs++us).getD (j * lv.length+c) undef=vs.getD (j * lv.length+c) undef:=by rw [List.getD_eq_getElem?_getD,List.getD_eq_getElem?_getD,List.getElem?_append_left (by omega)]
   rw [e1,e2]
   exact h j c kk hjd hk
 · have hge:ds.length * lv.length≤j * lv.length:=Nat.mul_le_mul_right _ (by omega)
   have e1:(ds++es).getD j default=es.getD (j - ds.length) default:=by rw [List.getD_eq_getElem?_getD,List.getD_eq_getElem?_getD,List.getElem?_append_right (by omega)]
   have e2:(vs++us).getD (j * lv.length+c) undef=us.getD ((j - ds.length) * lv.length+c) undef:=by
    rw [List.getD_eq_getElem?_getD,List.getD_eq_getElem?_getD,List.getElem?_append_right (by omega),hl,Nat.sub_mul]
    congr 2
    omega
   rw [e1,e2]
   rw [List.length_append] at hj
   exact k (j - ds.length) c kk (by omega) hk
theorem appE_den (x y:E) (ν:List D) {ds es:List D} (hx:x.den ν=.list ds) (hy:y.den ν=.list es):(appE x y).den ν=.list (ds++es):=by
 unfold appE
 split
 · have hx' : D.list []=.list ds:=hx
   cases hx'
   simpa using hy
 · have hy' : D.list []=.list es:=hy
   cases hy'
   simpa using hx
 · simp [E.den,O2.den,hx,hy,D.toList]
theorem append_exec {c:Call} {s x:Operand} {t t2:TypeId} (ho:o.op=.call c) (hc:c.callee=.builtin .append) (ha:c.args.toList=[s,x]) (ht:c.argTypes.toList=[t,t2]) {v:Value} {w' : World} (hrun:(Builtin.append_ #[t,t2] o.type #[a.eval s,a.eval x]).run C.P w=.ok v w') :
 (execOp a.eval o).run C.P w=.ok (.value v) w':=by
 have h1:c.args=#[s,x]:=Array.toList_inj.1 (by simpa using ha)
 have h2:c.argTypes=#[t,t2]:=Array.toList_inj.1 (by simpa using ht)
 unfold execOp
 simp [ho,resolve,hc,h1,h2,invoke,builtin,hrun]
section
variable (hT:TyOK C.P C.ti) (h:Sim C σ ν S ω a.tmps w) (hnb:NbOK σ ω 1) {c:Call} {s x:Operand} {t t2:TypeId} (ho:o.op=.call c) (hc:c.callee=.builtin .append) (ha:c.args.toList=[s,x]) (ht:c.argTypes.toList=[t,t2])
include hT h hnb ho hc ha ht
theorem appTo_sound {e:TypeId} {agg:Bool} {lv:List K} (hti:C.ti t=.sl e agg lv) {oo:Option Nat} {w0 y:E} {v v' : Value} {w' : World} {ds es:List D} {vs us:List Value} (hsv:a.eval s=v)
 (hold:(oo=none∧v=.slice none 0 0) ∨ ∃ o x,oo=some o∧σ.objs[o]?=some x∧x.live=true∧ω o=some v∧∃ b n c,v=.slice b n c)
 (hrun:(Builtin.append_ #[t,t2] o.type #[a.eval s,a.eval x]).run C.P w=.ok v' w') (hown:w'.ownsRow 0 e lv.length v' (ds.length+es.length) (vs++us)) (hg:w.grownBy w' v.ownBlock) (hb:v'.ownBlock=v.ownBlock ∨ v'.ownBlock=some w.heap.size)
 (h0:w0.den ν=.list ds) (h1:y.den ν=.list es) (hvl:vs.length=ds.length * lv.length) (hr1:RowCells C.ti w S agg lv ds vs) (hr2:RowCells C.ti w S agg lv es us)
 (hr:(appTo t w0 y oo σ K').Run C.R ν r):o.wp C.P a w (Post C σ ω o.dst K' r a.defers) Q:=by
 have hbv:∀ x,Blk v x ↔ v.ownBlock=some x:=by
  rcases hold with ⟨_,rfl⟩ | ⟨_,_,_,_,_,_,b,n,c,rfl⟩
  · exact blk_slice none 0 0
  · exact blk_slice b n c
 have hform:(∃ b n c,v'=.slice b n c)∧∀ b,v'.ownBlock=some b→b < w'.heap.size:=by
  refine ⟨?_,fun b hb=>(hown.lt b hb).2⟩
  rcases hown.2 with ⟨rfl,_⟩ | ⟨g,cap,cur,rfl,_⟩
  · exact ⟨_,_,_,rfl⟩
  · exact ⟨_,_,_,rfl⟩
 obtain ⟨⟨b',n',c',hv'⟩,hlt⟩:=hform
 have hbv' : ∀ x,Blk v' x ↔ v'.ownBlock=some x:=by rw [hv']; exact blk_slice _ _ _
 have hSw:∀ b,S b→w'.heap[b]?=w.heap[b]?:=by
  intro b hS
  refine hg.block b (h.stab b hS) fun he=>?_
  rcases hold with ⟨_,rfl⟩ | ⟨o1,x1,_,hx1,hl1,hω1,_⟩
  · cases he
  · exact (h.own o1 x1 b hx1 hl1 (by rw [hω1]; exact (hbv b).2 he.symm)).1 hS
 have hsim:=append_sim h hnb (oo:=oo) (ob:=.row t (appE w0 y)) hbv hbv' (by
  rcases hold with ⟨h1,rfl⟩ | ⟨o1,x1,h1,hx1,hl1,hω1,_⟩
  · exact .inl ⟨h1,rfl⟩
  · exact .inr ⟨o1,x1,h1,hx1,hl1,hω1⟩) hg hb hlt ⟨v',e,agg,lv,ds++es,vs++us,upd1_self _ _ _,hti,appE_den w0 y ν h0 h1,by rw [List.length_append]; exact hown,RowCells.mono (RowCells.app hr1 hvl hr2) hSw fun _ h=>h⟩
 refine post_val (S':=S) (ω':=upd1 ω σ.nb v') (append_exec ho hc ha ht hrun) hr ?_ (NewAt.upd _ _ _) ⟨upd1_self _ _ _,b',n',c',hv'⟩
 exact hsim.app_of (by simp [St.objsOf,freeze_nil]) rfl
theorem zeroEl_cell {agg:Bool} {lv:List K} (h1:agg=false→lv.length=1) {z:Value} (hz:All2 (fun k v=>ZeroV (some k) v) lv z.cells.toList) {c:Nat} {k:K} (hk:lv[c]?=some k):∃ u,z.cells[c]?=some u∧Rd C.ti w S k (cellD agg c ((zeroEl agg lv).den ν)) u:=by
 obtain ⟨u,hu,hzu⟩:=hz.get hk
 refine ⟨u,by simpa using hu,?_⟩
 have key:(cellD agg c ((zeroEl agg lv).den ν))=(zeroE k).den ν:=by
  unfold zeroEl cellD
  cases agg with
  | true =>
   simp only [if_true]
   rw [aggE_cell,List.getD_eq_getElem?_getD,List.getElem?_map,List.getElem?_map,hk]
   rfl
  | false =>
   have hc:c < lv.length:=(List.getElem?_eq_some_iff.1 hk).1
   have:=h1 rfl
   have hc0:c=0:=by omega
   subst hc0
   cases lv with
   | nil=>simp at hk
   | cons k0 l=>simp at hk; subst hk; rfl
 rw [key]
 cases k with
 | int k=>obtain rfl:=hzu; exact .int _ _
 | bool=>obtain rfl:=hzu; exact .bool _
 | str=>obtain rfl:=hzu; exact .str _
 | sl t=>obtain rfl:=hzu; exact .sl0 t none 0
theorem run_cells {e:TypeId} {agg:Bool} {lv:List K} (hti:C.ti t=.sl e agg lv) {b:Option Addr} {m cc:Nat} {news:List Value} (hxv:a.eval x=.slice b m cc) (hnl:news.length=m * lv.length) (hone:∀ u,u∈news→u.oneCell'=true)
 (hnc:m=0 ∨ ∃ ad,b=some ad∧∀ j u,news[j]?=some u→w.cell? (ad.add j)=some u) (htt:t2=t) {v:Value} {n:Nat} {vs:List Value} (hv:a.eval s=v) (hown:w.ownsRow 0 e lv.length v n vs) (hn:n≤1073741824) (hes:m≤1073741824) :
 ∃ v' w',(Builtin.append_ #[t,t2] o.type #[a.eval s,a.eval x]).run C.P w=.ok v' w'∧w'.ownsRow 0 e lv.length v' (n+m) (vs++news)∧w.grownBy w' v.ownBlock∧(v'.ownBlock=v.ownBlock ∨ v'.ownBlock=some w.heap.size):=by
 subst htt
 obtain ⟨hu,he,j,z,hj,hjs,hlv,hby,hz,hzz,hone'⟩:=sl_row hT hti
 have hzs:z.cells.size=lv.length:=by rw [←Array.length_toList (xs:=z.cells),←hzz.length]
 have hmx:maxLen=9223372036854775807:=rfl
 rcases hnc with h0 | ⟨ad,hba,hcell⟩
 · have hnn:news=[]:=List.eq_nil_of_length_eq_zero (by rw [hnl,h0]; simp)
   have hsrc:Src C.P j.size t2 (.slice b m cc) 0 [] w:=by
    rw [h0]
    cases b with
    | none=>exact Src.ofNil w hu cc
    | some ad=>exact Src.ofSlice w hu ad 0 cc [] (by simp) (by simp) (by simp)
   obtain ⟨vb,vn,vc,hvv,hle⟩ : ∃ vb vn vc,v=.slice vb vn vc∧vn≤vc:=by
    rcases hown.2 with ⟨rfl,hn⟩ | ⟨g,cap,cur,rfl,_,_,hle,_⟩
    · exact ⟨_,_,_,rfl,Nat.le_refl _⟩
    · exact ⟨_,_,_,rfl,hle⟩
   refine ⟨v,w,?_,?_,⟨rfl,rfl,rfl,Nat.le_refl _,fun _ _ _=>rfl⟩,.inl rfl⟩
   · rw [hv,hxv,hvv]
     exact run_append_nothing w t2 t2 o.type e j hu hj vb vn vc hle _ hsrc
   · rw [hnn,h0,List.append_nil,Nat.add_zero]
     exact hown
 · have hbytes:(n+m) * j.bytes≤140737488355328:=by
    calc (n+m) * j.bytes≤2147483648 * 65536:=Nat.mul_le_mul (by omega) hby
     _≤_:=by decide
   obtain ⟨v',w',h1,h2,h3,_,h5⟩:=run_append_own_at (P:=C.P) w 0 t2 o.type e j z lv.length j.bytes hu hj hz hjs rfl hzs hlv v n vs hown ad m cc news hnl hcell hone (by rw [hmx]; omega) hbytes (Nat.zero_le _)
   exact ⟨v',w',by rw [hv,hxv,hba]; exact h1,h2,h3,h5⟩
theorem deep_one {ob:Nat} {t:TypeId} {x:E} {u:Value} (hob:ObjR C.ti w S ω ν ob (.deep t x)) (hω:ω ob=some u):∀ v,v∈tlV u→v.oneCell'=true:=by
 obtain ⟨u',e,lv,ds,hω',hti,hx,hown,hcells,_,_⟩:=hob
 rw [hω] at hω'
 obtain rfl:=Option.some.inj hω'
 intro v hv
 obtain ⟨q,hq⟩:=List.mem_iff_getElem?.1 hv
 have hql:q < ds.length * lv.length:=by rw [←hown.1]; exact (List.getElem?_eq_some_iff.1 hq).1
 have hp:0 < lv.length:=by
  rcases Nat.eq_zero_or_pos lv.length with h0 | h0
  · rw [h0] at hql; simp at hql
  · exact h0
 have hqd:q / lv.length < ds.length:=Nat.div_lt_of_lt_mul (by rw [Nat.mul_comm]; exact hql)
 have hqm:q % lv.length < lv.length:=Nat.mod_lt _ hp
 have he:q / lv.length * lv.length+q % lv.length=q:=by
  have:=Nat.div_add_mod q lv.length
  rw [Nat.mul_comm] at this
  exact this
 have hh:=hcells (q / lv.length) (q % lv.length) lv[q % lv.length] hqd (List.getElem?_eq_getElem hqm)
 have hnq:(tlV u).getD q undef=v:=by rw [List.getD_eq_getElem?_getD,hq]; rfl
 rw [he,hnq] at hh
 exact (hh.rd (S':=fun _=>True) fun _ _=>trivial).one
theorem stepAppD_sound {o1 o2:Nat} (hs:SR C.ti w S ω ν (.dp o1) (a.eval s)) (hx:SR C.ti w S ω ν (.dp o2) (a.eval x)) (hr:(stepAppD t t2 o1 o2 σ K').Run C.R ν r):o.wp C.P a w (Post C σ ω o.dst K' r a.defers) Q:=by
 unfold stepAppD at hr
 split at hr
 · rename_i t' w0 t1 y hob1 hob2
   split at hr
   · rename_i hcnd
     obtain ⟨rfl,rfl,htt,hne⟩:=hcnd
     obtain ⟨h1,hr⟩:=ckLe_sound h hr
     obtain ⟨h2,hr⟩:=ckLe_sound h hr
     obtain ⟨u,hu,hhd,hform⟩:=hs
     obtain ⟨u1,hu1,hhd1,hform1⟩:=hx
     have hone1:=deep_one hT h hnb ho hc ha ht (h.objs o2 _ hob2) hu1
     obtain ⟨u',e,lv,ds,hω',hti,hden,hown,hcells,hinj,hap⟩:=h.objs o1 _ hob1
     rw [hu] at hω'
     obtain rfl:=Option.some.inj hω'
     obtain ⟨u',e',lv',es,hω',hti',hden1,hown1,hcells1,hinj1,hap1⟩:=h.objs o2 _ hob2
     rw [hu1] at hω'
     obtain rfl:=Option.some.inj hω'
     rw [hti] at hti'
     cases hti'
     rw [lenE_den,hden] at h1
     rw [lenE_den,hden1] at h2
     have h1:(ds.length:Int)≤1073741824:=h1
     have h2:(es.length:Int)≤1073741824:=h2
     obtain ⟨b,cc,hxv,hnc⟩ : ∃ b cc,a.eval x=.slice b es.length cc∧(es.length=0 ∨ ∃ ad,b=some ad∧∀ j v,(tlV u1)[j]?=some v→w.cell? (ad.add j)=some v):=by
      rcases hown1.2 with ⟨hv,hn⟩ | ⟨g,cap,cur,hv,_⟩
      · exact ⟨none,0,by rw [←hhd1,hv,hn],.inl hn⟩
      · exact ⟨_,cap,by rw [←hhd1,hv],.inr ⟨_,rfl,hown1.cells (by rw [hv]; rfl)⟩⟩
     obtain ⟨v',w',hrun,hown',hg,hb⟩:=run_cells hT h hnb ho hc ha ht hti hxv hown1.1 hone1 hnc htt hhd.symm hown (by omega) (by omega)
     obtain ⟨b',n',c',hv'⟩ : ∃ b n c,v'=.slice b n c:=by
      rcases hown'.2 with ⟨rfl,_⟩ | ⟨g,cap,cur,rfl,_⟩
      · exact ⟨_,_,_,rfl⟩
      · exact ⟨_,_,_,rfl⟩
     have hbo:∀ (v:Value),(∃ b n c,v=.slice b n c)→v.ownBlock=blk v:=by
      rintro v ⟨b,n,c,rfl⟩
      cases b <;> rfl
     have hhu:∃ b n c,hdV u=.slice b n c:=by rw [hhd]; exact hform
     rw [hbo _ hhu] at hg hb
     rw [hbo _ ⟨b',n',c',hv'⟩] at hb
     have hlt' : ∀ b,blk v'=some b→b < w'.heap.size:=fun b hb=>(hown'.lt b (by rw [hbo _ ⟨b',n',c',hv'⟩]; exact hb)).2
     have hOwn1:∀ b,Blk u b→¬ S b∧b < w.heap.size∧(C.w0.heap.size≤b ∨ C.F b):=fun b hb=>h.own o1 _ b hob1 rfl (by rw [hu]; exact hb)
     have hOwn2:∀ b,Blk u1 b→¬ S b∧b < w.heap.size∧(C.w0.heap.size≤b ∨ C.F b):=fun b hb=>h.own o2 _ b hob2 rfl (by rw [hu1]; exact hb)
     have hSep:∀ b,Blk u b→¬ Blk u1 b:=fun b h3 h4=>hne (h.sep o1 o2 _ _ b hob1 hob2 rfl rfl (by rw [hu]; exact h3) (by rw [hu1]; exact h4))
     -- the blocks of nested rows are as they were
     have hnin:∀ p b,nblk ((tlV u).getD p undef) b→Blk u b:=by
      intro p b hp
      by_cases hpl:p < (tlV u).length
      · exact (Blk_iff _ _).2 (.inr ⟨_,mem_getD_of hpl,hp⟩)
      · rw [List.getD_eq_getElem?_getD,List.getElem?_eq_none (by omega)] at hp
        exact hp.elim
     have hnin1:∀ p b,nblk ((tlV u1).getD p undef) b→Blk u1 b:=by
      intro p b hp
      by_cases hpl:p < (tlV u1).length
      · exact (Blk_iff _ _).2 (.inr ⟨_,mem_getD_of hpl,hp⟩)
      · rw [List.getD_eq_getElem?_getD,List.getElem?_eq_none (by omega)] at hp
        exact hp.elim
     have hkeep:∀ b,b < w.heap.size→blk (hdV u)≠some b→w'.heap[b]?=w.heap[b]?:=fun b h3 h4=>hg.block b h3 fun he=>h4 he.symm
     have hk1:∀ p b,nblk ((tlV u).getD p undef) b→w'.heap[b]?=w.heap[b]?:=fun p b hp=>hkeep b (hOwn1 b (hnin p b hp)).2.1 (hap p b hp)
     have hk2:∀ p b,nblk ((tlV u1).getD p undef) b→w'.heap[b]?=w.heap[b]?:=fun p b hp=>hkeep b (hOwn2 b (hnin1 p b hp)).2.1 fun he=>hSep b ((Blk_iff _ _).2 (.inl he)) (hnin1 p b hp)
     have hgetL:∀ p,p < ds.length * lv.length→(tlV u++tlV u1).getD p undef=(tlV u).getD p undef:=fun p hp=>by
      rw [List.getD_eq_getElem?_getD,List.getD_eq_getElem?_getD,List.getElem?_append_left (by rw [hown.1]; exact hp)]
     have hgetR:∀ p,ds.length * lv.length≤p→(tlV u++tlV u1).getD p undef=(tlV u1).getD (p - ds.length * lv.length) undef:=fun p hp=>by
      rw [List.getD_eq_getElem?_getD,List.getD_eq_getElem?_getD,List.getElem?_append_right (by rw [hown.1]; exact hp),hown.1]
     generalize hU:Value.agg (v'::(tlV u++tlV u1)).toArray=U
     have hUh:hdV U=v':=by rw [←hU]; simp [hdV]
     have hUt:tlV U=tlV u++tlV u1:=by rw [←hU]; simp [tlV]
     have hUb:∀ b,Blk U b→blk v'=some b ∨ Blk u b ∨ Blk u1 b:=by
      intro b hb
      rcases (Blk_iff _ _).1 hb with h3 | ⟨v,hv,h3⟩
      · rw [hUh] at h3; exact .inl h3
      · rw [hUt] at hv
        rcases List.mem_append.1 hv with hv | hv
        · exact .inr (.inl ((Blk_iff _ _).2 (.inr ⟨v,hv,h3⟩)))
        · exact .inr (.inr ((Blk_iff _ _).2 (.inr ⟨v,hv,h3⟩)))
     obtain ⟨hn1,hn2,hn3⟩:=hnb.one h
     have hfr:=Fr_grownBy hg
     have s1:=h.setObj (ob':=.dead) hob1 rfl hu (hfr.mono fun b hb=>(Blk_iff _ _).2 (.inl hb)) trivial
     have s2:=s1.kill o2
     have hobj:ObjR C.ti w' S (upd1 ω σ.nb U) ν σ.nb (.deep t1 (appE w0 y)):=by
      refine ⟨U,e,lv,ds++es,upd1_self _ _ _,hti,appE_den w0 y ν hden hden1,by rw [hUh,hUt,List.length_append]; exact hown',fun j c k hj hk=>?_,fun p q b hp hq=>?_,fun p b hp=>?_⟩
      · rw [hUt]
        rw [List.length_append] at hj
        have hcl:c < lv.length:=(List.getElem?_eq_some_iff.1 hk).1
        by_cases hjd:j < ds.length
        · have e1:(ds++es).getD j default=ds.getD j default:=by rw [List.getD_eq_getElem?_getD,List.getD_eq_getElem?_getD,List.getElem?_append_left hjd]
          rw [e1,hgetL _ (cellIdx_lt hjd hcl)]
          exact (hcells j c k hjd hk).mono fun b hb=>hk1 _ b hb
        · have hge:ds.length * lv.length≤j * lv.length:=Nat.mul_le_mul_right _ (by omega)
          have e1:(ds++es).getD j default=es.getD (j - ds.length) default:=by rw [List.getD_eq_getElem?_getD,List.getD_eq_getElem?_getD,List.getElem?_append_right (by omega)]
          have e2:j * lv.length+c - ds.length * lv.length=(j - ds.length) * lv.length+c:=by
           rw [Nat.sub_mul]
           omega
          rw [e1,hgetR _ (by omega),e2]
          exact (hcells1 (j - ds.length) c k (by omega) hk).mono fun b hb=>hk2 _ b hb
      · rw [hUt] at hp hq
        rcases Nat.lt_or_ge p (ds.length * lv.length) with h3 | h3 <;> rcases Nat.lt_or_ge q (ds.length * lv.length) with h4 | h4
        · rw [hgetL p h3] at hp
          rw [hgetL q h4] at hq
          exact hinj p q b hp hq
        · rw [hgetL p h3] at hp
          rw [hgetR q h4] at hq
          exact (hSep b (hnin _ b hp) (hnin1 _ b hq)).elim
        · rw [hgetR p h3] at hp
          rw [hgetL q h4] at hq
          exact (hSep b (hnin _ b hq) (hnin1 _ b hp)).elim
        · rw [hgetR p h3] at hp
          rw [hgetR q h4] at hq
          have:=hinj1 _ _ b hp hq
          omega
      · rw [hUt] at hp
        rw [hUh]
        intro he
        rcases Nat.lt_or_ge p (ds.length * lv.length) with h3 | h3
        · rw [hgetL p h3] at hp
          rcases hb with hb | hb
          · rw [hb] at he; exact hap p b hp he
          · rw [hb] at he
            cases he
            exact Nat.lt_irrefl _ (hOwn1 _ (hnin _ _ hp)).2.1
        · rw [hgetR p h3] at hp
          rcases hb with hb | hb
          · rw [hb] at he; exact hSep b ((Blk_iff _ _).2 (.inl he)) (hnin1 _ b hp)
          · rw [hb] at he
            cases he
            exact Nat.lt_irrefl _ (hOwn2 _ (hnin1 _ _ hp)).2.1
     have hlen2:((σ.objs.set o1 .dead).set o2 .dead).length=σ.objs.length:=by simp
     have alive:∀ {q:Nat} {z:SObj},((σ.objs.set o1 .dead).set o2 .dead)[q]?=some z→z.live=true→σ.objs[q]?=some z∧q≠o1∧q≠o2:=by
      intro q z hq hl
      by_cases e2:o2=q
      · subst e2
        have:o2 < (σ.objs.set o1 SObj.dead).length:=by rw [List.length_set]; exact (List.getElem?_eq_some_iff.1 hob2).1
        rw [List.getElem?_set_self this] at hq
        cases hq
        cases hl
      · rw [List.getElem?_set_ne e2] at hq
        by_cases e1:o1=q
        · subst e1
          rw [List.getElem?_set_self (List.getElem?_eq_some_iff.1 hob1).1] at hq
          cases hq
          cases hl
        · rw [List.getElem?_set_ne e1] at hq
          exact ⟨hq,fun e=>e1 e.symm,fun e=>e2 e.symm⟩
     have s3:=s2.new (n:=σ.nb) hn1 (by show σ.nb≤((σ.objs.set o1 .dead).set o2 .dead).length; rw [hlen2]; exact hn2) (ob:=.deep t1 (appE w0 y)) (v:=U) (fun b _ hbb=>by
      have old:∀ (q:Nat) (z:SObj),σ.objs[q]?=some z→z.live=true→OwnB (ω q) b→¬ S b∧b < w'.heap.size∧(C.w0.heap.size≤b ∨ C.F b):=fun q z h3 h4 h5=>by
       obtain ⟨k1,k2,k3⟩:=h.own q z b h3 h4 h5
       exact ⟨k1,Nat.lt_of_lt_of_le k2 hg.size,k3⟩
      have fin1:Blk u b→¬ S b∧b < w'.heap.size∧(C.w0.heap.size≤b ∨ C.F b)∧∀ (q:Nat) (z:SObj),((σ.objs.set o1 .dead).set o2 .dead)[q]?=some z→z.live=true→¬ OwnB (ω q) b:=fun hbu=>by
       obtain ⟨k1,k2,k3⟩:=old o1 _ hob1 rfl (by rw [hu]; exact hbu)
       refine ⟨k1,k2,k3,fun q z hq hl he=>?_⟩
       obtain ⟨g1,g2,g3⟩:=alive hq hl
       exact g2 (h.sep q o1 z _ b g1 hob1 hl rfl he (by rw [hu]; exact hbu))
      have fin2:Blk u1 b→¬ S b∧b < w'.heap.size∧(C.w0.heap.size≤b ∨ C.F b)∧∀ (q:Nat) (z:SObj),((σ.objs.set o1 .dead).set o2 .dead)[q]?=some z→z.live=true→¬ OwnB (ω q) b:=fun hbu=>by
       obtain ⟨k1,k2,k3⟩:=old o2 _ hob2 rfl (by rw [hu1]; exact hbu)
       refine ⟨k1,k2,k3,fun q z hq hl he=>?_⟩
       obtain ⟨g1,g2,g3⟩:=alive hq hl
       exact g3 (h.sep q o2 z _ b g1 hob2 hl rfl he (by rw [hu1]; exact hbu))
      rcases hUb b hbb with h3 | h3 | h3
      · rcases hb with hb | hb
        · rw [hb] at h3
          exact fin1 ((Blk_iff _ _).2 (.inl h3))
        · have hlt:=hlt' b h3
          rw [hb] at h3
          cases h3
          refine ⟨fun hS=>Nat.lt_irrefl _ (h.stab _ hS),hlt,.inl h.frame.size,fun q z hq hl he=>?_⟩
          exact Nat.lt_irrefl _ (h.own q z _ (alive hq hl).1 hl he).2.1
      · exact fin1 h3
      · exact fin2 h3) hobj
     refine post_val (S':=S) (ω':=upd1 ω σ.nb U) (append_exec ho hc ha ht hrun) hr ?_ (NewAt.upd _ _ _) ⟨U,upd1_self _ _ _,hUh,b',n',c',hv'⟩
     have s4:Sim C { σ with objs:=place ((σ.objs.set o1 .dead).set o2 .dead) σ.nb [.deep t1 (appE w0 y)] } ν S (upd1 ω σ.nb U) a.tmps w':=s3
     exact Sim.app_of s4 (by simp [St.objsOf,freeze_nil,upds]) rfl
   · exact hr.elim
 · exact hr.elim
theorem stepAppend_sound {sv xv:SV1} (hs:SR C.ti w S ω ν sv (a.eval s)) (hx:SR C.ti w S ω ν xv (a.eval x)) (hr:(stepAppend C.ti t t2 sv xv σ K').Run C.R ν r):o.wp C.P a w (Post C σ ω o.dst K' r a.defers) Q:=by
 unfold stepAppend at hr
 split at hr
 · rename_i e agg lv hti
   obtain ⟨hu,he,j,z,hj,hjs,hlv,hby,hz,hzz,hone⟩:=sl_row hT hti
   have hzs:z.cells.size=lv.length:=by rw [←Array.length_toList (xs:=z.cells),←hzz.length]
   have hmx:maxLen=9223372036854775807:=rfl
   split at hr
   · exact stepAppD_sound hT h hnb ho hc ha ht hs hx hr
   · exact hr.elim
   · exact hr.elim
   rename_i hno1 hno2 hno3
   split at hr
   · rename_i htt
     subst htt
     split at hr
     · rename_i kx y l hd
       split at hr
       · rename_i hkx
         subst hkx
         obtain ⟨es,hy,⟨b,m,cc,news,hxv,hm,hnl,hnr,hnc⟩⟩:=src_of h hti (fun q e=>hno1 q e) (fun q ts i c t' e=>hno2 q ts i c t' e) hd hx
         -- the run
         have run:∀ {v:Value} {n:Nat} {vs:List Value},a.eval s=v→w.ownsRow 0 e lv.length v n vs→n≤1073741824→es.length≤1073741824 →
          ∃ v' w',(Builtin.append_ #[t2,t2] o.type #[a.eval s,a.eval x]).run C.P w=.ok v' w'∧w'.ownsRow 0 e lv.length v' (n+es.length) (vs++news)∧w.grownBy w' v.ownBlock∧(v'.ownBlock=v.ownBlock ∨ v'.ownBlock=some w.heap.size):=by
          intro v n vs hv hown hn hes
          rcases hnc with h0 | ⟨ad,hba,hcell⟩
          · have hnn:news=[]:=List.eq_nil_of_length_eq_zero (by rw [hnl,h0]; simp)
            have hsrc:Src C.P j.size t2 (.slice b m cc) 0 [] w:=by
             rw [h0]
             cases b with
             | none=>exact Src.ofNil w hu cc
             | some ad=>exact Src.ofSlice w hu ad 0 cc [] (by simp) (by simp) (by simp)
            have hes0:es.length=0:=by omega
            obtain ⟨vb,vn,vc,hvv,hle⟩ : ∃ vb vn vc,v=.slice vb vn vc∧vn≤vc:=by
             rcases hown.2 with ⟨rfl,hn⟩ | ⟨g,cap,cur,rfl,_,_,hle,_⟩
             · exact ⟨_,_,_,rfl,Nat.le_refl _⟩
             · exact ⟨_,_,_,rfl,hle⟩
            refine ⟨v,w,?_,?_,⟨rfl,rfl,rfl,Nat.le_refl _,fun _ _ _=>rfl⟩,.inl rfl⟩
            · rw [hv,hxv,hvv]
              exact run_append_nothing w t2 t2 o.type e j hu hj vb vn vc hle _ hsrc
            · rw [hnn,hes0,List.append_nil,Nat.add_zero]
              exact hown
          · have hbytes:(n+es.length) * j.bytes≤140737488355328:=by
             calc (n+es.length) * j.bytes≤2147483648 * 65536:=Nat.mul_le_mul (by omega) hby
              _≤_:=by decide
            obtain ⟨v',w',h1,h2,h3,_,h5⟩:=run_append_own_at (P:=C.P) w 0 t2 o.type e j z lv.length j.bytes hu hj hz hjs rfl hzs hlv v n vs hown ad m cc news hnl hcell (fun u hu=>by
             obtain ⟨q,hq⟩:=List.mem_iff_getElem?.1 hu
             have hql:q < m * lv.length:=by rw [←hnl]; exact (List.getElem?_eq_some_iff.1 hq).1
             have hqd:q / lv.length < es.length:=by rw [←hm]; exact Nat.div_lt_of_lt_mul (by rw [Nat.mul_comm]; exact hql)
             have hqm:q % lv.length < lv.length:=Nat.mod_lt _ hlv
             have hh:=hnr (q / lv.length) (q % lv.length) lv[q % lv.length] hqd (List.getElem?_eq_getElem hqm)
             have he:q / lv.length * lv.length+q % lv.length=q:=by
              have:=Nat.div_add_mod q lv.length
              rw [Nat.mul_comm] at this
              exact this
             have hnq:news.getD q undef=u:=by rw [List.getD_eq_getElem?_getD,hq]; rfl
             rw [he,hnq] at hh
             exact hh.one) (by rw [hmx,hm]; omega) (by rw [hm]; exact hbytes) (Nat.zero_le _)
            rw [hm] at h2
            exact ⟨v',w',by rw [hv,hxv,hba]; exact h1,h2,h3,h5⟩
         unfold stepApp at hr
         split at hr
         · obtain ⟨h1,hr⟩:=ckLe_sound h hr
           rw [lenE_den,hy] at h1
           have h1:(es.length:Int)≤1073741824:=h1
           have hv:a.eval s=.slice none 0 0:=hs
           obtain ⟨v',w',hrun,hown,hg,hb⟩:=run hv (World.ownsRow_nil w 0 e lv.length) (by omega) (by omega)
           exact appTo_sound hT h hnb ho hc ha ht hti (ds:=[]) (vs:=[]) hv (.inl ⟨rfl,rfl⟩) hrun (by simpa using hown) hg hb rfl hy (by simp) (fun j c k hj=>by simp at hj) hnr hr
         · rename_i ob
           split at hr
           · rename_i t' w0 hob
             split at hr
             · rename_i hcnd
               obtain ⟨rfl,hnl2⟩:=hcnd
               obtain ⟨h1,hr⟩:=ckLe_sound h hr
               obtain ⟨h2,hr⟩:=ckLe_sound h hr
               obtain ⟨hω,hform⟩:=hs
               obtain ⟨v,e',agg',lv',ds,vs,hω',hti',hden,hown0,hrc⟩:=h.objs ob _ hob
               rw [hω] at hω'
               cases hω'
               rw [hti] at hti'
               cases hti'
               rw [lenE_den,hden] at h1
               rw [lenE_den,hy] at h2
               have h1:(ds.length:Int)≤1073741824:=h1
               have h2:(es.length:Int)≤1073741824:=h2
               obtain ⟨v',w',hrun,hown,hg,hb⟩:=run rfl hown0 (by omega) (by omega)
               exact appTo_sound hT h hnb ho hc ha ht hti (ds:=ds) (vs:=vs) rfl (.inr ⟨ob,_,rfl,hob,rfl,hω,hform⟩) hrun hown hg hb hden hy hown0.1 hrc hnr hr
             · exact hr.elim
           · exact hr.elim
         · exact hr.elim
       · exact hr.elim
     · exact hr.elim
   · split at hr
     · rename_i n ik h2
       have hk:=int_und hT h2
       obtain ⟨_,hxv⟩:=Rd.int_inv hx
       have hz1:∀ u,u∈z.cells.toList→u.oneCell'=true:=by
        intro u hu
        obtain ⟨q,hq⟩:=List.mem_iff_getElem?.1 hu
        have hql:q < lv.length:=by rw [hzz.length]; exact (List.getElem?_eq_some_iff.1 hq).1
        obtain ⟨u',hu',hzu⟩:=hzz.get (List.getElem?_eq_getElem hql)
        rw [hq] at hu'
        cases hu'
        exact (zero_sound (C:=C) (w:=w) (S:=S) (ω:=ω) (ν:=ν) hzu).one
       have hrz:∀ m:Nat,RowCells C.ti w S agg lv (List.replicate m ((zeroEl agg lv).den ν)) (Builtin.zeroCells z.cells m).toList:=by
        intro m j' c' k hj' hk'
        rw [List.length_replicate] at hj'
        have hc' : c' < lv.length:=(List.getElem?_eq_some_iff.1 hk').1
        obtain ⟨u,hu1,hu2⟩:=zeroEl_cell hT h hnb ho hc ha ht (w:=w) (S:=S) (ν:=ν) hone hzz hk'
        have e1:(List.replicate m ((zeroEl agg lv).den ν)).getD j' default=(zeroEl agg lv).den ν:=by
         rw [List.getD_eq_getElem?_getD,List.getElem?_replicate,if_pos hj']; rfl
        have hlt:j' * lv.length+c' < m * z.cells.size:=by
         rw [hzs]
         calc j' * lv.length+c' < j' * lv.length+lv.length:=by omega
          _=(j'+1) * lv.length:=by rw [Nat.add_mul]; simp
          _≤_:=Nat.mul_le_mul_right _ hj'
        have e2:(Builtin.zeroCells z.cells m).toList.getD (j' * lv.length+c') undef=u:=by
         rw [List.getD_eq_getElem?_getD]
         simp only [Builtin.zeroCells,Array.toList_map,List.getElem?_map,Array.toList_range]
         rw [List.getElem?_range hlt]
         simp only [Option.map_some,Option.getD_some]
         have e3:(j' * lv.length+c') % z.cells.size=c':=by
          rw [hzs,Nat.mul_comm,Nat.mul_add_mod,Nat.mod_eq_of_lt hc']
         rw [e3,getElem!_pos z.cells _ (by rw [hzs]; exact hc')]
         rw [Array.getElem?_eq_getElem (by rw [hzs]; exact hc')] at hu1
         exact Option.some.inj hu1
        rw [e1,e2]
        exact hu2
       have run:∀ {v:Value} {m:Nat} {vs:List Value},a.eval s=v→w.ownsRow 0 e lv.length v m vs→m≤1073741824→0≤(n.den ν).toInt→(n.den ν).toInt≤1073741824 →
        ∃ v' w',(Builtin.append_ #[t,t2] o.type #[a.eval s,a.eval x]).run C.P w=.ok v' w'∧w'.ownsRow 0 e lv.length v' (m+(n.den ν).toInt.toNat) (vs++(Builtin.zeroCells z.cells (n.den ν).toInt.toNat).toList)∧w.grownBy w' v.ownBlock∧(v'.ownBlock=v.ownBlock ∨ v'.ownBlock=some w.heap.size):=by
        intro v m vs hv hown hm h0 h1
        have hbytes:(m+(n.den ν).toInt.toNat) * j.bytes≤140737488355328:=by
         calc (m+(n.den ν).toInt.toNat) * j.bytes≤2147483648 * 65536:=Nat.mul_le_mul (by omega) hby
          _≤_:=by decide
        have:=run_append_zeros (P:=C.P) w 0 t t2 o.type e ik j z lv.length hu hk hj hz hjs hzs hlv hz1 v m vs hown (n.den ν).toInt.toNat (by omega) (by rw [hmx]; omega) hbytes (Nat.zero_le _)
        rw [Int.toNat_of_nonneg h0] at this
        rw [hv,hxv]
        exact this
       have hden2:(E.o2 .rep (zeroEl agg lv) n).den ν=.list (List.replicate (n.den ν).toInt.toNat ((zeroEl agg lv).den ν)):=rfl
       unfold stepZeros at hr
       split at hr
       · obtain ⟨h0,hr⟩:=ckLe_sound h hr
         obtain ⟨h1,hr⟩:=ckLe_sound h hr
         have hv:a.eval s=.slice none 0 0:=hs
         obtain ⟨v',w',hrun,hown,hg,hb⟩:=run hv (World.ownsRow_nil w 0 e lv.length) (by omega) h0 h1
         exact appTo_sound hT h hnb ho hc ha ht hti (ds:=[]) (vs:=[]) hv (.inl ⟨rfl,rfl⟩) hrun (by simpa using hown) hg hb rfl hden2 (by simp) (fun j c k hj=>by simp at hj) (hrz _) hr
       · rename_i ob
         split at hr
         · rename_i t' w0 hob
           split at hr
           · rename_i htt'
             subst htt'
             obtain ⟨h0,hr⟩:=ckLe_sound h hr
             obtain ⟨h1,hr⟩:=ckLe_sound h hr
             obtain ⟨h3,hr⟩:=ckLe_sound h hr
             obtain ⟨hω,hform⟩:=hs
             obtain ⟨v,e',agg',lv',ds,vs,hω',hti',hden,hown0,hrc⟩:=h.objs ob _ hob
             rw [hω] at hω'
             cases hω'
             rw [hti] at hti'
             cases hti'
             rw [lenE_den,hden] at h3
             have h3:(ds.length:Int)≤1073741824:=h3
             obtain ⟨v',w',hrun,hown,hg,hb⟩:=run rfl hown0 (by omega) h0 h1
             exact appTo_sound hT h hnb ho hc ha ht hti (ds:=ds) (vs:=vs) rfl (.inr ⟨ob,_,rfl,hob,rfl,hω,hform⟩) hrun (by simpa using hown) hg hb hden hden2 hown0.1 hrc (hrz _) hr
           · exact hr.elim
         · exact hr.elim
       · exact hr.elim
     · exact hr.elim
 · exact hr.elim
end
end
end Go.SX
