/-
slices.Delete of one element, at elements of several cells: the cells behind it move up, the last ones are cleared.
-/
import Derived.Shelf.RegionOpenPlain
import Derived.WalkKit
import Derived.Deep.LoopGhost
import Derived.Deep.RegionLaw
import Derived.Lib.Walk
import Derived.Sort.WalkB12
import Derived.Lib.SliceRun
import Derived.Lib.SlicesDelete
import Derived.Test.YtjhggmcdjbcolaaGreatProg
import Derived.Laws.CopyRow
import Derived.Test.YtjhggmcdjbcolaaGreatSzCall
set_option linter.unusedVariables false
set_option linter.unusedSimpArgs false
set_option linter.unusedSectionVars false
namespace Go.Proofs
open Go.Shelf Go.RowKit Go.Lib Go.Sort
theorem setCells_row {P:Program} {w:World} {g o:Nat} {t:TypeId} {cur:Array Value} {vs:List Value} (hg:w.heap[g]?=some (.cells cur t (0,0))) (hl:o+vs.length≤cur.size) (h1:∀ v∈vs,v.oneCell'=true) :
 w.setCells g o vs=w.setRow g (cur.toList.take o++vs++cur.toList.drop (o+vs.length)).toArray:=by
 have e1:=run_storeCells_at P g o t vs 0 cur w hg (by simpa using hl) h1
 have hcell:∀ j,j < vs.length→w.cell? ⟨g,o+j,none⟩=some cur[o+j]!:=by
  intro j hj
  have hlt:o+j < cur.size:=by omega
  simp [World.cell?,hg,hlt]
 have e2:=run_storeCells_cells (P:=P) g o vs 0 w (fun j hj=>by rw [Nat.add_zero,hcell j hj]; rfl) (fun j hj=>by simp [World.frozen?,hg]) h1
 rw [e1] at e2
 simp only [Nat.add_zero] at e2
 injection e2 with e3 e4
 exact e4.symm
theorem run_clear_cells {P:Program} (w:World) (t e ty:TypeId) (z:Value) (ht:P.underlying t=some (.slice e)) (hv:∀ w,(zeroValue e).run P w=.ok z w) (h1:∀ m u,u∈(Builtin.zeroCells z.cells m).toList→u.oneCell'=true) (b o n c:Nat) (hn:0 < n)
 (hc:∀ j,j < n * z.cells.size→(w.cell? ⟨b,o+j,none⟩).isSome=true) (hf:∀ j,j < n * z.cells.size→w.frozen? ⟨b,o+j,none⟩=false) :
 (Builtin.clear_ #[t] ty #[.slice (some ⟨b,o,none⟩) n c]).run P w=.ok (.tuple #[]) (w.setCells b o (Builtin.zeroCells z.cells n).toList):=by
 have hl:(Builtin.zeroCells z.cells n).toList.length=n * z.cells.size:=by rw [Array.length_toList (xs:=Builtin.zeroCells z.cells n),size_zeroCells]
 have hst:=run_storeCells_cells (P:=P) b o (Builtin.zeroCells z.cells n).toList 0 w (by rw [hl]; simpa using hc) (by rw [hl]; simpa using hf) (h1 n)
 simp only [Nat.add_zero] at hst
 obtain ⟨m,rfl⟩ : ∃ m,n=m+1:=⟨n - 1,by omega⟩
 simp [Builtin.clear_,run_underlying ht,hv,hst]
set_option maxHeartbeats 4000000 in
set_option maxRecDepth 1000000 in
theorem Tryz.del210 (g n cap i j:Nat) (cur:Array Value) (w:World) (hg:w.heap[g]?=some (.cells cur 79 (0,0))) (hcs:cur.size=cap * 3) (hnc:n≤cap) (hm:cap≤9223372036854775807) (hij:i < j) (hj:j≤n) (hone:∀ u,u∈cur.toList.take (n * 3)→u.oneCell'=true) :
 Calls Tryz.prog 210 #[.slice (some ⟨g,0,none⟩) n cap,.int .i64 i,.int .i64 j] w fun e w'=>e=.returned (.slice (some ⟨g,0,none⟩) (n - (j - i)) cap) ∧
  w'=(w.drew.setCells g (i * 3) ((cur.toList.take (n * 3)).drop (j * 3))).setCells g ((i+(n - j)) * 3) (Builtin.zeroCells #[.int .i64 0,.int .i64 0,.slice none 0 0] (j - i)).toList:=by
 have hinf:((Tryz.prog.info? 79).isSome&&((Tryz.prog.info? 79).map (·.size) == some 3))=true:=by kernel_rfl
 obtain ⟨i0,hi0,hz1⟩ : ∃ i0,Tryz.prog.info? 79=some i0∧i0.size=3:=by
  cases h:Tryz.prog.info? 79 with
  | none=>rw [h] at hinf; simp at hinf
  | some i0=>rw [h] at hinf; exact ⟨i0,rfl,by simpa using hinf⟩
 obtain ⟨news,hnews⟩ : ∃ news,news=(cur.toList.take (n * 3)).drop (j * 3):=⟨_,rfl⟩
 have hcl0:cur.toList.length=cur.size:=Array.length_toList (xs:=cur)
 have hncs:n * 3≤cur.size:=by rw [hcs]; exact Nat.mul_le_mul_right _ hnc
 have hlen:news.length=(n - j) * 3:=by rw [hnews,List.length_drop,List.length_take,hcl0]; omega
 have hget:∀ t,t < (n - j) * 3→news[t]?=cur[j * 3+t]?:=by
  intro t ht
  rw [hnews,List.getElem?_drop,List.getElem?_take,if_pos (by omega),Array.getElem?_toList]
 have hcell:∀ t,w.drew.cell? ⟨g,t,none⟩=cur[t]?:=by
  intro t
  show (match w.heap[g]? with | some (.cells c _ _)=>if (none:Option _).isSome then none else c[t]? | _=>none)=_
  rw [hg]
  rfl
 have hfro:∀ t,w.drew.frozen? ⟨g,t,none⟩=false:=by
  intro t
  have h0:w.drew.frozen? ⟨g,t,none⟩=w.frozen? ⟨g,t,none⟩:=rfl
  rw [h0]
  simp [World.frozen?,hg]
 obtain ⟨A,hA,hsrc⟩ : ∃ A:Addr,(if cap=j then some (⟨g,0,none⟩ : Addr) else some ⟨g,j * 3,none⟩)=some A∧Hid (∀ t u,news[t]?=some u→w.drew.cell? (A.add t)=some u):=by
  by_cases h:cap=j
  · refine ⟨⟨g,0,none⟩,by simp [h],fun t u hu=>?_⟩
    have h0:news.length=0:=by rw [hlen]; omega
    rw [List.length_eq_zero_iff.1 h0] at hu
    simp at hu
  · refine ⟨⟨g,j * 3,none⟩,by simp [h],fun t u hu=>?_⟩
    have ht:t < (n - j) * 3:=by
     have:=(List.getElem?_eq_some_iff.1 hu).1
     rwa [hlen] at this
    rw [hget t ht] at hu
    rw [Addr.add_lit,hcell]
    exact hu
 have s1:Hid (news.length=(n - j) * 3):=hlen
 have s2:Hid (∀ u∈news,u.oneCell'=true):=by
  intro u hu
  rw [hnews] at hu
  exact hone u (List.mem_of_mem_drop hu)
 have s3:Hid (∀ t,t < news.length→(w.drew.cell? ⟨g,0+i * 3+t,none⟩).isSome=true∧w.drew.frozen? ⟨g,0+i * 3+t,none⟩=false):=by
  intro t ht
  rw [hlen] at ht
  refine ⟨?_,hfro _⟩
  rw [hcell,Array.getElem?_eq_getElem (by omega)]
  rfl
 obtain ⟨W1,hW1⟩ : ∃ W1,W1=w.drew.setCells g (0+i * 3) news:=⟨_,rfl⟩
 have hrow1:W1=w.drew.setRow g (cur.toList.take (0+i * 3)++news++cur.toList.drop (0+i * 3+news.length)).toArray:=by
  rw [hW1]
  exact setCells_row (P:=Tryz.prog) (t:=79) (w:=w.drew) hg (by rw [hlen]; omega) s2
 have hg1:W1.heap[g]?=some (.cells (cur.toList.take (0+i * 3)++news++cur.toList.drop (0+i * 3+news.length)).toArray 79 (0,0)):=by
  rw [hrow1]
  exact setRow_heap _ g cur _ 79 _ hg
 have hsz1:(cur.toList.take (0+i * 3)++news++cur.toList.drop (0+i * 3+news.length)).toArray.size=cur.size:=by
  rw [List.size_toArray,List.length_append,List.length_append,List.length_take,List.length_drop,hlen,hcl0]
  omega
 have hcl:∀ ty,(Builtin.clear_ #[35] ty #[.slice (some ⟨g,(i+(n - j)) * 3,none⟩) (n - (i+(n - j))) (cap - (i+(n - j)))]).run Tryz.prog W1=.ok (.tuple #[]) (W1.setCells g ((i+(n - j)) * 3) (Builtin.zeroCells #[.int .i64 0,.int .i64 0,.slice none 0 0] (n - (i+(n - j)))).toList):=by
  intro ty
  refine run_clear_cells W1 35 79 ty (.agg #[.int .i64 0,.int .i64 0,.slice none 0 0]) Tryz.underlying35 Tryz.zeroValue79 (fun m u hu=>?_) g _ _ _ (by omega) (fun t ht=>?_) (fun t ht=>?_)
  · simp only [Builtin.zeroCells,Value.cells,Array.toList_map,List.mem_map] at hu
    obtain ⟨q,hq,rfl⟩:=hu
    have hlt:q % 3 < 3:=Nat.mod_lt _ (by omega)
    show ((#[.int .i64 0,.int .i64 0,.slice none 0 0]:Array Value)[q % 3]!).oneCell'=true
    generalize q % 3=r at hlt
    have:r=0 ∨ r=1 ∨ r=2:=by omega
    rcases this with rfl | rfl | rfl <;> rfl
  · have ht:t < (n - (i+(n - j))) * 3:=ht
    have hlt:(i+(n - j)) * 3+t < cur.size:=by omega
    simp [World.cell?,hg1,hsz1]
    omega
  · simp [World.frozen?,hg1]
 have hW:Hid (W1=w.drew.setCells g (0+i * 3) news):=hW1
 have X:Aside (W1=w.drew.setCells g (i * 3) ((cur.toList.take (n * 3)).drop (j * 3))):=by rw [hW1,hnews,Nat.zero_add]; trivial
 have hic:i≤cap:=by omega
 have hjc:j≤cap:=by omega
 clear hW1 hrow1 hg1 hsz1 hcell hfro hget hnews hlen hone
 go_enter Tryz.func210,Tryz.ntmps210
 go_wp2_with fail
 go_region_law_o (refine step_append_room rfl (.tmp 22) (.tmp 25) 35 rfl 79 i0 3 Tryz.underlying35 hi0 hz1 g 0 i cap (by simp [Act.eval,Act.put]) A (n - j) (cap - j) news (by simp [Act.eval,Act.put]) s1.out hsrc.out s2.out (by omega) s3.out ?_; rw [←hW.out])
 go_wp2
 go_ret
 refine ⟨by rw [show n - (j - i)=i+(n - j) by omega]; rfl,?_⟩
 rw [←X.out,show j - i=n - (i+(n - j)) by omega]
set_option maxHeartbeats 4000000 in
set_option maxRecDepth 1000000 in
theorem Tryz.del211 (g n cap i j:Nat) (cur:Array Value) (w:World) (hg:w.heap[g]?=some (.cells cur 84 (0,0))) (hcs:cur.size=cap * 4) (hnc:n≤cap) (hm:cap≤9223372036854775807) (hij:i < j) (hj:j≤n) (hone:∀ u,u∈cur.toList.take (n * 4)→u.oneCell'=true) :
 Calls Tryz.prog 211 #[.slice (some ⟨g,0,none⟩) n cap,.int .i64 i,.int .i64 j] w fun e w'=>e=.returned (.slice (some ⟨g,0,none⟩) (n - (j - i)) cap) ∧
  w'=(w.drew.setCells g (i * 4) ((cur.toList.take (n * 4)).drop (j * 4))).setCells g ((i+(n - j)) * 4) (Builtin.zeroCells #[.int .i64 0,.int .i64 0,.int .i64 0,.int .i64 0] (j - i)).toList:=by
 have hinf:((Tryz.prog.info? 84).isSome&&((Tryz.prog.info? 84).map (·.size) == some 4))=true:=by kernel_rfl
 obtain ⟨i0,hi0,hz1⟩ : ∃ i0,Tryz.prog.info? 84=some i0∧i0.size=4:=by
  cases h:Tryz.prog.info? 84 with
  | none=>rw [h] at hinf; simp at hinf
  | some i0=>rw [h] at hinf; exact ⟨i0,rfl,by simpa using hinf⟩
 obtain ⟨news,hnews⟩ : ∃ news,news=(cur.toList.take (n * 4)).drop (j * 4):=⟨_,rfl⟩
 have hcl0:cur.toList.length=cur.size:=Array.length_toList (xs:=cur)
 have hncs:n * 4≤cur.size:=by rw [hcs]; exact Nat.mul_le_mul_right _ hnc
 have hlen:news.length=(n - j) * 4:=by rw [hnews,List.length_drop,List.length_take,hcl0]; omega
 have hget:∀ t,t < (n - j) * 4→news[t]?=cur[j * 4+t]?:=by
  intro t ht
  rw [hnews,List.getElem?_drop,List.getElem?_take,if_pos (by omega),Array.getElem?_toList]
 have hcell:∀ t,w.drew.cell? ⟨g,t,none⟩=cur[t]?:=by
  intro t
  show (match w.heap[g]? with | some (.cells c _ _)=>if (none:Option _).isSome then none else c[t]? | _=>none)=_
  rw [hg]
  rfl
 have hfro:∀ t,w.drew.frozen? ⟨g,t,none⟩=false:=by
  intro t
  have h0:w.drew.frozen? ⟨g,t,none⟩=w.frozen? ⟨g,t,none⟩:=rfl
  rw [h0]
  simp [World.frozen?,hg]
 obtain ⟨A,hA,hsrc⟩ : ∃ A:Addr,(if cap=j then some (⟨g,0,none⟩ : Addr) else some ⟨g,j * 4,none⟩)=some A∧Hid (∀ t u,news[t]?=some u→w.drew.cell? (A.add t)=some u):=by
  by_cases h:cap=j
  · refine ⟨⟨g,0,none⟩,by simp [h],fun t u hu=>?_⟩
    have h0:news.length=0:=by rw [hlen]; omega
    rw [List.length_eq_zero_iff.1 h0] at hu
    simp at hu
  · refine ⟨⟨g,j * 4,none⟩,by simp [h],fun t u hu=>?_⟩
    have ht:t < (n - j) * 4:=by
     have:=(List.getElem?_eq_some_iff.1 hu).1
     rwa [hlen] at this
    rw [hget t ht] at hu
    rw [Addr.add_lit,hcell]
    exact hu
 have s1:Hid (news.length=(n - j) * 4):=hlen
 have s2:Hid (∀ u∈news,u.oneCell'=true):=by
  intro u hu
  rw [hnews] at hu
  exact hone u (List.mem_of_mem_drop hu)
 have s3:Hid (∀ t,t < news.length→(w.drew.cell? ⟨g,0+i * 4+t,none⟩).isSome=true∧w.drew.frozen? ⟨g,0+i * 4+t,none⟩=false):=by
  intro t ht
  rw [hlen] at ht
  refine ⟨?_,hfro _⟩
  rw [hcell,Array.getElem?_eq_getElem (by omega)]
  rfl
 obtain ⟨W1,hW1⟩ : ∃ W1,W1=w.drew.setCells g (0+i * 4) news:=⟨_,rfl⟩
 have hrow1:W1=w.drew.setRow g (cur.toList.take (0+i * 4)++news++cur.toList.drop (0+i * 4+news.length)).toArray:=by
  rw [hW1]
  exact setCells_row (P:=Tryz.prog) (t:=84) (w:=w.drew) hg (by rw [hlen]; omega) s2
 have hg1:W1.heap[g]?=some (.cells (cur.toList.take (0+i * 4)++news++cur.toList.drop (0+i * 4+news.length)).toArray 84 (0,0)):=by
  rw [hrow1]
  exact setRow_heap _ g cur _ 84 _ hg
 have hsz1:(cur.toList.take (0+i * 4)++news++cur.toList.drop (0+i * 4+news.length)).toArray.size=cur.size:=by
  rw [List.size_toArray,List.length_append,List.length_append,List.length_take,List.length_drop,hlen,hcl0]
  omega
 have hcl:∀ ty,(Builtin.clear_ #[36] ty #[.slice (some ⟨g,(i+(n - j)) * 4,none⟩) (n - (i+(n - j))) (cap - (i+(n - j)))]).run Tryz.prog W1=.ok (.tuple #[]) (W1.setCells g ((i+(n - j)) * 4) (Builtin.zeroCells #[.int .i64 0,.int .i64 0,.int .i64 0,.int .i64 0] (n - (i+(n - j)))).toList):=by
  intro ty
  refine run_clear_cells W1 36 84 ty (.agg #[.int .i64 0,.int .i64 0,.int .i64 0,.int .i64 0]) Tryz.underlying36 Tryz.zeroValue84 (fun m u hu=>?_) g _ _ _ (by omega) (fun t ht=>?_) (fun t ht=>?_)
  · simp only [Builtin.zeroCells,Value.cells,Array.toList_map,List.mem_map] at hu
    obtain ⟨q,hq,rfl⟩:=hu
    have hlt:q % 4 < 4:=Nat.mod_lt _ (by omega)
    show ((#[.int .i64 0,.int .i64 0,.int .i64 0,.int .i64 0]:Array Value)[q % 4]!).oneCell'=true
    generalize q % 4=r at hlt
    have:r=0 ∨ r=1 ∨ r=2 ∨ r=3:=by omega
    rcases this with rfl | rfl | rfl | rfl <;> rfl
  · have ht:t < (n - (i+(n - j))) * 4:=ht
    have hlt:(i+(n - j)) * 4+t < cur.size:=by omega
    simp [World.cell?,hg1,hsz1]
    omega
  · simp [World.frozen?,hg1]
 have hW:Hid (W1=w.drew.setCells g (0+i * 4) news):=hW1
 have X:Aside (W1=w.drew.setCells g (i * 4) ((cur.toList.take (n * 4)).drop (j * 4))):=by rw [hW1,hnews,Nat.zero_add]; trivial
 have hic:i≤cap:=by omega
 have hjc:j≤cap:=by omega
 clear hW1 hrow1 hg1 hsz1 hcell hfro hget hnews hlen hone
 go_enter Tryz.func211,Tryz.ntmps211
 go_wp2_with fail
 go_region_law_o (refine step_append_room rfl (.tmp 22) (.tmp 25) 36 rfl 84 i0 4 Tryz.underlying36 hi0 hz1 g 0 i cap (by simp [Act.eval,Act.put]) A (n - j) (cap - j) news (by simp [Act.eval,Act.put]) s1.out hsrc.out s2.out (by omega) s3.out ?_; rw [←hW.out])
 go_wp2
 go_ret
 refine ⟨by rw [show n - (j - i)=i+(n - j) by omega]; rfl,?_⟩
 rw [←X.out,show j - i=n - (i+(n - j)) by omega]
end Go.Proofs
namespace Go.SX
open Go.RowKit Go.Proofs
def DelWalk (P:Program) (f:FuncId) (e:TypeId) (k:Nat) (z:Array Value):Prop :=
 ∀ (g n cap i j:Nat) (cur:Array Value) (w:World),w.heap[g]?=some (.cells cur e (0,0))→cur.size=cap * k→n≤cap→cap≤9223372036854775807→i < j→j≤n→(∀ u,u∈cur.toList.take (n * k)→u.oneCell'=true) →
  Calls P f #[.slice (some ⟨g,0,none⟩) n cap,.int .i64 i,.int .i64 j] w fun e w'=>e=.returned (.slice (some ⟨g,0,none⟩) (n - (j - i)) cap) ∧
   w'=(w.drew.setCells g (i * k) ((cur.toList.take (n * k)).drop (j * k))).setCells g ((i+(n - j)) * k) (Builtin.zeroCells z (j - i)).toList
def delSigD (f t:Nat):Sig:={ f:=f,inS:=[.v (.c (.dp 0)),.v (.c (.e (.int .i64) (.v 1))),.v (.c (.e (.int .i64) (.v 2)))],inO:=[.deep t (.v 0)],nIn:=3,outS:=[.c (.dp 1)],outO:=[.dead,.deep t (.v 0)],nOut:=1,flat:=true }
def delSig (f t:Nat):Sig:={ f:=f,inS:=[.v (.c (.own 0)),.v (.c (.e (.int .i64) (.v 1))),.v (.c (.e (.int .i64) (.v 2)))],inO:=[.row t (.v 0)],nIn:=3,outS:=[.c (.own 1)],outO:=[.dead,.row t (.v 0)],nOut:=1,flat:=true }
def DelR (ds r:List D):Prop:=∃ (xs:List D) (i:Nat),ds=[.list xs,.int i,.int ((i+1:Nat):Int)]∧i < xs.length∧r=[.list (xs.take i++xs.drop (i+1))]
theorem cut_get {α:Type} (l:List α) (i q:Nat):(l.take i++l.drop (i+1))[q]?=if q < i then l[q]? else l[q+1]?:=by
 by_cases hi:i≤l.length
 · have hl:(l.take i).length=i:=by rw [List.length_take]; omega
   by_cases h:q < i
   · rw [if_pos h,List.getElem?_append_left (by omega),List.getElem?_take,if_pos h]
   · rw [if_neg h,List.getElem?_append_right (by omega),hl,List.getElem?_drop]
     congr 1
     omega
 · rw [List.take_of_length_le (by omega),List.drop_eq_nil_of_le (by omega),List.append_nil]
   split
   · rfl
   · rw [List.getElem?_eq_none (by omega),List.getElem?_eq_none (by omega)]
theorem cutK_get {α:Type} (l:List α) (i k q:Nat):(l.take (i * k)++l.drop ((i+1) * k))[q]?=if q < i * k then l[q]? else l[q+k]?:=by
 by_cases hi:i * k≤l.length
 · have hl:(l.take (i * k)).length=i * k:=by rw [List.length_take]; omega
   by_cases h:q < i * k
   · rw [if_pos h,List.getElem?_append_left (by omega),List.getElem?_take,if_pos h]
   · rw [if_neg h,List.getElem?_append_right (by omega),hl,List.getElem?_drop]
     congr 1
     rw [Nat.add_mul]
     omega
 · have hm:i * k≤(i+1) * k:=Nat.mul_le_mul_right _ (by omega)
   rw [List.take_of_length_le (by omega),List.drop_eq_nil_of_le (by omega),List.append_nil]
   split
   · rfl
   · rw [List.getElem?_eq_none (by omega),List.getElem?_eq_none (by omega)]
theorem cut_len {α:Type} (l:List α) {i:Nat} (h:i < l.length):(l.take i++l.drop (i+1)).length=l.length - 1:=by
 rw [List.length_append,List.length_take,List.length_drop]; omega
theorem cutK_len {α:Type} (l:List α) {i k n:Nat} (hl:l.length=n * k) (h:i < n):(l.take (i * k)++l.drop ((i+1) * k)).length=(n - 1) * k:=by
 have h1:(i+1) * k≤n * k:=Nat.mul_le_mul_right _ h
 rw [List.length_append,List.length_take,List.length_drop,hl,Nat.sub_mul]
 rw [Nat.add_mul] at h1 ⊢
 omega
section
variable {P:Program} {ti:TypeId→TI}
theorem del_world (P:Program) {e:TypeId} {k:Nat} {z:Array Value} (hzs:z.size=k) (hz1:∀ m u,u∈(Builtin.zeroCells z m).toList→u.oneCell'=true) {w:World} {g n cap i:Nat} {cur:Array Value} {vs:List Value} (hg:w.heap[g]?=some (.cells cur e (0,0))) (hcs:cur.size=cap * k) (hnc:n≤cap) (hi:i < n)
 (htk:cur.toList.take (n * k)=vs) (hvl:vs.length=n * k) (hone:∀ u,u∈vs→u.oneCell'=true) :
 ∃ cur',(w.drew.setCells g (i * k) ((cur.toList.take (n * k)).drop ((i+1) * k))).setCells g ((i+(n - (i+1))) * k) (Builtin.zeroCells z ((i+1) - i)).toList=(w.drew.setRow g cur')∧cur'.size=cap * k∧cur'.toList.take ((n - 1) * k)=vs.take (i * k)++vs.drop ((i+1) * k):=by
 have hcl:cur.toList.length=cur.size:=Array.length_toList (xs:=cur)
 have hncs:n * k≤cur.size:=by rw [hcs]; exact Nat.mul_le_mul_right _ hnc
 have hik:(i+1) * k≤n * k:=Nat.mul_le_mul_right _ hi
 have hik2:(i+1) * k=i * k+k:=by rw [Nat.add_mul,Nat.one_mul]
 have hn1:(n - 1) * k=n * k - k:=by rw [Nat.sub_mul,Nat.one_mul]
 rw [htk]
 have e1:=setCells_row (P:=P) (t:=e) (w:=w.drew) (g:=g) (o:=i * k) (vs:=vs.drop ((i+1) * k)) (cur:=cur) hg (by rw [List.length_drop,hvl]; omega) fun v hv=>hone v (List.mem_of_mem_drop hv)
 rw [e1]
 generalize hc1:(cur.toList.take (i * k)++vs.drop ((i+1) * k)++cur.toList.drop (i * k+(vs.drop ((i+1) * k)).length)).toArray=cur1
 have hl1:cur1.toList=cur.toList.take (i * k)++vs.drop ((i+1) * k)++cur.toList.drop (i * k+(vs.drop ((i+1) * k)).length):=by rw [←hc1]
 have hs1:cur1.size=cur.size:=by
  rw [←Array.length_toList (xs:=cur1),hl1,List.length_append,List.length_append,List.length_take,List.length_drop,List.length_drop,hvl]
  omega
 have hg1:(w.drew.setRow g cur1).heap[g]?=some (.cells cur1 e (0,0)):=setRow_heap _ g cur _ e _ hg
 have hzl:(Builtin.zeroCells z ((i+1) - i)).toList.length=k:=by
  rw [Array.length_toList (xs:=Builtin.zeroCells z ((i+1) - i)),size_zeroCells,hzs]
  simp
 have hpos:(i+(n - (i+1))) * k=(n - 1) * k:=by congr 1; omega
 rw [hpos]
 have e2:=setCells_row (P:=P) (t:=e) (w:=w.drew.setRow g cur1) (g:=g) (o:=(n - 1) * k) (vs:=(Builtin.zeroCells z ((i+1) - i)).toList) (cur:=cur1) hg1 (by rw [hzl,hs1]; omega) (hz1 _)
 rw [e2]
 generalize hc2:(cur1.toList.take ((n - 1) * k)++(Builtin.zeroCells z ((i+1) - i)).toList++cur1.toList.drop ((n - 1) * k+(Builtin.zeroCells z ((i+1) - i)).toList.length)).toArray=cur2
 have hl2:cur2.toList=cur1.toList.take ((n - 1) * k)++(Builtin.zeroCells z ((i+1) - i)).toList++cur1.toList.drop ((n - 1) * k+(Builtin.zeroCells z ((i+1) - i)).toList.length):=by rw [←hc2]
 have hcl1:cur1.toList.length=cur1.size:=Array.length_toList (xs:=cur1)
 refine ⟨cur2,?_,?_,?_⟩
 · unfold World.setRow
   simp only [World.mk.injEq,and_true]
   apply Array.ext_getElem?
   intro q
   rw [Array.getElem?_modify,Array.getElem?_modify,Array.getElem?_modify]
   split
   · cases w.drew.heap[q]? with
     | none=>rfl
     | some ob=>cases ob <;> rfl
   · rfl
 · rw [←Array.length_toList (xs:=cur2),hl2,List.length_append,List.length_append,List.length_take,List.length_drop,hzl,hcl1,hs1,←hcs]
   omega
 · rw [hl2,List.append_assoc,List.take_append_of_le_length (by rw [List.length_take,hcl1,hs1]; omega),List.take_take,Nat.min_self,hl1]
   have h3:(cur.toList.take (i * k)++vs.drop ((i+1) * k)).length=(n - 1) * k:=by
    rw [List.length_append,List.length_take,List.length_drop,hvl,hcl]; omega
   rw [List.take_append_of_le_length (by omega),List.take_of_length_le (by omega)]
   congr 1
   rw [←htk,List.take_take,Nat.min_eq_left (by omega)]
theorem del_args {w:World} {S:Nat→Prop} {ω:Nat→Option Value} {xs:List D} {i:Nat} {a:SV1} {vs:List Value} (h:All2 (SlotR ti w S ω [.list xs,.int i,.int ((i+1:Nat):Int)]) [.v (.c a),.v (.c (.e (.int .i64) (.v 1))),.v (.c (.e (.int .i64) (.v 2)))] vs) :
 ∃ v,vs=[v,.int .i64 i,.int .i64 ((i+1:Nat):Int)]∧SR ti w S ω [.list xs,.int i,.int ((i+1:Nat):Int)] a v:=by
 cases h with
 | cons h1 h=>cases h with
  | cons h2 h=>cases h with
   | cons h3 h=>cases h with
    | nil =>
     obtain ⟨_,rfl⟩:=Rd.int_inv (show Rd ti w S (.int .i64) (.int i) _ from h2)
     obtain ⟨_,rfl⟩:=Rd.int_inv (show Rd ti w S (.int .i64) (.int ((i+1:Nat):Int)) _ from h3)
     exact ⟨_,rfl,h1⟩
theorem del_row {f t e:Nat} {lv:List K} {z:Array Value} (hti:ti t=.sl e true lv) (hk:0 < lv.length) (hzs:z.size=lv.length) (hz1:∀ m u,u∈(Builtin.zeroCells z m).toList→u.oneCell'=true) (eF:∀ args w,(callFunc f args).run P w=.ok (.enter f args) w) (hw:DelWalk P f e lv.length z) :
 SigOK P ti (delSig f t) DelR:=by
 intro ν rs vs0 w S F ω hR hE
 obtain ⟨xs,i,rfl,hi,rfl⟩:=hR
 obtain ⟨v,rfl,hω,_⟩:=del_args (a:=.own 0) hE.vals
 obtain ⟨u,e',agg',lv',ds,vs,hω',hti',hden,hown,hcells⟩:=hE.objs 0 _ rfl
 rw [hω] at hω'
 obtain rfl:=Option.some.inj hω'
 rw [hti] at hti'
 cases hti'
 obtain rfl:xs=ds:=D.list.inj hden
 obtain ⟨g,cap,cur,rfl,hg,hnc,hcm,hcs,htk⟩ : ∃ g cap cur,v=.slice (some ⟨g,0,none⟩) xs.length cap∧w.heap[g]?=some (.cells cur e (0,0))∧xs.length≤cap∧cap≤maxLen∧cur.size=cap * lv.length∧cur.toList.take (xs.length * lv.length)=vs:=by
  rcases hown.2 with ⟨_,hn⟩ | ⟨g,cap,cur,hv,_,hg,hnc,hcm,hcs,htk⟩
  · omega
  · exact ⟨g,cap,cur,hv,hg,hnc,hcm,hcs,htk⟩
 have hone:∀ u,u∈vs→u.oneCell'=true:=by
  intro u hu
  obtain ⟨q,hq⟩:=List.mem_iff_getElem?.1 hu
  have hql:q < xs.length * lv.length:=by rw [←hown.1]; exact (List.getElem?_eq_some_iff.1 hq).1
  have hqd:q / lv.length < xs.length:=Nat.div_lt_of_lt_mul (by rw [Nat.mul_comm]; exact hql)
  have hqm:q % lv.length < lv.length:=Nat.mod_lt _ hk
  have hqe:q / lv.length * lv.length+q % lv.length=q:=by
   have:=Nat.div_add_mod q lv.length
   rw [Nat.mul_comm] at this
   exact this
  have hh:=hcells (q / lv.length) (q % lv.length) lv[q % lv.length] hqd (List.getElem?_eq_getElem hqm)
  have hgu:vs.getD q undef=u:=by rw [List.getD_eq_getElem?_getD,hq]; rfl
  rw [hqe,hgu] at hh
  exact hh.one
 have hF:¬ S g∧g < w.heap.size∧F g:=hE.own 0 _ g rfl rfl (by rw [hω]; rfl)
 obtain ⟨cur',hw',hcs',htk'⟩:=del_world P hzs hz1 hg hcs hnc hi htk hown.1 hone
 have key:=hw g xs.length cap i (i+1) cur w hg hcs hnc hcm (by omega) hi (by rw [htk]; exact hone)
 refine ⟨_,_,eF _ _,?_⟩
 refine key.mono ?_
 rintro _ w' ⟨rfl,rfl⟩
 rw [hw']
 have hother:∀ b,b≠g→(w.drew.setRow g cur').heap[b]?=w.heap[b]?:=fun b hb=>setRow_other w.drew g b _ hb
 have hnew:(w.drew.setRow g cur').heap[g]?=some (.cells cur' e (0,0)):=setRow_heap w.drew g cur _ e _ hg
 have hsz:(w.drew.setRow g cur').heap.size=w.heap.size:=by unfold World.setRow; rw [Array.size_modify]; rfl
 have hSb:∀ b,S b→(w.drew.setRow g cur').heap[b]?=w.heap[b]?:=fun b hb=>hother b fun h=>hF.1 (h ▸ hb)
 have hlen1:xs.length - (i+1 - i)=xs.length - 1:=by omega
 rw [hlen1]
 refine ⟨S,fun o=>if o=1 then some (.slice (some ⟨g,0,none⟩) (xs.length - 1) cap) else ω o,?_⟩
 have hdom1:ω 1=none:=by
  cases h:ω 1 with
  | none=>rfl
  | some v=>exact absurd (hE.dom 1 v h) (by simp [delSig])
 exact {
  frame:=⟨rfl,rfl,rfl,by rw [hsz]; exact Nat.le_refl _,fun b hb hFb=>hother b fun h=>hFb (h ▸ hF.2.2)⟩
  smono:=fun _ h=>h
  sbd:=fun _ h=>.inl h
  stab:=fun b hb=>by rw [hsz]; exact hE.stab b hb
  omono:=fun o v hv=>by
   by_cases h:o=1
   · subst h; rw [hdom1] at hv; cases hv
   · simp only [if_neg h]; exact hv
  dom:=fun o v hv=>by
   by_cases h:o=1
   · subst h; simp [delSig]
   · simp only [if_neg h] at hv
     have:=hE.dom o v hv
     simp [delSig] at this ⊢
     omega
  vals:=⟨by simp,_,_,_,rfl⟩
  objs:=fun o ob ho=>by
   match o,ho with
   | 0,ho=>cases ho; trivial
   | 1,ho =>
    cases ho
    refine ⟨.slice (some ⟨g,0,none⟩) (xs.length - 1) cap,e,true,lv,xs.take i++xs.drop (i+1),vs.take (i * lv.length)++vs.drop ((i+1) * lv.length),by simp,hti,rfl,⟨?_,.inr ⟨g,cap,cur',?_,Nat.zero_le _,hnew,?_,hcm,hcs',?_⟩⟩,?_⟩
    · rw [cut_len xs hi]; exact cutK_len vs hown.1 hi
    · rw [cut_len xs hi]
    · rw [cut_len xs hi]; omega
    · rw [cut_len xs hi]; exact htk'
    · intro j c kk hj hkc
      rw [cut_len xs hi] at hj
      have hc:c < lv.length:=(List.getElem?_eq_some_iff.1 hkc).1
      have e1:(xs.take i++xs.drop (i+1)).getD j default=xs.getD (if j < i then j else j+1) default:=by
       rw [List.getD_eq_getElem?_getD,cut_get,List.getD_eq_getElem?_getD]
       split <;> rfl
      have e2:(vs.take (i * lv.length)++vs.drop ((i+1) * lv.length)).getD (j * lv.length+c) undef=vs.getD ((if j < i then j else j+1) * lv.length+c) undef:=by
       rw [List.getD_eq_getElem?_getD,cutK_get,List.getD_eq_getElem?_getD]
       by_cases hji:j < i
       · rw [if_pos hji,if_pos (cellIdx_lt hji hc)]
       · have:i * lv.length≤j * lv.length:=Nat.mul_le_mul_right _ (by omega)
         rw [if_neg hji,if_neg (by omega),Nat.add_mul]
         congr 2
         omega
      rw [e1,e2]
      refine (hcells _ c kk ?_ hkc).mono hSb fun _ h=>h
      split <;> omega
  sep:=fun o o' ob ob' b h1 h2 h3 h4 h5 h6=>by
   match o,o',h1,h2 with
   | 0,_,h1,_=>cases h1; cases h3
   | 1,0,_,h2=>cases h2; cases h4
   | 1,1,_,_=>rfl
  own:=fun o ob b h1 h2 h3=>by
   match o,h1 with
   | 0,h1=>cases h1; cases h2
   | 1,h1 =>
    have hb:g=b:=by
     have h3:Blk (.slice (some ⟨g,0,none⟩) (xs.length - 1) cap) b:=by simpa [OwnB] using h3
     exact Option.some.inj h3
    subst hb
    exact ⟨hF.1,by rw [hsz]; exact hF.2.1,.inr hF.2.2⟩ }
theorem del_deep {f t e:Nat} {lv:List K} {z:Array Value} (hti:ti t=.sl e true lv) (hk:0 < lv.length) (hzs:z.size=lv.length) (hz1:∀ m u,u∈(Builtin.zeroCells z m).toList→u.oneCell'=true) (eF:∀ args w,(callFunc f args).run P w=.ok (.enter f args) w) (hw:DelWalk P f e lv.length z) :
 SigOK P ti (delSigD f t) DelR:=by
 intro ν rs vs0 w S F ω hR hE
 obtain ⟨xs,i,rfl,hi,rfl⟩:=hR
 obtain ⟨v,rfl,u,hω,hhd,_⟩:=del_args (a:=.dp 0) hE.vals
 obtain ⟨u',e',lv',ds,hω',hti',hden,hown,hcells,hinj,hap⟩:=hE.objs 0 _ rfl
 rw [hω] at hω'
 obtain rfl:=Option.some.inj hω'
 rw [hti] at hti'
 cases hti'
 obtain rfl:xs=ds:=D.list.inj hden
 generalize hvs:tlV u=vs at *
 obtain ⟨g,cap,cur,hv,hg,hnc,hcm,hcs,htk⟩ : ∃ g cap cur,hdV u=.slice (some ⟨g,0,none⟩) xs.length cap∧w.heap[g]?=some (.cells cur e (0,0))∧xs.length≤cap∧cap≤maxLen∧cur.size=cap * lv.length∧cur.toList.take (xs.length * lv.length)=vs:=by
  rcases hown.2 with ⟨_,hn⟩ | ⟨g,cap,cur,hv,_,hg,hnc,hcm,hcs,htk⟩
  · omega
  · exact ⟨g,cap,cur,hv,hg,hnc,hcm,hcs,htk⟩
 rw [hv] at hhd
 subst hhd
 have hone:∀ u,u∈vs→u.oneCell'=true:=by
  intro u hu
  obtain ⟨q,hq⟩:=List.mem_iff_getElem?.1 hu
  have hql:q < xs.length * lv.length:=by rw [←hown.1]; exact (List.getElem?_eq_some_iff.1 hq).1
  have hqd:q / lv.length < xs.length:=Nat.div_lt_of_lt_mul (by rw [Nat.mul_comm]; exact hql)
  have hqm:q % lv.length < lv.length:=Nat.mod_lt _ hk
  have hqe:q / lv.length * lv.length+q % lv.length=q:=by
   have:=Nat.div_add_mod q lv.length
   rw [Nat.mul_comm] at this
   exact this
  have hh:=hcells (q / lv.length) (q % lv.length) lv[q % lv.length] hqd (List.getElem?_eq_getElem hqm)
  have hgu:vs.getD q undef=u:=by rw [List.getD_eq_getElem?_getD,hq]; rfl
  rw [hqe,hgu] at hh
  exact (hh.rd (S':=fun _=>True) fun _ _=>trivial).one
 have hOwn:∀ b,Blk u b→¬ S b∧b < w.heap.size∧F b:=fun b hb=>hE.own 0 _ b rfl rfl (by rw [hω]; exact hb)
 have hF:¬ S g∧g < w.heap.size∧F g:=hOwn g ((Blk_iff _ _).2 (.inl (by rw [hv]; rfl)))
 obtain ⟨cur',hw',hcs',htk'⟩:=del_world P hzs hz1 hg hcs hnc hi htk hown.1 hone
 have key:=hw g xs.length cap i (i+1) cur w hg hcs hnc hcm (by omega) hi (by rw [htk]; exact hone)
 refine ⟨_,_,eF _ _,?_⟩
 refine key.mono ?_
 rintro _ w' ⟨rfl,rfl⟩
 rw [hw']
 have hother:∀ b,b≠g→(w.drew.setRow g cur').heap[b]?=w.heap[b]?:=fun b hb=>setRow_other w.drew g b _ hb
 have hnew:(w.drew.setRow g cur').heap[g]?=some (.cells cur' e (0,0)):=setRow_heap w.drew g cur _ e _ hg
 have hsz:(w.drew.setRow g cur').heap.size=w.heap.size:=by unfold World.setRow; rw [Array.size_modify]; rfl
 have hSb:∀ b,S b→(w.drew.setRow g cur').heap[b]?=w.heap[b]?:=fun b hb=>hother b fun h=>hF.1 (h ▸ hb)
 have hlen1:xs.length - (i+1 - i)=xs.length - 1:=by omega
 rw [hlen1]
 generalize hvs' : vs.take (i * lv.length)++vs.drop ((i+1) * lv.length)=vs' at *
 have hget:∀ q,vs'.getD q undef=vs.getD (if q < i * lv.length then q else q+lv.length) undef:=by
  intro q
  rw [←hvs',List.getD_eq_getElem?_getD,cutK_get,List.getD_eq_getElem?_getD]
  split <;> rfl
 generalize hU:Value.agg (.slice (some ⟨g,0,none⟩) (xs.length - 1) cap::vs').toArray=U
 have hUh:hdV U=.slice (some ⟨g,0,none⟩) (xs.length - 1) cap:=by rw [←hU]; simp [hdV]
 have hUt:tlV U=vs':=by rw [←hU]; simp [tlV]
 have hnin:∀ p b,nblk (vs.getD p undef) b→Blk u b∧b≠g:=by
  intro p b hp
  refine ⟨?_,fun h=>hap p b hp (by rw [hv,h]; rfl)⟩
  by_cases hpl:p < vs.length
  · exact (Blk_iff _ _).2 (.inr ⟨_,by rw [hvs]; exact mem_getD_of hpl,hp⟩)
  · rw [List.getD_eq_getElem?_getD,List.getElem?_eq_none (by omega)] at hp
    exact hp.elim
 have hUb:∀ b,Blk U b→Blk u b:=by
  intro b hb
  rcases (Blk_iff _ _).1 hb with h3 | ⟨v',hv',h3⟩
  · rw [hUh] at h3
    exact (Blk_iff _ _).2 (.inl (by rw [hv]; exact h3))
  · rw [hUt] at hv'
    obtain ⟨q,hq⟩:=List.mem_iff_getElem?.1 hv'
    have hqv:vs'.getD q undef=v':=by rw [List.getD_eq_getElem?_getD,hq]; rfl
    rw [←hqv,hget] at h3
    exact (hnin _ b h3).1
 refine ⟨S,fun o=>if o=1 then some U else ω o,?_⟩
 have hdom1:ω 1=none:=by
  cases h:ω 1 with
  | none=>rfl
  | some v=>exact absurd (hE.dom 1 v h) (by simp [delSigD])
 exact {
  frame:=⟨rfl,rfl,rfl,by rw [hsz]; exact Nat.le_refl _,fun b hb hFb=>hother b fun h=>hFb (h ▸ hF.2.2)⟩
  smono:=fun _ h=>h
  sbd:=fun _ h=>.inl h
  stab:=fun b hb=>by rw [hsz]; exact hE.stab b hb
  omono:=fun o v hv=>by
   by_cases h:o=1
   · subst h; rw [hdom1] at hv; cases hv
   · simp only [if_neg h]; exact hv
  dom:=fun o v hv=>by
   by_cases h:o=1
   · subst h; simp [delSigD]
   · simp only [if_neg h] at hv
     have:=hE.dom o v hv
     simp [delSigD] at this ⊢
     omega
  vals:=⟨U,by simp,hUh,_,_,_,rfl⟩
  objs:=fun o ob ho=>by
   match o,ho with
   | 0,ho=>cases ho; trivial
   | 1,ho =>
    cases ho
    refine ⟨U,e,lv,xs.take i++xs.drop (i+1),by simp,hti,rfl,?_,?_,?_,?_⟩
    · rw [hUh,hUt]
      refine ⟨?_,.inr ⟨g,cap,cur',?_,Nat.zero_le _,hnew,?_,hcm,hcs',?_⟩⟩
      · rw [cut_len xs hi,←hvs']; exact cutK_len vs hown.1 hi
      · rw [cut_len xs hi]
      · rw [cut_len xs hi]; omega
      · rw [cut_len xs hi]; exact htk'
    · intro j c kk hj hkc
      rw [cut_len xs hi] at hj
      have hc:c < lv.length:=(List.getElem?_eq_some_iff.1 hkc).1
      have e1:(xs.take i++xs.drop (i+1)).getD j default=xs.getD (if j < i then j else j+1) default:=by
       rw [List.getD_eq_getElem?_getD,cut_get,List.getD_eq_getElem?_getD]
       split <;> rfl
      have e2:vs'.getD (j * lv.length+c) undef=vs.getD ((if j < i then j else j+1) * lv.length+c) undef:=by
       rw [hget]
       by_cases hji:j < i
       · rw [if_pos hji,if_pos (cellIdx_lt hji hc)]
       · have:i * lv.length≤j * lv.length:=Nat.mul_le_mul_right _ (by omega)
         rw [if_neg hji,if_neg (by omega),Nat.add_mul]
         congr 1
         omega
      rw [hUt,e1,e2]
      refine (hcells _ c kk ?_ hkc).mono fun b hb=>hother b (hnin _ b hb).2
      split <;> omega
    · intro p q b hp hq
      rw [hUt] at hp hq
      rw [hget] at hp hq
      have:=hinj _ _ b hp hq
      split at this <;> split at this <;> omega
    · intro p b hp he
      rw [hUt,hget] at hp
      rw [hUh] at he
      exact (hnin _ b hp).2 (Option.some.inj he).symm
  sep:=fun o o' ob ob' b h1 h2 h3 h4 h5 h6=>by
   match o,o',h1,h2 with
   | 0,_,h1,_=>cases h1; cases h3
   | 1,0,_,h2=>cases h2; cases h4
   | 1,1,_,_=>rfl
  own:=fun o ob b h1 h2 h3=>by
   match o,h1 with
   | 0,h1=>cases h1; cases h2
   | 1,h1 =>
    have h3:Blk U b:=by simpa [OwnB] using h3
    obtain ⟨k1,k2,k3⟩:=hOwn b (hUb b h3)
    exact ⟨k1,by rw [hsz]; exact k2,.inr k3⟩ }
end
end Go.SX
