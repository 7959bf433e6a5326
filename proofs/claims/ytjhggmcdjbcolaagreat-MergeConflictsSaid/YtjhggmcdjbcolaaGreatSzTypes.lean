/-
What the table of types must say of a program's types, and what follows for loads, stores and zero values.
-/
import Derived.Test.YtjhggmcdjbcolaaGreatSzSim
import Derived.Deep.MidRow
import Derived.Maps.AppendAt
set_option linter.unusedVariables false
set_option linter.unusedSimpArgs false
set_option linter.unusedSectionVars false
namespace Go.SX
open Go.RowKit
def ZeroV:Option K→Value→Prop
 | some (.int k),v=>v=.int k 0
 | some .bool,v=>v=.bool false
 | some .str,v=>v=.string ⟨#[]⟩
 | some (.sl _),v=>v=.slice none 0 0
 | none,v=>v.oneCell'=true
def aggB (P:Program) (t:TypeId):Bool:=match P.underlying t with
 | some d=>d.isRow
 | none=>false
def DescK:TypeDesc→K→Prop
 | .int k,.int k'=>k=k'
 | .bool,.bool=>True
 | .string,.str=>True
 | _,_=>False
structure TyOne (P:Program) (t:TypeId) (d:TypeDesc) (z:Value):Prop where
 und:P.underlying t=some d
 row:d.isRow=false
 info:∃ i,P.info? t=some i∧i.size=1∧i.zero=some z
def TyF (P:Program) (ti:TypeId→TI) (t:TypeId):Prop:=match ti t with
 | .one k=>∃ d z,TyOne P t d z∧DescK d k∧ZeroV (some k) z
 | .sl e agg lv=>TyOne P t (.slice e) (.slice none 0 0)∧∃ j z,P.info? e=some j∧j.size=lv.length∧0 < lv.length∧j.bytes≤65536∧j.zero=some z ∧
  All2 (fun k v=>ZeroV (some k) v) lv z.cells.toList∧(agg=false→lv.length=1)∧aggB P e=agg∧(∃ d,P.underlying e=some d)
 | .ag st lv fs=>∃ i z d,P.underlying t=some d∧d.isRow=true∧P.info? t=some i∧i.size=lv.length∧i.zero=some (.agg z)∧All2 ZeroV lv z.toList ∧
  ((∃ fields,st=true∧d=.struct fields∧fields.size=fs.length∧∀ (j:Nat) f,fields[j]?=some f→∃ i,P.info? f.type=some i∧fs[j]?=some (f.offset,i.size,aggB P f.type)∧0 < i.size∧f.offset+i.size≤lv.length∧(aggB P f.type=false→i.size=1)∧(∃ d,P.underlying f.type=some d)) ∨
   (∃ n e i,st=false∧d=.array n e∧P.info? e=some i∧0 < i.size∧fs.length=n∧(∀ j,j < n→fs[j]?=some (j * i.size,i.size,aggB P e))∧lv.length=n * i.size∧(aggB P e=false→i.size=1)∧(∃ d,P.underlying e=some d)))
 | .other=>∃ d z,TyOne P t d z∧z.oneCell'=true
 | .bad=>True
def TyOK (P:Program) (ti:TypeId→TI):Prop:=∀ t,TyF P ti t
section
variable {P:Program} {ti:TypeId→TI}
theorem isAgg_run {t:TypeId} {d:TypeDesc} (h:P.underlying t=some d) (w:World):(isAgg t).run P w=.ok d.isRow w:=by
 unfold isAgg
 rw [Sem.run_bind,run_underlying h w]
 cases d <;> simp [TypeDesc.isRow]
theorem sizeOf_run {t:TypeId} {i:TypeInfo} (h:P.info? t=some i) (w:World):(sizeOf t).run P w=.ok i.size w:=by simp [sizeOf,typeInfo,h]
theorem zeroValue_run {t:TypeId} {i:TypeInfo} {z:Value} (h:P.info? t=some i) (hz:i.zero=some z) (w:World):(zeroValue t).run P w=.ok z w:=by simp [zeroValue,typeInfo,h,hz]
theorem TyF.common {t:TypeId} (h:TyF P ti t) (hb:ti t≠.bad):∃ d i,P.underlying t=some d∧d.isRow=(ti t).isAgg∧P.info? t=some i∧i.size=(ti t).size:=by
 unfold TyF at h
 cases ht:ti t with
 | one k=>rw [ht] at h; obtain ⟨d,z,⟨h1,h2,i,h3,h4,_⟩,_⟩:=h; exact ⟨d,i,h1,h2,h3,h4⟩
 | sl e agg lv=>rw [ht] at h; obtain ⟨⟨h1,h2,i,h3,h4,_⟩,_⟩:=h; exact ⟨_,i,h1,h2,h3,h4⟩
 | ag st lv fs=>rw [ht] at h; obtain ⟨i,z,d,h1,h2,h3,h4,_⟩:=h; exact ⟨d,i,h1,h2,h3,h4⟩
 | other=>rw [ht] at h; obtain ⟨d,z,⟨h1,h2,i,h3,h4,_⟩,_⟩:=h; exact ⟨d,i,h1,h2,h3,h4⟩
 | bad=>exact absurd ht hb
variable {w:World} {S:Nat→Prop} {ω:Nat→Option Value} {ν:List D}
theorem load_cells (hT:TyOK P ti) {t:TypeId} {cs:List SV1} {sv:SV} (hm:mkSV ti t cs=some sv) {b off:Nat} {vs:List Value} (hc:All2 (SR ti w S ω ν) cs vs)
 (hr:∀ (j:Nat) u,vs[j]?=some u→w.cell? ⟨b,off+j,none⟩=some u) :
 ∃ v,(Instr.loadAt t (.pointer (some ⟨b,off,none⟩))).run P w=.ok v w∧SVR ti w S ω ν sv v:=by
 unfold mkSV at hm
 split at hm
 · rename_i h0
   obtain ⟨hb,hl⟩:=h0
   obtain ⟨d,i,hu,hrow,hi,hs⟩:=(hT t).common hb
   split at hm
   · rename_i hag
     simp only [Option.some.injEq] at hm
     subst hm
     refine ⟨.agg vs.toArray,run_loadAt_mid w b off t vs d hr hu (by rw [hrow]; exact hag) (by rw [hi]; simp [hs,←hl,hc.length]),vs,rfl,hc⟩
   · rename_i hag
     have hag' : d.isRow=false:=by rw [hrow]; simpa using hag
     obtain ⟨a,ha,rfl⟩:=Option.map_eq_some_iff.1 hm
     cases cs with
     | nil=>simp at ha
     | cons x r =>
      simp at ha
      subst ha
      cases hc with
      | cons hx _ =>
       refine ⟨_,?_,hx⟩
       have:=hr 0 _ rfl
       simp only [Nat.add_zero] at this
       simp [Instr.loadAt,Instr.sureAddr,loadVar,isAgg_run hu,hag',run_load,this]
 · simp at hm
theorem heap_setRow_same (w:World) (g:Nat) (cs cs' : Array Value) (t:TypeId) (hg:w.heap[g]?=some (.cells cs t (0,0))):(w.setRow g cs').heap[g]?=some (.cells cs' t (0,0)):=setRow_heap w g cs cs' t _ hg
theorem Fr_setRow (w:World) (g:Nat) (cs:Array Value):Fr w (fun b=>b=g) (w.setRow g cs):=⟨rfl,rfl,rfl,by simp,fun k _ hk=>setRow_other w g k cs hk⟩
theorem oneCell_cells {v:Value} (h:v.oneCell'=true):v.cells=#[v]:=by cases v <;> simp_all [Value.oneCell',Value.cells]
theorem SVR.cells {sv:SV} {v:Value} (h:SVR ti w S ω ν sv v):All2 (SR ti w S ω ν) sv.cells v.cells.toList:=by
 cases sv with
 | c a=>rw [oneCell_cells (SR.one h)]; exact .cons h .nil
 | ag l=>obtain ⟨cs,rfl,hc⟩:=h; exact hc
theorem store_cells (hT:TyOK P ti) {t:TypeId} {sv:SV} (hb:ti t≠.bad) (hl:sv.cells.length=(ti t).size) {v:Value} (hv:SVR ti w S ω ν sv v) {b off:Nat} {cur:Array Value} {e:TypeId}
 (hg:w.heap[b]?=some (.cells cur e (0,0))) (hfit:off+sv.cells.length≤cur.size) :
 (Instr.storeAt t (.pointer (some ⟨b,off,none⟩)) v).run P w=.ok () (w.setRow b (cur.toList.take off++v.cells.toList++cur.toList.drop (off+v.cells.toList.length)).toArray):=by
 obtain ⟨d,i,hu,hrow,hi,hs⟩:=(hT t).common hb
 have hc:=hv.cells
 have hlen:=hc.length
 have h1:=run_storeCells_at P b off e v.cells.toList 0 cur w hg (by simpa [←hlen] using hfit) (fun u hu=>by
  obtain ⟨j,hj⟩:=List.mem_iff_getElem?.1 hu
  have hj2:j < sv.cells.length:=by rw [hlen]; exact (List.getElem?_eq_some_iff.1 hj).1
  obtain ⟨u',hu',hr⟩:=hc.get (List.getElem?_eq_getElem hj2)
  rw [hj] at hu'
  cases hu'
  exact hr.one)
 simp only [Nat.add_zero] at h1
 have hsz:v.cells.size=i.size:=by rw [hs,←hl,hlen]; simp
 simp [Instr.storeAt,Instr.sureAddr,storeVar,sizeOf_run hi,hsz,h1]
end
end Go.SX
