/-
clear of the end of a row of the call's own.
-/
import Derived.Test.YtjhggmcdjbcolaaGreatSzApp
set_option linter.unusedVariables false
set_option linter.unusedSimpArgs false
set_option linter.unusedSectionVars false
namespace Go.SX
open Go.RowKit
section
variable {C:Cx} {σ:St} {ν:List D} {S:Nat→Prop} {ω:Nat→Option Value} {w:World} {r:List D} {a:Act} {o:Oper} {Q:Exit→Act→World→Prop} {K' : Delta→T}
theorem zeroEl_at {agg:Bool} {lv:List K} (h1:agg=false→lv.length=1) {z:Value} (hz:All2 (fun k v=>ZeroV (some k) v) lv z.cells.toList) {c:Nat} {k:K} (hk:lv[c]?=some k):∃ u,z.cells[c]?=some u∧Rd C.ti w S k (cellD agg c ((zeroEl agg lv).den ν)) u:=by
 obtain ⟨u,hu,hzu⟩:=hz.get hk
 refine ⟨u,by simpa using hu,?_⟩
 have key:(cellD agg c ((zeroEl agg lv).den ν))=(zeroE k).den ν:=by
  unfold zeroEl cellD
  cases agg with
  | true =>
   simp only [if_true]
   rw [aggE_cell,List.getD_eq_getElem?_getD,List.getElem?_map,List.getElem?_map,hk]
   rfl
  | false =>
   have hc:c < lv.length:=(List.getElem?_eq_some_iff.1 hk).1
   have:=h1 rfl
   have hc0:c=0:=by omega
   subst hc0
   cases lv with
   | nil=>simp at hk
   | cons k0 l=>simp at hk; subst hk; rfl
 rw [key]
 cases k with
 | int k=>obtain rfl:=hzu; exact .int _ _
 | bool=>obtain rfl:=hzu; exact .bool _
 | str=>obtain rfl:=hzu; exact .str _
 | sl t=>obtain rfl:=hzu; exact .sl0 t none 0
theorem zeros_cells {agg:Bool} {lv:List K} (hone:agg=false→lv.length=1) {z:Value} (hzz:All2 (fun k v=>ZeroV (some k) v) lv z.cells.toList) (m:Nat) :
 RowCells C.ti w S agg lv (List.replicate m ((zeroEl agg lv).den ν)) (Builtin.zeroCells z.cells m).toList:=by
 have hzs:z.cells.size=lv.length:=by rw [←Array.length_toList (xs:=z.cells),←hzz.length]
 intro j' c' k hj' hk'
 rw [List.length_replicate] at hj'
 have hc' : c' < lv.length:=(List.getElem?_eq_some_iff.1 hk').1
 obtain ⟨u,hu1,hu2⟩:=zeroEl_at (C:=C) (w:=w) (S:=S) (ν:=ν) hone hzz hk'
 have e1:(List.replicate m ((zeroEl agg lv).den ν)).getD j' default=(zeroEl agg lv).den ν:=by
  rw [List.getD_eq_getElem?_getD,List.getElem?_replicate,if_pos hj']; rfl
 have hlt:j' * lv.length+c' < m * z.cells.size:=by rw [hzs]; exact cellIdx_lt hj' hc'
 have e2:(Builtin.zeroCells z.cells m).toList.getD (j' * lv.length+c') undef=u:=by
  rw [List.getD_eq_getElem?_getD]
  simp only [Builtin.zeroCells,Array.toList_map,List.getElem?_map,Array.toList_range]
  rw [List.getElem?_range hlt]
  simp only [Option.map_some,Option.getD_some]
  have e3:(j' * lv.length+c') % z.cells.size=c':=by
   rw [hzs,Nat.mul_comm,Nat.mul_add_mod,Nat.mod_eq_of_lt hc']
  rw [e3,getElem!_pos z.cells _ (by rw [hzs]; exact hc')]
  rw [Array.getElem?_eq_getElem (by rw [hzs]; exact hc')] at hu1
  exact Option.some.inj hu1
 rw [e1,e2]
 exact hu2
theorem stepClear_sound (hT:TyOK C.P C.ti) (h:Sim C σ ν S ω a.tmps w) {c:Call} {x:Operand} {t:TypeId} {s:SV1} (ho:o.op=.call c) (hc:c.callee=.builtin .clear) (ha:c.args.toList=[x]) (ht:c.argTypes.toList=[t])
 (hx:SR C.ti w S ω ν s (a.eval x)) (hr:(stepClear C.ti t s σ K').Run C.R ν r):o.wp C.P a w (Post C σ ω o.dst K' r a.defers) Q:=by
 unfold stepClear at hr
 split at hr
 · rename_i ob sz lo
   split at hr
   · rename_i t' y e agg lv hob hti
     split at hr
     · rename_i hcnd
       obtain ⟨htt,hsz⟩:=hcnd
       obtain ⟨hu,he,j,z,hj,hjs,hlv,hby,hz,hzz,hone⟩:=sl_row hT hti
       obtain ⟨b,n,cap,hω,l0,l1,hv⟩:=hx
       obtain ⟨v,e',agg',lv',ds,vs,hω',hti',hden,hown,hrc⟩:=h.objs ob _ hob
       rw [hω] at hω'
       obtain rfl:=Option.some.inj hω'
       rw [htt,hti] at hti'
       cases hti'
       generalize hl:(lo.den ν).toInt.toNat=l at *
       have hl' : (lo.den ν).toInt=(l:Int):=by omega
       have hmx:maxLen=9223372036854775807:=rfl
       obtain ⟨hn,hnc,hcm⟩ : n=ds.length∧n≤cap∧cap≤maxLen:=by
        rcases hown.2 with ⟨hv',hn'⟩ | ⟨g,cap',cur,hv',_,_,hca,hmx,_⟩
        · cases hv'; exact ⟨hn'.symm,Nat.le_refl _,by simp [maxLen]⟩
        · cases hv'; exact ⟨rfl,hca,hmx⟩
       have hsub:((E.o2 (.sub .i64) (lenE y) lo).den ν).toInt.toNat=n - l:=by
        show (IntKind.i64.wrap (((lenE y).den ν).toInt - (lo.den ν).toInt)).toNat=_
        rw [lenE_den,hden,nowrap0 (by show _≤(ds.length:Int) - (lo.den ν).toInt; omega) (by show (ds.length:Int) - (lo.den ν).toInt≤_; omega)]
        show ((ds.length:Int) - (lo.den ν).toInt).toNat=_
        omega
       have hden' : (E.o2 .app (.o2 .take y lo) (.o2 .rep (zeroEl agg lv) (.o2 (.sub .i64) (lenE y) lo))).den ν=.list (ds.take l++List.replicate (n - l) ((zeroEl agg lv).den ν)):=by
        show D.list ((D.list (((y.den ν).toList).take (lo.den ν).toInt.toNat)).toList++(D.list (List.replicate ((E.o2 (.sub .i64) (lenE y) lo).den ν).toInt.toNat ((zeroEl agg lv).den ν))).toList)=_
        rw [hsub,hden,hl]
        rfl
       have hargs:c.args.map a.eval=#[a.eval x]:=by
        have h1:c.args=#[x]:=Array.toList_inj.1 (by simpa using ha)
        rw [h1]; simp
       have htys:c.argTypes=#[t]:=Array.toList_inj.1 (by simpa using ht)
       by_cases hln:n - l=0
       · refine post_val (v:=.tuple #[]) (w':=w) (S':=S) (ω':=ω) (call_builtin (f:=Builtin.clear_) ho hc (fun _ _ _ _=>rfl) ?_) hr ?_ (NewAt.refl _ _ _) trivial
         · rw [hargs,htys,hv,hsz]
           unfold sliced
           rw [hln]
           cases b with
           | none=>split <;> simp [Builtin.clear_,run_underlying hu]
           | some ad=>split <;> simp [Builtin.clear_,run_underlying hu]
         · refine Sim.app_of (objs:=σ.objs.set ob (.row t' (.o2 .app (.o2 .take y lo) (.o2 .rep (zeroEl agg lv) (.o2 (.sub .i64) (lenE y) lo))))) ?_ (by simp [St.objsOf,freeze_nil,upds,place_nil]) rfl
           refine h.setObj hob rfl hω (Fr.refl w _) ⟨_,e,agg,lv,ds,vs,hω,by rw [htt]; exact hti,?_,hown,hrc⟩
           rw [hden',hln]
           simp only [List.replicate_zero,List.append_nil]
           rw [List.take_of_length_le (by omega)]
       · obtain ⟨g,cur,hb,hg,hcs,htk⟩ : ∃ g cur,b=some ⟨g,0,none⟩∧w.heap[g]?=some (.cells cur e (0,0))∧cur.size=cap * lv.length∧cur.toList.take (ds.length * lv.length)=vs:=by
          rcases hown.2 with ⟨hv',hn'⟩ | ⟨g,cap',cur,hv',_,hg,_,_,hcs,htk⟩
          · omega
          · cases hv'; exact ⟨g,cur,rfl,hg,hcs,htk⟩
         subst hb
         have hzs:z.cells.size=lv.length:=by rw [←Array.length_toList (xs:=z.cells),←hzz.length]
         have hz1:∀ u,u∈(Builtin.zeroCells z.cells (n - l)).toList→u.oneCell'=true:=by
          intro u hu
          have hR:=zeros_cells (C:=C) (w:=w) (S:=S) (ν:=ν) hone hzz (n - l)
          obtain ⟨q,hq⟩:=List.mem_iff_getElem?.1 hu
          have hql:q < (n - l) * lv.length:=by
           have:=(List.getElem?_eq_some_iff.1 hq).1
           rw [Array.length_toList (xs:=Builtin.zeroCells z.cells (n - l)),size_zeroCells,hzs] at this
           exact this
          have hqd:q / lv.length < n - l:=Nat.div_lt_of_lt_mul (by rw [Nat.mul_comm]; exact hql)
          have hqm:q % lv.length < lv.length:=Nat.mod_lt _ hlv
          have hqe:q / lv.length * lv.length+q % lv.length=q:=by
           have:=Nat.div_add_mod q lv.length
           rw [Nat.mul_comm] at this
           exact this
          have:=hR (q / lv.length) (q % lv.length) lv[q % lv.length] (by rw [List.length_replicate]; exact hqd) (List.getElem?_eq_getElem hqm)
          rw [hqe] at this
          have hgu:(Builtin.zeroCells z.cells (n - l)).toList.getD q undef=u:=by rw [List.getD_eq_getElem?_getD,hq]; rfl
          rw [hgu] at this
          exact this.one
         have hzl:(Builtin.zeroCells z.cells (n - l)).toList.length=(n - l) * lv.length:=by rw [Array.length_toList (xs:=Builtin.zeroCells z.cells (n - l)),size_zeroCells,hzs]
         have hnl:l * lv.length+(n - l) * lv.length=n * lv.length:=by rw [←Nat.add_mul]; congr 1; omega
         have hncs:n * lv.length≤cur.size:=by rw [hcs]; exact Nat.mul_le_mul_right _ hnc
         have hst:=run_storeCells_at (P:=C.P) g (l * lv.length) e (Builtin.zeroCells z.cells (n - l)).toList 0 cur w hg (by rw [hzl]; omega) hz1
         simp only [Nat.add_zero,hzl,hnl] at hst
         generalize hcur' : (cur.toList.take (l * lv.length)++(Builtin.zeroCells z.cells (n - l)).toList++cur.toList.drop (n * lv.length)).toArray=cur' at hst
         have hcl:cur.toList.length=cur.size:=Array.length_toList (xs:=cur)
         have hcur'l:cur'.toList=cur.toList.take (l * lv.length)++(Builtin.zeroCells z.cells (n - l)).toList++cur.toList.drop (n * lv.length):=by rw [←hcur']
         have hvl:a.eval x=.slice (some ⟨g,0+l * lv.length,none⟩) (n - l) (cap - l):=by
          rw [hv,hsz]
          unfold sliced
          rw [if_neg (by omega)]
          simp only [Option.map_some,Addr.add_mid]
         have hne:(n - l)≠0:=hln
         have hvs' : cur'.toList.take (n * lv.length)=vs.take (l * lv.length)++(Builtin.zeroCells z.cells (n - l)).toList:=by
          rw [hcur'l]
          have h1:(cur.toList.take (l * lv.length)++(Builtin.zeroCells z.cells (n - l)).toList).length=n * lv.length:=by
           rw [List.length_append,List.length_take,hzl,hcl]; omega
          rw [List.take_append_of_le_length (by omega),List.take_of_length_le (by omega)]
          congr 1
          rw [←htk,List.take_take,←hn,Nat.min_eq_left (by omega)]
         refine post_val (v:=.tuple #[]) (w':=w.setRow g cur') (S':=S) (ω':=ω) (call_builtin (f:=Builtin.clear_) ho hc (fun _ _ _ _=>rfl) ?_) hr ?_ (NewAt.refl _ _ _) trivial
         · rw [hargs,htys,hvl]
           obtain ⟨m,hm⟩ : ∃ m,n - l=m+1:=⟨n - l - 1,by omega⟩
           rw [hm] at hst ⊢
           simp [Builtin.clear_,run_underlying hu,zeroValue_run hj hz,hst]
         · refine Sim.app_of (objs:=σ.objs.set ob (.row t' (.o2 .app (.o2 .take y lo) (.o2 .rep (zeroEl agg lv) (.o2 (.sub .i64) (lenE y) lo))))) ?_ (by simp [St.objsOf,freeze_nil,upds,place_nil]) rfl
           have hstab:∀ b,S b→(w.setRow g cur').heap[b]?=w.heap[b]?:=fun b hS=>setRow_other w g b _ fun he=>by
            subst he
            exact (h.own ob _ b hob rfl (by rw [hω]; rfl)).1 hS
           refine h.setObj hob rfl hω ((Fr_setRow w g cur').mono fun b hb=>by rw [hb]; rfl) ⟨_,e,agg,lv,ds.take l++List.replicate (n - l) ((zeroEl agg lv).den ν),vs.take (l * lv.length)++(Builtin.zeroCells z.cells (n - l)).toList,hω,by rw [htt]; exact hti,hden',?_,?_⟩
           · have hlen2:(ds.take l++List.replicate (n - l) ((zeroEl agg lv).den ν)).length=n:=by
              rw [List.length_append,List.length_take,List.length_replicate]; omega
             rw [hlen2]
             refine ⟨by rw [←hvs',List.length_take,hcur'l,List.length_append,List.length_append,List.length_take,List.length_drop,hzl,hcl]; omega,.inr ⟨g,cap,cur',rfl,Nat.zero_le _,heap_setRow_same w g cur cur' e hg,hnc,hcm,?_,hvs'⟩⟩
             rw [←Array.length_toList (xs:=cur'),hcur'l,List.length_append,List.length_append,List.length_take,List.length_drop,hzl,hcl,←hcs]
             omega
           · refine RowCells.mono (RowCells.app (fun jj cc kk hj2 hk2=>?_) ?_ (zeros_cells hone hzz (n - l))) hstab fun _ h=>h
             · rw [List.length_take] at hj2
               have hcl2:cc < lv.length:=(List.getElem?_eq_some_iff.1 hk2).1
               have e1:(ds.take l).getD jj default=ds.getD jj default:=by
                rw [List.getD_eq_getElem?_getD,List.getD_eq_getElem?_getD,List.getElem?_take,if_pos (by omega)]
               have e2:(vs.take (l * lv.length)).getD (jj * lv.length+cc) undef=vs.getD (jj * lv.length+cc) undef:=by
                rw [List.getD_eq_getElem?_getD,List.getD_eq_getElem?_getD,List.getElem?_take,if_pos (cellIdx_lt (by omega) hcl2)]
               rw [e1,e2]
               exact hrc jj cc kk (by omega) hk2
             · rw [List.length_take,List.length_take,hown.1]
               have:l * lv.length≤ds.length * lv.length:=Nat.mul_le_mul_right _ (by omega)
               rw [Nat.min_eq_left this,Nat.min_eq_left (by omega)]
     · exact hr.elim
   · exact hr.elim
 · exact hr.elim
end
end Go.SX
