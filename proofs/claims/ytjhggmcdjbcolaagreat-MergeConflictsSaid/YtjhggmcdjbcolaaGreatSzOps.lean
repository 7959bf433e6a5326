/-
One operation: what the executor says of it, the machine does.
-/
import Derived.Test.YtjhggmcdjbcolaaGreatSzTypes
set_option linter.unusedVariables false
set_option linter.unusedSimpArgs false
set_option linter.unusedSectionVars false
namespace Go.SX
open Go.RowKit
def NewAt (σ:St) (ω ω' : Nat→Option Value) (k:Nat):Prop:=∀ o,ω' o≠none→ω o≠none ∨ (σ.nb≤o∧o < σ.nb+k)
def Post (C:Cx) (σ:St) (ω:Nat→Option Value) (dst:Option Tmp) (K' : Delta→T) (r:List D) (ds:List Deferred) (a' : Act) (w' : World):Prop :=
 a'.defers=ds∧∃ δ ν' S' ω',(K' δ).Run C.R ν' r∧Sim C (σ.app dst δ) ν' S' ω' a'.tmps w'∧NewAt σ ω ω' δ.new.length
theorem freeze_nil (objs:List SObj):freeze objs []=objs:=by
 apply List.ext_getElem?
 intro o
 rw [freeze_get]
 cases objs[o]? <;> simp
theorem app_dst (σ:St) (d:Option Tmp) (δ:Delta):σ.app d δ={ σ.app none δ with slots:=setS σ.slots d δ.dst }:=by cases d <;> rfl
theorem Sim.app_pure {C:Cx} {σ:St} {ν:List D} {S:Nat→Prop} {ω:Nat→Option Value} {tm:Array Value} {w:World} (h:Sim C σ ν S ω tm w) (s:Slot):Sim C (σ.app none { dst:=s,upd:=[],new:=[],fz:=[],dn:=0 }) ν S ω tm w:=by
 have:σ.app none { dst:=s,upd:=[],new:=[],fz:=[],dn:=0 }={ σ with nb:=σ.objs.length,vb:=σ.nv }:=by
  simp [St.app,St.objsOf,freeze_nil,upds,place_nil]
 rw [this]
 exact h.renb _ _
theorem NewAt.refl (σ:St) (ω:Nat→Option Value) (k:Nat):NewAt σ ω ω k:=fun _ h=>.inl h
theorem NewAt.upd (σ:St) (ω:Nat→Option Value) (v:Value):NewAt σ ω (upd1 ω σ.nb v) 1:=by
 intro o ho
 by_cases h:o=σ.nb
 · subst h; exact .inr ⟨Nat.le_refl _,by omega⟩
 · unfold upd1 at ho
   rw [if_neg h] at ho
   exact .inl ho
section
variable {C:Cx} {σ:St} {ν:List D} {S:Nat→Prop} {ω:Nat→Option Value} {w:World} {r:List D} {a:Act} {o:Oper} {Q:Exit→Act→World→Prop} {K' : Delta→T}
theorem post_val {w' : World} {v:Value} {δ:Delta} {ν' : List D} {S' : Nat→Prop} {ω' : Nat→Option Value} (hrun:(execOp a.eval o).run C.P w=.ok (.value v) w') (hK:(K' δ).Run C.R ν' r)
 (hs:Sim C (σ.app none δ) ν' S' ω' a.tmps w') (hω:NewAt σ ω ω' δ.new.length) (hv:SlotR C.ti w' S' ω' ν' δ.dst v):o.wp C.P a w (Post C σ ω o.dst K' r a.defers) Q:=by
 unfold Oper.wp
 rw [hrun,Oper.upon_value]
 refine ⟨by cases o.dst <;> rfl,δ,ν',S',ω',hK,?_,hω⟩
 rw [put_tmps,app_dst]
 exact hs.slot o.dst hv
theorem post_skip {w' : World} {δ:Delta} {ν' : List D} {S' : Nat→Prop} {ω' : Nat→Option Value} (hrun:(execOp a.eval o).run C.P w=.ok .skip w') (hK:(K' δ).Run C.R ν' r)
 (hs:Sim C (σ.app none δ) ν' S' ω' a.tmps w') (hω:NewAt σ ω ω' δ.new.length) (hd:δ.dst=.no):o.wp C.P a w (Post C σ ω o.dst K' r a.defers) Q:=by
 unfold Oper.wp
 rw [hrun,Oper.upon_skip]
 refine ⟨by cases o.dst <;> rfl,δ,ν',S',ω',hK,?_,hω⟩
 rw [put_tmps,app_dst]
 exact hs.slot o.dst (by rw [hd]; trivial)
theorem post_pure (h:Sim C σ ν S ω a.tmps w) {v:Value} {s:Slot} (hrun:(execOp a.eval o).run C.P w=.ok (.value v) w) (hK:(okDst K' σ s).Run C.R ν r) (hv:SlotR C.ti w S ω ν s v) :
 o.wp C.P a w (Post C σ ω o.dst K' r a.defers) Q :=
 post_val hrun hK (h.app_pure s) (NewAt.refl _ _ _) hv
theorem post_one (h:Sim C σ ν S ω a.tmps w) {v:Value} {s:SV1} (hrun:(execOp a.eval o).run C.P w=.ok (.value v) w) (hK:(ok1 K' σ s).Run C.R ν r) (hv:SR C.ti w S ω ν s v) :
 o.wp C.P a w (Post C σ ω o.dst K' r a.defers) Q:=post_pure h hrun hK hv
/-! ### Looking -/
theorem constSlot_sound (ty:TypeId) (v:Value):SlotR C.ti w S ω ν (constSlot ty v) v:=by
 unfold constSlot
 split
 · exact .bool _
 · exact .int _ _
 · exact .str _
 · rfl
 · rfl
 · rfl
 · rfl
 · trivial
theorem look_sound (h:Sim C σ ν S ω a.tmps w) (ty:TypeId) (x:Operand):SlotR C.ti w S ω ν (look σ ty x) (a.eval x):=by
 cases x with
 | tmp t =>
  simp only [look,Act.eval]
  cases hs:σ.slots[t]? with
  | none=>trivial
  | some s=>exact h.slots t s hs
 | const v=>exact constSlot_sound ty v
 | global g=>trivial
 | func f=>exact ⟨[],rfl,.nil⟩
theorem lookSV_sound (h:Sim C σ ν S ω a.tmps w) {ty:TypeId} {x:Operand} {v:SV} (hx:lookSV σ ty x=some v):SVR C.ti w S ω ν v (a.eval x):=by
 have:=look_sound h ty x
 unfold lookSV at hx
 split at hx
 · rename_i v' hv
   cases hx
   rw [hv] at this
   exact this
 · cases hx
theorem look1_sound (h:Sim C σ ν S ω a.tmps w) {ty:TypeId} {x:Operand} {v:SV1} (hx:look1 σ ty x=some v):SR C.ti w S ω ν v (a.eval x):=by
 have:=look_sound h ty x
 unfold look1 at hx
 split at hx
 · rename_i v' hv
   cases hx
   rw [hv] at this
   exact this
 · cases hx
theorem lookE_sound (h:Sim C σ ν S ω a.tmps w) {x:Operand} {k:K} {y:E} (hx:lookE σ x=some (k,y)):Rd C.ti w S k (y.den ν) (a.eval x):=by
 have:=look_sound h 0 x
 unfold lookE at hx
 split at hx
 · rename_i k' y' hv
   cases hx
   rw [hv] at this
   exact this
 · cases hx
/-! ### What is known, checks -/
theorem knownE_sound (h:Sim C σ ν S ω a.tmps w) {c:E} {b:Bool} (hk:knownE σ c=some b):(c.den ν).toBool=b:=by
 unfold knownE at hk
 split at hk
 · cases hk; rfl
 · obtain ⟨p,hp,rfl⟩:=Option.map_eq_some_iff.1 hk
   have h1:=List.find?_some hp
   have h2:=List.mem_of_find?_eq_some hp
   have:p.1=c:=by simpa using h1
   subst this
   exact h.known p.1 p.2 h2
theorem ckIf_sound (h:Sim C σ ν S ω a.tmps w) {c:E} {t:T} (hr:(ckIf σ c t).Run C.R ν r):(c.den ν).toBool=true∧t.Run C.R ν r:=by
 unfold ckIf at hr
 split at hr
 · rename_i hk
   exact ⟨knownE_sound h hk,hr⟩
 · exact hr
theorem lenE_den (x:E) (ν:List D):(lenE x).den ν=.int (x.den ν).toList.length:=by
 induction x with
 | o2 op x y ihx ihy =>
  cases op <;> try rfl
  simp only [lenE]
  split
  · rename_i n m hn hm
    rw [hn] at ihx
    rw [hm] at ihy
    simp only [E.den,D.int.injEq] at ihx ihy
    simp [E.den,O2.den,D.toList,ihx,ihy]
  · rfl
 | o1 op x ih=>cases op <;> rfl
 | _=>rfl
theorem ltB_sound {x y:E} (h:ltB x y=true) (ν:List D):(x.den ν).toInt < (y.den ν).toInt:=by
 cases x <;> cases y <;> simp [ltB] at h
 exact h
theorem leB_sound {x y:E} (h:leB x y=true) (ν:List D):(x.den ν).toInt≤(y.den ν).toInt:=by
 cases x <;> cases y <;> simp [leB] at h
 exact h
theorem ckRange_sound (h:Sim C σ ν S ω a.tmps w) {i n:E} {t:T} (hr:(ckRange σ i n t).Run C.R ν r):0≤(i.den ν).toInt∧(i.den ν).toInt < (n.den ν).toInt∧t.Run C.R ν r:=by
 unfold ckRange at hr
 split at hr
 · rename_i hb
   simp only [Bool.and_eq_true] at hb
   exact ⟨leB_sound hb.1 ν,ltB_sound hb.2 ν,hr⟩
 · obtain ⟨h1,h2⟩:=ckIf_sound h hr
   have h3:0≤(i.den ν).toInt∧(i.den ν).toInt < (n.den ν).toInt:=by
    have:(decide (0≤(i.den ν).toInt)&&decide ((i.den ν).toInt < (n.den ν).toInt))=true:=h1
    simpa using this
   exact ⟨h3.1,h3.2,h2⟩
theorem ckLe_sound (h:Sim C σ ν S ω a.tmps w) {x y:E} {t:T} (hr:(ckLe σ x y t).Run C.R ν r):(x.den ν).toInt≤(y.den ν).toInt∧t.Run C.R ν r:=by
 unfold ckLe at hr
 split at hr
 · rename_i hb; exact ⟨leB_sound hb ν,hr⟩
 · obtain ⟨h1,h2⟩:=ckIf_sound h hr
   simp only [E.den,O2.den,D.toBool,decide_eq_true_eq] at h1
   exact ⟨h1,h2⟩
theorem notE_den (c:E) (ν:List D):(notE c).den ν=.bool (!(c.den ν).toBool):=by
 unfold notE
 split <;> rfl
theorem Rd.int_inv {ti:TypeId→TI} {k:IntKind} {d:D} {v:Value} (h:Rd ti w S (.int k) d v):d=.int d.toInt∧v=.int k d.toInt:=by cases h; exact ⟨rfl,rfl⟩
theorem Rd.bool_inv {ti:TypeId→TI} {d:D} {v:Value} (h:Rd ti w S .bool d v):d=.bool d.toBool∧v=.bool d.toBool:=by cases h; exact ⟨rfl,rfl⟩
theorem Rd.str_inv {ti:TypeId→TI} {d:D} {v:Value} (h:Rd ti w S .str d v):d=.str d.toStr∧v=.string d.toStr:=by cases h; exact ⟨rfl,rfl⟩
end
end Go.SX
