/-
Comparisons and arithmetic: what the executor says of them, the machine does.
-/
import Derived.Test.YtjhggmcdjbcolaaGreatSzOps
import Derived.Laws.Strings
set_option linter.unusedVariables false
set_option linter.unusedSimpArgs false
set_option linter.unusedSectionVars false
namespace Go.SX
open Go.RowKit
section
variable {C:Cx} {σ:St} {ν:List D} {S:Nat→Prop} {ω:Nat→Option Value} {w:World} {r:List D} {a:Act} {o:Oper} {Q:Exit→Act→World→Prop} {K' : Delta→T}
theorem bytesLt_eq:∀ (x y:List UInt8),Op.bytesLess x y=bytesLt x y
 | _,[]=>by cases ‹List UInt8› <;> rfl
 | [],_::_=>rfl
 | a::x,b::y=>by simp only [Op.bytesLess,bytesLt,bytesLt_eq x y]
theorem bytesLt_gt:∀ (x y:List UInt8),bytesLt y x=(!bytesLt x y&&!(x == y))
 | [],[]=>by simp [bytesLt]
 | [],_::_=>by simp [bytesLt]
 | _::_,[]=>by simp [bytesLt]
 | a::x,b::y=>by
  simp only [bytesLt,bytesLt_gt x y]
  rcases Nat.lt_trichotomy a.toNat b.toNat with h | h | h
  · have h1:a < b:=h
    have h2:¬ b < a:=fun k=>Nat.lt_asymm h k
    have h3:a≠b:=fun k=>by subst k; exact Nat.lt_irrefl _ h
    simp [h1,h2,h3,Ne.symm h3]
  · have h1:a=b:=UInt8.toNat_inj.1 h
    subst h1
    simp
  · have h1:b < a:=h
    have h2:¬ a < b:=fun k=>Nat.lt_asymm h k
    have h3:a≠b:=fun k=>by subst k; exact Nat.lt_irrefl _ h
    simp [h1,h2,h3,Ne.symm h3]
theorem execOp_bin {op:BinOp} {t t2:TypeId} {x y:Operand} (ho:o.op=.binOp op t x y t2) (ρ:Operand→Value):execOp ρ o=(do let v ←(do eqGuard op t x y (ρ x) (ρ y); binOp op t (ρ x) (ρ y)); pure (.value v)):=by
 unfold execOp
 simp only [ho]
theorem run_equal_bool {P:Program} {t:TypeId} (hu:P.underlying t=some .bool) (a b:Bool):(Op.equal t (.bool a) (.bool b)).run P w=.ok (a == b) w:=by
 have key:∀ d,(Op.equalIn (d+1) t (.bool a) (.bool b)).run P w=.ok (a == b) w:=fun d=>by simp [Op.equalIn,run_underlying hu]
 exact key 9999
theorem binE_sound {P:Program} {ti:TypeId→TI} (hT:TyOK P ti) {op:BinOp} {t:TypeId} {x y:Operand} {k k2:K} {e1 e2 c:E} {v1 v2:Value} (h:binE op k e1 e2=some (k2,c)) (hb:k=.bool→ti t=.one .bool)
 (h1:Rd ti w S k (e1.den ν) v1) (h2:Rd ti w S k (e2.den ν) v2) (hs:k=.str→op=.add→(e1.den ν).toStr.size+(e2.den ν).toStr.size≤4000000000) :
 ∃ v,(do eqGuard op t x y v1 v2; binOp op t v1 v2:Sem Value).run P w=.ok v w∧Rd ti w S k2 (c.den ν) v:=by
 cases k with
 | int ik =>
  obtain ⟨d1,rfl⟩:=h1.int_inv
  obtain ⟨d2,rfl⟩:=h2.int_inv
  cases op <;> simp only [binE,Option.some.injEq,Prod.mk.injEq] at h <;> try (simp at h; done)
  all_goals (obtain ⟨rfl,rfl⟩:=h)
  all_goals (simp only [eqGuard,binOp,Op.intArith,Op.intBits,Op.intCmp,notE_den]; simp)
  · exact .int _ _
  · exact .int _ _
  · exact .int _ _
  · simpa [E.den,O2.den] using Rd.int (ti:=ti) (w:=w) (S:=S) ik (IntKind.wrap ik ((BitVec.ofInt ik.bits (e1.den ν).toInt &&& BitVec.ofInt ik.bits (e2.den ν).toInt).toNat:Int))
  · simpa [E.den,O2.den] using Rd.int (ti:=ti) (w:=w) (S:=S) ik (IntKind.wrap ik ((BitVec.ofInt ik.bits (e1.den ν).toInt ||| BitVec.ofInt ik.bits (e2.den ν).toInt).toNat:Int))
  · simpa [E.den,O2.den] using Rd.int (ti:=ti) (w:=w) (S:=S) ik (IntKind.wrap ik ((BitVec.ofInt ik.bits (e1.den ν).toInt ^^^ BitVec.ofInt ik.bits (e2.den ν).toInt).toNat:Int))
  all_goals exact Rd.bool _
 | bool =>
  obtain ⟨d1,rfl⟩:=h1.bool_inv
  obtain ⟨d2,rfl⟩:=h2.bool_inv
  have hu:P.underlying t=some .bool:=by
   have:=hT t
   unfold TyF at this
   rw [hb rfl] at this
   obtain ⟨d,z,⟨hu,_⟩,hd,_⟩:=this
   cases d <;> simp [DescK] at hd
   exact hu
  cases op <;> simp only [binE,Option.some.injEq,Prod.mk.injEq] at h <;> try (simp at h; done)
  all_goals (obtain ⟨rfl,rfl⟩:=h)
  all_goals (simp only [eqGuard,binOp,notE_den]; simp [run_equal_bool hu])
  all_goals exact Rd.bool _
 | str =>
  obtain ⟨d1,rfl⟩:=h1.str_inv
  obtain ⟨d2,rfl⟩:=h2.str_inv
  cases op <;> simp only [binE,Option.some.injEq,Prod.mk.injEq] at h <;> try (simp at h; done)
  all_goals (obtain ⟨rfl,rfl⟩:=h)
  · have:=hs rfl rfl
    have hn:¬ (((e1.den ν).toStr.size+(e2.den ν).toStr.size:Nat):Int) > IntKind.i64.max:=by
     have:IntKind.i64.max=9223372036854775807:=by decide
     omega
    simp only [eqGuard,binOp,Op.stringOp,if_neg hn]
    simp
    exact .str _
  all_goals (simp only [eqGuard,binOp,Op.stringOp,notE_den,bytesLt_eq]; simp)
  · exact Rd.bool _
  · exact Rd.bool _
  · exact Rd.bool _
  · rw [←bytesLt_gt]
    exact Rd.bool _
 | sl t=>cases op <;> simp [binE] at h
/-! ### Structs and arrays are compared cell by cell -/
def VK:Option K→Value→Prop
 | some (.int k),v=>∃ n,v=.int k n
 | some .bool,v=>∃ b,v=.bool b
 | some .str,v=>∃ s,v=.string s
 | _,_=>False
def eqV:Value→Value→Bool
 | .int _ a,.int _ b=>a == b
 | .bool a,.bool b=>a == b
 | .string a,.string b=>a == b
 | _,_=>false
def eqVs:List Value→List Value→Bool
 | [],[]=>true
 | a::r,b::q=>eqV a b&&eqVs r q
 | _,_=>false
def EqTy (P:Program) (ti:TypeId→TI) (t:TypeId):Prop:=∀ st lv fs,ti t=.ag st lv fs→∀ (w:World) (vs us:List Value),All2 VK lv vs→All2 VK lv us →
 (Op.equal t (.agg vs.toArray) (.agg us.toArray)).run P w=.ok (eqVs vs us) w∧∀ op x y,(eqGuard op t x y (.agg vs.toArray) (.agg us.toArray)).run P w=.ok () w
theorem byteArray_beq (a b:ByteArray):(a.toList == b.toList)=(a == b):=by
 have h:(a == b)=(a.data == b.data):=by cases a; cases b; rfl
 rw [ByteArray.toList_eq,ByteArray.toList_eq,h,Bool.eq_iff_iff,beq_iff_eq,beq_iff_eq,Array.toList_inj]
theorem eqCells_sound {ti:TypeId→TI}:∀ {ks ys:List (K × E)} {cs:List E} {lv:List (Option K)} {vs us:List Value},eqCells ks ys=some cs→ks.map (fun p=>some p.1)=lv→ys.map (fun p=>some p.1)=lv →
 All2 (fun p v=>Rd ti w S p.1 (p.2.den ν) v) ks vs→All2 (fun p v=>Rd ti w S p.1 (p.2.den ν) v) ys us→All2 VK lv vs∧All2 VK lv us∧(andE cs).den ν=.bool (eqVs vs us)
 | [],[],cs,lv,vs,us,h,h1,h2,g1,g2=>by
  simp [eqCells] at h; subst h
  cases g1; cases g2
  simp at h1; subst h1
  exact ⟨.nil,.nil,rfl⟩
 | (k,x)::r,(k',y)::r',cs,lv,vs,us,h,h1,h2,g1,g2=>by
  simp only [eqCells] at h
  split at h
  · rename_i hk
    subst hk
    split at h
    · rename_i k2 c cs' hb hr
      simp only [Option.some.injEq] at h
      subst h
      cases g1 with
      | cons a1 b1=>cases g2 with
       | cons a2 b2 =>
        simp only [List.map_cons] at h1
        subst h1
        simp only [List.map_cons,List.cons.injEq,true_and] at h2
        obtain ⟨i1,i2,i3⟩:=eqCells_sound hr rfl h2 b1 b2
        rename_i u1 q1 u2 q2
        have hc:∃ b,VK (some k) u1∧VK (some k) u2∧c.den ν=.bool b∧b=eqV u1 u2:=by
         cases k with
         | int ik =>
          obtain ⟨d1,rfl⟩:=a1.int_inv
          obtain ⟨d2,rfl⟩:=a2.int_inv
          simp only [binE,Option.some.injEq,Prod.mk.injEq] at hb
          obtain ⟨_,rfl⟩:=hb
          exact ⟨_,⟨_,rfl⟩,⟨_,rfl⟩,rfl,rfl⟩
         | bool =>
          obtain ⟨d1,rfl⟩:=a1.bool_inv
          obtain ⟨d2,rfl⟩:=a2.bool_inv
          simp only [binE,Option.some.injEq,Prod.mk.injEq] at hb
          obtain ⟨_,rfl⟩:=hb
          exact ⟨_,⟨_,rfl⟩,⟨_,rfl⟩,rfl,rfl⟩
         | str =>
          obtain ⟨d1,rfl⟩:=a1.str_inv
          obtain ⟨d2,rfl⟩:=a2.str_inv
          simp only [binE,Option.some.injEq,Prod.mk.injEq] at hb
          obtain ⟨_,rfl⟩:=hb
          exact ⟨_,⟨_,rfl⟩,⟨_,rfl⟩,rfl,byteArray_beq _ _⟩
         | sl t=>simp [binE] at hb
        obtain ⟨b,v1,v2,e1,e2⟩:=hc
        refine ⟨.cons v1 i1,.cons v2 i2,?_⟩
        cases cs' with
        | nil =>
         have:eqVs q1 q2=true:=by simpa [andE,E.den] using i3.symm
         simp [andE,e1,eqVs,this,e2]
        | cons c' r2=>simp [andE,E.den,O2.den,e1,i3,D.toBool,eqVs,e2]
    · simp at h
  · simp at h
 | [],_::_,_,_,_,_,h,_,_,_,_=>by simp [eqCells] at h
 | _::_,[],_,_,_,_,h,_,_,_,_=>by simp [eqCells] at h
theorem run_equal_slice_nil {P:Program} {t e:TypeId} (hu:P.underlying t=some (.slice e)) (b:Option Addr) (n c:Nat):(Op.equal t (.slice b n c) (.slice none 0 0)).run P w=.ok b.isNone w:=by
 have key:∀ d,(Op.equalIn (d+1) t (.slice b n c) (.slice none 0 0)).run P w=.ok b.isNone w:=fun d=>by
  cases b <;> simp [Op.equalIn,run_underlying hu]
 exact key 9999
theorem sl_und {P:Program} {ti:TypeId→TI} (hT:TyOK P ti) {t e:TypeId} {agg:Bool} {lv:List K} (h:ti t=.sl e agg lv):P.underlying t=some (.slice e):=by
 have:=hT t
 unfold TyF at this
 rw [h] at this
 exact this.1.und
section
variable (hT:TyOK C.P C.ti) (h:Sim C σ ν S ω a.tmps w) {op:BinOp} {t t2:TypeId} {x y:Operand} (ho:o.op=.binOp op t x y t2)
include h ho
theorem bin_fin {v:Value} {k2:K} {c:E} (hrun:(do eqGuard op t x y (a.eval x) (a.eval y); binOp op t (a.eval x) (a.eval y):Sem Value).run C.P w=.ok v w) (hr:Rd C.ti w S k2 (c.den ν) v) (hK:(ok1 K' σ (.e k2 c)).Run C.R ν r) :
 o.wp C.P a w (Post C σ ω o.dst K' r a.defers) Q:=by
 refine post_one h (v:=v) ?_ hK hr
 rw [execOp_bin ho,Sem.run_bind,hrun]
 rfl
theorem nzCk_sound {b:E} {t' : T} (hr:(nzCk σ b t').Run C.R ν r):(b.den ν).toInt≠0∧t'.Run C.R ν r:=by
 unfold nzCk at hr
 split at hr
 · split at hr
   · exact hr.elim
   · rename_i n hn; exact ⟨hn,hr⟩
 · obtain ⟨h1,h2⟩:=ckIf_sound h hr
   rw [notE_den] at h1
   refine ⟨fun h0=>?_,h2⟩
   have:(!((b.den ν).toInt == (0:Int)))=true:=h1
   rw [h0] at this
   simp at this
theorem nnCk_sound {b:E} {t' : T} (hr:(nnCk σ b t').Run C.R ν r):0≤(b.den ν).toInt∧t'.Run C.R ν r:=by
 unfold nnCk at hr
 split at hr
 · split at hr
   · rename_i n hn; exact ⟨hn,hr⟩
   · exact hr.elim
 · obtain ⟨h1,h2⟩:=ckIf_sound h hr
   have h1' : decide ((0:Int)≤(b.den ν).toInt)=true:=h1
   exact ⟨by simpa using h1',h2⟩
theorem stepDiv_sound {quo:Bool} (hop:op=if quo then .quo else .rem) {k k' : K} {e1 e2:E} (hx:Rd C.ti w S k (e1.den ν) (a.eval x)) (hy:Rd C.ti w S k' (e2.den ν) (a.eval y)) (hr:(stepDiv quo k k' e1 e2 σ K').Run C.R ν r) :
 o.wp C.P a w (Post C σ ω o.dst K' r a.defers) Q:=by
 unfold stepDiv at hr
 split at hr
 · rename_i ik
   split at hr
   · rename_i hk
     subst hk
     obtain ⟨h0,h1⟩:=nzCk_sound h ho hr
     obtain ⟨d1,v1⟩:=hx.int_inv
     obtain ⟨d2,v2⟩:=hy.int_inv
     cases quo
     · subst hop
       refine bin_fin h ho (v:=.int ik ((e1.den ν).toInt.tmod (e2.den ν).toInt)) ?_ (.int _ _) h1
       rw [v1,v2]
       simp [eqGuard,binOp,Op.intDiv,h0]
     · subst hop
       refine bin_fin h ho (v:=.int ik (ik.wrap ((e1.den ν).toInt.tdiv (e2.den ν).toInt))) ?_ (.int _ _) h1
       rw [v1,v2]
       simp [eqGuard,binOp,Op.intDiv,h0]
   · exact hr.elim
 · exact hr.elim
theorem stepShift_sound {left:Bool} (hop:op=if left then .shl else .shr) {k k' : K} {e1 e2:E} (hx:Rd C.ti w S k (e1.den ν) (a.eval x)) (hy:Rd C.ti w S k' (e2.den ν) (a.eval y)) (hr:(stepShift left k k' e1 e2 σ K').Run C.R ν r) :
 o.wp C.P a w (Post C σ ω o.dst K' r a.defers) Q:=by
 unfold stepShift at hr
 split at hr
 · rename_i ik ik'
   obtain ⟨h0,h1⟩:=nnCk_sound h ho hr
   obtain ⟨d1,v1⟩:=hx.int_inv
   obtain ⟨d2,v2⟩:=hy.int_inv
   have hlt:¬ (e2.den ν).toInt < 0:=by omega
   cases left
   · subst hop
     refine bin_fin h ho (v:=.int ik ((e1.den ν).toInt.fdiv (2 ^ (min (e2.den ν).toInt.toNat ik.bits)))) ?_ (.int _ _) h1
     rw [v1,v2]
     simp [eqGuard,binOp,Op.shift,hlt]
   · subst hop
     refine bin_fin h ho (v:=.int ik (ik.wrap ((e1.den ν).toInt * 2 ^ (min (e2.den ν).toInt.toNat ik.bits)))) ?_ (.int _ _) h1
     rw [v1,v2]
     simp [eqGuard,binOp,Op.shift,hlt]
 · exact hr.elim
include hT
theorem stepPlain_sound {k k' : K} {e1 e2:E} (hx:Rd C.ti w S k (e1.den ν) (a.eval x)) (hy:Rd C.ti w S k' (e2.den ν) (a.eval y)) (hr:(stepPlain C.ti op t k k' e1 e2 σ K').Run C.R ν r) :
 o.wp C.P a w (Post C σ ω o.dst K' r a.defers) Q:=by
 unfold stepPlain at hr
 split at hr
 · rename_i hk
   obtain ⟨rfl,hkb⟩:=hk
   split at hr
   · rename_i k2 c hb
     have hh:(k=.str→op=.add→(e1.den ν).toStr.size+(e2.den ν).toStr.size≤4000000000)∧(ok1 K' σ (.e k2 c)).Run C.R ν r:=by
      split at hr
      · obtain ⟨h1,h2⟩:=ckIf_sound h hr
        refine ⟨fun _ _=>?_,h2⟩
        have h1' : (decide (((e1.den ν).toStr.size:Int)≤(1073741824:Int))&&decide (((e2.den ν).toStr.size:Int)≤(1073741824:Int)))=true:=h1
        simp at h1'
        omega
      · rename_i hn
        exact ⟨fun a b=>absurd ⟨a,b⟩ hn,hr⟩
     obtain ⟨v,hrun,hrd⟩:=binE_sound hT (x:=x) (y:=y) hb hkb hx hy hh.1
     exact bin_fin h ho hrun hrd hh.2
   · exact hr.elim
 · exact hr.elim
theorem nil_key {t' : TypeId} {e1:E} (hx:Rd C.ti w S (.sl t') (e1.den ν) (a.eval x)) (hy:a.eval y=.slice none 0 0) {e:TypeId} {agg:Bool} {lv:List K} (hti:C.ti t=.sl e agg lv) :
 ∃ b:Bool,(b=true→(e1.den ν).toList=[])∧(Op.equal t (a.eval x) (a.eval y)).run C.P w=.ok b w∧(∀ op,(eqGuard op t x y (a.eval x) (a.eval y)).run C.P w=.ok () w) ∧
  (binOp .eql t (a.eval x) (a.eval y)=do pure (.bool (←Op.equal t (a.eval x) (a.eval y))))∧(binOp .neq t (a.eval x) (a.eval y)=do pure (.bool (!(←Op.equal t (a.eval x) (a.eval y))))):=by
 have hu:=sl_und hT hti
 rw [hy]
 generalize e1.den ν=d1 at *
 generalize a.eval x=v1 at *
 cases hx with
 | sl0 _ b cap=>exact ⟨b.isNone,fun _=>rfl,run_equal_slice_nil hu _ _ _,fun op=>by cases op <;> rfl,rfl,rfl⟩
 | sl _ _ _ _ xs b off cap u=>exact ⟨false,fun h=>by simp at h,by simpa using run_equal_slice_nil (w:=w) hu (some ⟨b,off,none⟩) xs.length cap,fun op=>by cases op <;> rfl,rfl,rfl⟩
theorem stepNil_sound {t' : TypeId} {e1:E} (hx:Rd C.ti w S (.sl t') (e1.den ν) (a.eval x)) (hy:a.eval y=.slice none 0 0) (hr:(stepNil C.ti op t e1 σ K').Run C.R ν r):o.wp C.P a w (Post C σ ω o.dst K' r a.defers) Q:=by
 unfold stepNil at hr
 split at hr
 · rename_i e agg lv hti
   obtain ⟨b,hb,hrun,hg,he,_⟩:=nil_key hT h ho hx hy hti
   obtain ⟨h1,h2⟩:=hr
   have hrun2:(execOp a.eval o).run C.P w=.ok (.value (.bool b)) w:=by
    rw [execOp_bin ho,he]
    simp [hg,hrun]
   cases b with
   | true=>exact post_one h hrun2 (h2 (hb rfl)) (.bool _)
   | false=>exact post_one h hrun2 h1 (.bool _)
 · rename_i e agg lv hti
   obtain ⟨b,hb,hrun,hg,_,he⟩:=nil_key hT h ho hx hy hti
   obtain ⟨h1,h2⟩:=hr
   have hrun2:(execOp a.eval o).run C.P w=.ok (.value (.bool (!b))) w:=by
    rw [execOp_bin ho,he]
    simp [hg,hrun]
   cases b with
   | true=>exact post_one h hrun2 (h2 (hb rfl)) (.bool _)
   | false=>exact post_one h hrun2 h1 (.bool _)
 · exact hr.elim
theorem stepNils_sound (hx:a.eval x=.slice none 0 0) (hy:a.eval y=.slice none 0 0) (hr:(stepNils C.ti op t σ K').Run C.R ν r):o.wp C.P a w (Post C σ ω o.dst K' r a.defers) Q:=by
 unfold stepNils at hr
 split at hr
 · rename_i e agg lv hti
   have hrun:=run_equal_slice_nil (w:=w) (sl_und hT hti) none 0 0
   refine post_one h (v:=.bool true) ?_ hr (.bool _)
   rw [execOp_bin ho,hx,hy]
   simp [eqGuard,binOp,hrun]
 · rename_i e agg lv hti
   have hrun:=run_equal_slice_nil (w:=w) (sl_und hT hti) none 0 0
   refine post_one h (v:=.bool false) ?_ hr (.bool _)
   rw [execOp_bin ho,hx,hy]
   simp [eqGuard,binOp,hrun]
 · exact hr.elim
theorem stepEq_sound {eqt:List TypeId} (hE:∀ t,t∈eqt→EqTy C.P C.ti t) {l m:List SV1} (hx:SVR C.ti w S ω ν (.ag l) (a.eval x)) (hy:SVR C.ti w S ω ν (.ag m) (a.eval y)) (hr:(stepEq C.ti eqt op t l m σ K').Run C.R ν r) :
 o.wp C.P a w (Post C σ ω o.dst K' r a.defers) Q:=by
 unfold stepEq at hr
 split at hr
 · rename_i heq
   split at hr
   · rename_i ks l1 ys l2 st lv fs hk1 hk2 hti
     split at hr
     · rename_i hlv
       obtain ⟨vs,hvx,hvs⟩:=hx
       obtain ⟨us,hvy,hus⟩:=hy
       obtain ⟨d1,_⟩:=datasOf_sound h.objs hk1 hvs
       obtain ⟨d2,_⟩:=datasOf_sound h.objs hk2 hus
       have d1':=d1.imp (R':=fun p v=>Rd C.ti w (SL S ω (l1++l2)) p.1 (p.2.den ν) v) fun p v q=>q.sub (SL.mono (by simp; intro o h; exact .inl h))
       have d2':=d2.imp (R':=fun p v=>Rd C.ti w (SL S ω (l1++l2)) p.1 (p.2.den ν) v) fun p v q=>q.sub (SL.mono (by simp; intro o h; exact .inr h))
       split at hr
       · rename_i cs hcs
         obtain ⟨q1,q2,q3⟩:=eqCells_sound hcs hlv.1 hlv.2 d1' d2'
         obtain ⟨e1,e2⟩:=hE t (by simpa using heq) st lv fs hti w vs us q1 q2
         refine post_one h (v:=.bool (eqVs vs us)) ?_ hr (by show Rd _ _ _ .bool (E.den ν _) _; rw [q3]; exact .bool _)
         rw [execOp_bin ho,hvx,hvy]
         have:binOp .eql t (.agg vs.toArray) (.agg us.toArray)=(do let b ←Op.equal t (.agg vs.toArray) (.agg us.toArray); pure (.bool b)):=rfl
         simp [e2,this,e1]
       · rename_i cs hcs
         obtain ⟨q1,q2,q3⟩:=eqCells_sound hcs hlv.1 hlv.2 d1' d2'
         obtain ⟨e1,e2⟩:=hE t (by simpa using heq) st lv fs hti w vs us q1 q2
         refine post_one h (v:=.bool (!eqVs vs us)) ?_ hr (by show Rd _ _ _ .bool (E.den ν _) _; rw [notE_den,q3]; exact .bool _)
         rw [execOp_bin ho,hvx,hvy]
         have:binOp .neq t (.agg vs.toArray) (.agg us.toArray)=(do let b ←Op.equal t (.agg vs.toArray) (.agg us.toArray); pure (.bool (!b))):=rfl
         simp [e2,this,e1]
       · exact hr.elim
     · exact hr.elim
   · exact hr.elim
 · exact hr.elim
theorem stepBin_sound {eqt:List TypeId} (hE:∀ t,t∈eqt→EqTy C.P C.ti t) (hr:(stepBin C.ti eqt op t x y σ K').Run C.R ν r):o.wp C.P a w (Post C σ ω o.dst K' r a.defers) Q:=by
 have hx:=look_sound h 0 x
 have hy:=look_sound h 0 y
 unfold stepBin at hr
 split at hr
 · rename_i k e1 k' e2 hlx hly
   rw [hlx] at hx
   rw [hly] at hy
   split at hr
   · exact stepDiv_sound h ho rfl hx hy hr
   · exact stepDiv_sound h ho rfl hx hy hr
   · exact stepShift_sound h ho rfl hx hy hr
   · exact stepShift_sound h ho rfl hx hy hr
   · exact stepPlain_sound hT h ho hx hy hr
 · rename_i t' e1 t'' hlx hly
   rw [hlx] at hx
   rw [hly] at hy
   exact stepNil_sound hT h ho hx hy hr
 · rename_i t' t'' hlx hly
   rw [hlx] at hx
   rw [hly] at hy
   exact stepNils_sound hT h ho hx hy hr
 · rename_i l m hlx hly
   rw [hlx] at hx
   rw [hly] at hy
   exact stepEq_sound hT h ho hE hx hy hr
 · exact hr.elim
end
end
end Go.SX
