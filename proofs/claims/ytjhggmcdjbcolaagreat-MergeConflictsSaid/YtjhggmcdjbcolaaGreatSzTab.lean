/-
Checks that a kernel can run: the table of types, equality of flat structs, the table of trees; and how a label's answer is shown.
-/
import Derived.Test.YtjhggmcdjbcolaaGreatSzAny
import Derived.Test.YtjhggmcdjbcolaaGreatSzFun
set_option linter.unusedVariables false
set_option linter.unusedSimpArgs false
set_option linter.unusedSectionVars false
namespace Go.SX
open Go.RowKit
/-! ### Types -/
def descB:TypeDesc→K→Bool
 | .int k,.int k'=>decide (k=k')
 | .bool,.bool=>true
 | .string,.str=>true
 | _,_=>false
theorem descB_ok {d:TypeDesc} {k:K} (h:descB d k=true):DescK d k:=by
 unfold descB at h
 split at h
 · simp only [DescK]; simpa using h
 · trivial
 · trivial
 · simp at h
def zeroB:Option K→Value→Bool
 | some (.int k),.int k' n=>decide (k=k')&&decide (n=0)
 | some .bool,.bool b=>!b
 | some .str,.string s=>decide (s.data.size=0)
 | some (.sl _),.slice none 0 0=>true
 | none,v=>v.oneCell'
 | _,_=>false
theorem zeroB_ok {k:Option K} {v:Value} (h:zeroB k v=true):ZeroV k v:=by
 unfold zeroB at h
 split at h
 · simp only [Bool.and_eq_true,decide_eq_true_eq] at h
   obtain ⟨rfl,rfl⟩:=h
   rfl
 · simp only [Bool.not_eq_true'] at h
   subst h
   rfl
 · rename_i s
   have h:=of_decide_eq_true h
   have:s.data=#[]:=Array.eq_empty_of_size_eq_zero h
   cases s
   simp only at this
   subst this
   rfl
 · rfl
 · exact h
 · cases h
def all2B {α β:Type} (f:α→β→Bool):List α→List β→Bool
 | [],[]=>true
 | a::l,b::m=>f a b&&all2B f l m
 | _,_=>false
theorem all2B_ok {α β:Type} {f:α→β→Bool} {R:α→β→Prop} (hf:∀ a b,f a b=true→R a b):∀ {l:List α} {m:List β},all2B f l m=true→All2 R l m
 | [],[],_=>.nil
 | a::l,b::m,h=>by
  simp only [all2B,Bool.and_eq_true] at h
  exact .cons (hf _ _ h.1) (all2B_ok hf h.2)
 | [],_::_,h=>by cases h
 | _::_,[],h=>by cases h
def oneB (P:Program) (t:TypeId) (p:TypeDesc→Value→Bool):Bool:=match P.underlying t,P.info? t with
 | some d,some i=>(match i.zero with
  | some z=>!d.isRow&&decide (i.size=1)&&p d z
  | none=>false)
 | _,_=>false
theorem oneB_ok {P:Program} {t:TypeId} {p:TypeDesc→Value→Bool} (h:oneB P t p=true):∃ d z,TyOne P t d z∧p d z=true:=by
 unfold oneB at h
 split at h
 · rename_i d i h1 h2
   split at h
   · rename_i z hz
     simp only [Bool.and_eq_true,Bool.not_eq_true',decide_eq_true_eq] at h
     exact ⟨d,z,⟨h1,h.1.1,i,h2,h.1.2,hz⟩,h.2⟩
   · cases h
 · cases h
def isSliceNil:TypeDesc→TypeId→Value→Bool
 | .slice e,e',.slice none 0 0=>decide (e=e')
 | _,_,_=>false
theorem isSliceNil_ok {d:TypeDesc} {e:TypeId} {v:Value} (h:isSliceNil d e v=true):d=.slice e∧v=.slice none 0 0:=by
 unfold isSliceNil at h
 split at h
 · have:=of_decide_eq_true h; subst this; exact ⟨rfl,rfl⟩
 · cases h
def hasUnd (P:Program) (t:TypeId):Bool:=(P.underlying t).isSome
theorem hasUnd_ok {P:Program} {t:TypeId} (h:hasUnd P t=true):∃ d,P.underlying t=some d:=Option.isSome_iff_exists.1 h
def slB (P:Program) (t e:TypeId) (agg:Bool) (lv:List K):Bool:=oneB P t (fun d z=>isSliceNil d e z)&&(match P.info? e with
 | some j=>(match j.zero with
  | some z=>decide (j.size=lv.length)&&decide (0 < lv.length)&&decide (j.bytes≤65536)&&all2B (fun k v=>zeroB (some k) v) lv z.cells.toList&&(agg || decide (lv.length=1))&&decide (aggB P e=agg)&&hasUnd P e
  | none=>false)
 | none=>false)
def fieldB (P:Program) (n:Nat) (f:Field) (x:Nat × Nat × Bool):Bool:=match P.info? f.type with
 | some i=>decide (x=(f.offset,i.size,aggB P f.type))&&decide (0 < i.size)&&decide (f.offset+i.size≤n)&&(aggB P f.type || decide (i.size=1))&&hasUnd P f.type
 | none=>false
def agB (P:Program) (t:TypeId) (st:Bool) (lv:List (Option K)) (fs:List (Nat × Nat × Bool)):Bool:=match P.underlying t,P.info? t with
 | some d,some i=>d.isRow&&decide (i.size=lv.length)&&(match i.zero with
  | some (.agg z)=>all2B zeroB lv z.toList
  | _=>false)&&(match d,st with
  | .struct fields,true=>all2B (fieldB P lv.length) fields.toList fs
  | .array n e,false=>(match P.info? e with
   | some j=>decide (0 < j.size)&&decide (fs=(List.range n).map fun q=>(q * j.size,j.size,aggB P e))&&decide (lv.length=n * j.size)&&(aggB P e || decide (j.size=1))&&hasUnd P e
   | none=>false)
  | _,_=>false)
 | _,_=>false
def tyB (P:Program) (ti:TypeId→TI) (t:TypeId):Bool:=match ti t with
 | .one k=>oneB P t fun d z=>descB d k&&zeroB (some k) z
 | .sl e agg lv=>slB P t e agg lv
 | .ag st lv fs=>agB P t st lv fs
 | .other=>oneB P t fun _ z=>z.oneCell'
 | .bad=>true
theorem tyB_ok {P:Program} {ti:TypeId→TI} {t:TypeId} (h:tyB P ti t=true):TyF P ti t:=by
 unfold tyB at h
 unfold TyF
 split at h
 · rename_i k ht
   rw [ht]
   obtain ⟨d,z,h1,h2⟩:=oneB_ok h
   simp only [Bool.and_eq_true] at h2
   exact ⟨d,z,h1,descB_ok h2.1,zeroB_ok h2.2⟩
 · rename_i e agg lv ht
   rw [ht]
   unfold slB at h
   simp only [Bool.and_eq_true] at h
   obtain ⟨h0,h⟩:=h
   obtain ⟨d,z,h1,h2⟩:=oneB_ok h0
   obtain ⟨rfl,rfl⟩:=isSliceNil_ok h2
   refine ⟨h1,?_⟩
   split at h
   · rename_i j hj
     split at h
     · rename_i z hz
       simp only [Bool.and_eq_true,Bool.or_eq_true,decide_eq_true_eq] at h
       obtain ⟨⟨⟨⟨⟨⟨g1,g2⟩,g3⟩,g4⟩,g5⟩,g6⟩,g7⟩:=h
       refine ⟨j,z,hj,g1,g2,g3,hz,all2B_ok (fun a b h=>zeroB_ok h) g4,fun hag=>?_,g6,hasUnd_ok g7⟩
       rcases g5 with g5 | g5
       · rw [hag] at g5; cases g5
       · exact g5
     · cases h
   · cases h
 · rename_i st lv fs ht
   rw [ht]
   unfold agB at h
   split at h
   · rename_i d i hd hi
     simp only [Bool.and_eq_true,decide_eq_true_eq] at h
     obtain ⟨⟨⟨h1,h2⟩,h3⟩,h4⟩:=h
     split at h3
     · rename_i z hz
       refine ⟨i,z,d,hd,h1,hi,h2,hz,all2B_ok (fun a b h=>zeroB_ok h) h3,?_⟩
       split at h4
       · rename_i fields
         have h5:All2 (fun f x=>fieldB P lv.length f x=true) fields.toList fs:=all2B_ok (fun a b h=>h) h4
         refine .inl ⟨fields,rfl,rfl,by rw [←h5.length]; simp,fun j f hf=>?_⟩
         obtain ⟨x,hx,hb⟩:=h5.get (i:=j) (a:=f) (by simpa using hf)
         unfold fieldB at hb
         split at hb
         · rename_i k hk
           simp only [Bool.and_eq_true,Bool.or_eq_true,decide_eq_true_eq] at hb
           obtain ⟨⟨⟨⟨b1,b2⟩,b3⟩,b4⟩,b5⟩:=hb
           subst b1
           refine ⟨k,hk,hx,b2,b3,fun hag=>?_,hasUnd_ok b5⟩
           rcases b4 with b4 | b4
           · rw [hag] at b4; cases b4
           · exact b4
         · cases hb
       · rename_i n e
         split at h4
         · rename_i j hj
           simp only [Bool.and_eq_true,Bool.or_eq_true,decide_eq_true_eq] at h4
           obtain ⟨⟨⟨⟨b1,b2⟩,b3⟩,b4⟩,b5⟩:=h4
           refine .inr ⟨n,e,j,rfl,rfl,hj,b1,by rw [b2]; simp,fun q hq=>?_,b3,fun hag=>?_,hasUnd_ok b5⟩
           · rw [b2,List.getElem?_map,List.getElem?_range hq]; rfl
           · rcases b4 with b4 | b4
             · rw [hag] at b4; cases b4
             · exact b4
         · cases h4
       · cases h4
     · cases h3
   · cases h
 · rename_i ht
   rw [ht]
   obtain ⟨d,z,h1,h2⟩:=oneB_ok h
   exact ⟨d,z,h1,h2⟩
 · rename_i ht
   rw [ht]
   trivial
theorem tyOK_of {P:Program} {tab:List TI} (h:(List.range tab.length).all (tyB P fun t=>(tab[t]?).getD .bad)=true):TyOK P fun t=>(tab[t]?).getD .bad:=by
 intro t
 by_cases ht:t < tab.length
 · exact tyB_ok (List.all_eq_true.1 h t (List.mem_range.2 ht))
 · unfold TyF
   have:(tab[t]?).getD .bad=TI.bad:=by rw [List.getElem?_eq_none (Nat.le_of_not_lt ht)]; rfl
   simp only [this]
/-! ### Trees -/
def okSig (env:Env) (tbl:Nat→Option T) (i:Nat):Bool:=(match env.sigs[i]? with
 | some s=>(match env.funcs s.f with
  | some fn => !(fn.name == "runtime.NumGoroutine")
  | none=>false)
 | none=>false)&&decide (tbl (i * 100)=some (strip (sxFun env i)))&&(loops (sxFun env i)).all fun p=>decide (tbl p.1=some p.2)
theorem okSig_ok {P:Program} {env:Env} {tbl:Nat→Option T} {i:Nat} {s:Sig} (hP:∀ f fn,env.funcs f=some fn→P.funcs[f]?=some fn) (hs:env.sigs[i]?=some s) (h:okSig env tbl i=true) :
 tbl (i * 100) = some (strip (sxFun env i)) ∧ LoopsOK tbl (sxFun env i) ∧ ∃ fn, env.funcs s.f = some fn ∧ P.funcs[s.f]? = some fn ∧ (fn.name == "runtime.NumGoroutine") = false := by
 unfold okSig at h
 rw [hs] at h
 simp only [Bool.and_eq_true,decide_eq_true_eq,List.all_eq_true] at h
 obtain ⟨⟨h1,h2⟩,h3⟩:=h
 refine ⟨h2,fun p hp=>h3 p hp,?_⟩
 split at h1
 · rename_i fn hfn
   exact ⟨fn,hfn,hP _ _ hfn,by simpa using h1⟩
 · cases h1
def tabAt (l:List (Nat × T)) (n:Nat):Option T:=(l.find? fun p=>p.1 == n).map (·.2)
/-! ### What a label answers -/
abbrev REv (tbl:Nat→Option T) (prim:Nat→List D→List D→Prop):RL:=RL.of (Ev tbl prim) fun _ _=>True
section
variable {tbl:Nat→Option T} {prim:Nat→List D→List D→Prop}
theorem run_fn:∀ (t:T) {ν r:List D},t.Run (REv tbl prim) ν r→∃ n,t.Run (RL.of (Fn tbl prim n) fun _ _=>True) ν r
 | .fail _,ν,r,h=>h.elim
 | .miss ..,ν,r,h=>h.elim
 | .br c t f,ν,r,h=>by
  simp only [T.Run] at h
  split at h
  · rename_i hc
    obtain ⟨n,g⟩:=run_fn t h
    exact ⟨n,by simp only [T.Run,if_pos hc]; exact g⟩
  · rename_i hc
    obtain ⟨n,g⟩:=run_fn f h
    exact ⟨n,by simp only [T.Run,if_neg hc]; exact g⟩
 | .am c t f,ν,r,h=>by
  obtain ⟨h1,h2⟩:=h
  obtain ⟨n,g1⟩:=run_fn f h1
  by_cases hc:(c.den ν).toList=[]
  · obtain ⟨m,g2⟩:=run_fn t (h2 hc)
    exact ⟨max n m,T.Run.mono (Fn.mono' (Nat.le_max_left n m)) f g1,fun _=>T.Run.mono (Fn.mono' (Nat.le_max_right n m)) t g2⟩
  · exact ⟨n,g1,fun h=>absurd h hc⟩
 | .ck c t,ν,r,h=>by
  obtain ⟨n,g⟩:=run_fn t h.2
  exact ⟨n,h.1,g⟩
 | .call g k as t,ν,r,h=>by
  obtain ⟨rs,h1,⟨n,h2⟩,h3⟩:=h
  obtain ⟨m,h4⟩:=run_fn t h3
  exact ⟨max n m,rs,h1,Fn.mono' (Nat.le_max_left n m) _ _ _ h2,T.Run.mono (Fn.mono' (Nat.le_max_right n m)) t h4⟩
 | .jump l as,ν,r,h=>h
 | .loop l as b,ν,r,h=>by
  obtain ⟨n,g⟩:=run_fn b h.2
  exact ⟨n,trivial,g⟩
 | .ret xs,ν,r,h=>⟨0,h⟩
 | .leaf δ,ν,r,h=>h.elim
theorem ev_of {l:Nat} {t:T} (ht:tbl l=some t) {ds r:List D} (h:t.Run (REv tbl prim) ds r):Ev tbl prim l ds r:=Ev.intro ht (run_fn t h)
theorem ev_prim {l:Nat} (ht:tbl l=none) {ds r:List D} (h:prim l ds r):Ev tbl prim l ds r:=⟨1,by unfold Fn; simp only [ht]; exact h⟩
theorem down {n:Nat} {Q:Nat→Prop} (hn:Q n) (hs:∀ i,i < n→Q (i+1)→Q i):∀ i,i≤n→Q i:=by
 intro i hi
 induction hk:n - i generalizing i with
 | zero =>
  have:i=n:=by omega
  rw [this]; exact hn
 | succ k ih=>exact hs i (by omega) (ih (i+1) (by omega) (by omega))
end
end Go.SX
