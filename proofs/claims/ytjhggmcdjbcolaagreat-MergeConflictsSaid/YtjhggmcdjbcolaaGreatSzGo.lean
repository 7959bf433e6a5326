/-
What a label answers, as a partial function; how trees compute it; how the kernel computes it on plain data.
-/
import Derived.Test.YtjhggmcdjbcolaaGreatSzTab
set_option linter.unusedVariables false
set_option linter.unusedSimpArgs false
set_option linter.unusedSectionVars false
namespace Go.SX
open Classical
/-! ### Trees answer one thing -/
theorem T.Run.det {R:Nat→List D→List D→Prop} {L:Nat→T→Prop} (hR:∀ l ds r r',R l ds r→R l ds r'→r=r'):∀ (t:T) {ν r r' : List D},t.Run (RL.of R L) ν r→t.Run (RL.of R L) ν r'→r=r'
 | .fail _,ν,r,r',h,h'=>h.elim
 | .miss ..,ν,r,r',h,h'=>h.elim
 | .br c t f,ν,r,r',h,h'=>by
  simp only [T.Run] at h h'
  split at h
  · rename_i hc; rw [if_pos hc] at h'; exact T.Run.det hR t h h'
  · rename_i hc; rw [if_neg hc] at h'; exact T.Run.det hR f h h'
 | .am c t f,ν,r,r',h,h'=>T.Run.det hR f h.1 h'.1
 | .ck c t,ν,r,r',h,h'=>T.Run.det hR t h.2 h'.2
 | .call g k as t,ν,r,r',h,h'=>by
  obtain ⟨rs,h1,h2,h3⟩:=h
  obtain ⟨rs',h1',h2',h3'⟩:=h'
  have:=hR _ _ _ _ h2 h2'
  subst this
  exact T.Run.det hR t h3 h3'
 | .jump l as,ν,r,r',h,h'=>hR _ _ _ _ h h'
 | .loop l as b,ν,r,r',h,h'=>T.Run.det hR b h.2 h'.2
 | .ret xs,ν,r,r',h,h'=>h.trans h'.symm
 | .leaf δ,ν,r,r',h,h'=>h.elim
section
variable {tbl:Nat→Option T} {prim:Nat→List D→List D→Prop}
def PrimDet (prim:Nat→List D→List D→Prop):Prop:=∀ l ds r r',prim l ds r→prim l ds r'→r=r'
theorem Fn.det (hp:PrimDet prim):∀ (n l:Nat) (ds r r' : List D),Fn tbl prim n l ds r→Fn tbl prim n l ds r'→r=r'
 | 0,l,ds,r,r',h,h'=>h.elim
 | n+1,l,ds,r,r',h,h'=>by
  unfold Fn at h h'
  split at h
  · rename_i t ht
    simp only [ht] at h'
    exact T.Run.det (fun l ds r r'=>Fn.det hp n l ds r r') t h h'
  · rename_i ht
    simp only [ht] at h'
    exact hp _ _ _ _ h h'
theorem Ev.det (hp:PrimDet prim) {l:Nat} {ds r r' : List D} (h:Ev tbl prim l ds r) (h' : Ev tbl prim l ds r'):r=r':=by
 obtain ⟨n,h⟩:=h
 obtain ⟨m,h'⟩:=h'
 exact Fn.det hp (max n m) l ds r r' (Fn.mono' (Nat.le_max_left n m) _ _ _ h) (Fn.mono' (Nat.le_max_right n m) _ _ _ h')
noncomputable def evr (tbl:Nat→Option T) (prim:Nat→List D→List D→Prop) (l:Nat) (ds:List D):Option (List D):=if h:∃ r,Ev tbl prim l ds r then some (Classical.choose h) else none
theorem evr_iff (hp:PrimDet prim) {l:Nat} {ds r:List D}:evr tbl prim l ds=some r ↔ Ev tbl prim l ds r:=by
 unfold evr
 split
 · rename_i h
   constructor
   · intro he
     have:=Option.some.inj he
     rw [←this]
     exact Classical.choose_spec h
   · intro he
     rw [Ev.det hp (Classical.choose_spec h) he]
 · rename_i h
   constructor
   · intro he
     cases he
   · intro he
     exact absurd ⟨r,he⟩ h
end
noncomputable def T.go (ev:Nat→List D→Option (List D)):T→List D→Option (List D)
 | .fail _,_=>none
 | .miss ..,_=>none
 | .br c t f,ν=>if (c.den ν).toBool=true then t.go ev ν else f.go ev ν
 | .am c t f,ν=>if (c.den ν).toList=[] then (if t.go ev ν=f.go ev ν then f.go ev ν else none) else f.go ev ν
 | .ck c t,ν=>if (c.den ν).toBool=true then t.go ev ν else none
 | .call g n as t,ν=>match ev g (as.map (E.den ν)) with
  | some rs=>if rs.length=n then t.go ev (ν++rs) else none
  | none=>none
 | .jump l as,ν=>ev l (as.map (E.den ν))
 | .loop _ _ _,_=>none
 | .ret xs,ν=>some (xs.map (E.den ν))
 | .leaf _,_=>none
theorem go_run {R:Nat→List D→List D→Prop} {L:Nat→T→Prop} {ev:Nat→List D→Option (List D)} (hev:∀ l ds r,ev l ds=some r→R l ds r):∀ (t:T) {ν r:List D},t.go ev ν=some r→t.Run (RL.of R L) ν r
 | .fail _,ν,r,h=>by cases h
 | .miss ..,ν,r,h=>by cases h
 | .br c t f,ν,r,h=>by
  simp only [T.go] at h
  simp only [T.Run]
  split at h
  · rename_i hc; rw [if_pos hc]; exact go_run hev t h
  · rename_i hc; rw [if_neg hc]; exact go_run hev f h
 | .am c t f,ν,r,h=>by
  simp only [T.go] at h
  split at h
  · rename_i hc
    split at h
    · rename_i he
      exact ⟨go_run hev f h,fun _=>go_run hev t (by rw [he]; exact h)⟩
    · cases h
  · rename_i hc
    exact ⟨go_run hev f h,fun hc'=>absurd hc' hc⟩
 | .ck c t,ν,r,h=>by
  simp only [T.go] at h
  split at h
  · rename_i hc; exact ⟨hc,go_run hev t h⟩
  · cases h
 | .call g n as t,ν,r,h=>by
  simp only [T.go] at h
  split at h
  · rename_i rs hrs
    split at h
    · rename_i hl
      exact ⟨rs,hl,hev _ _ _ hrs,go_run hev t h⟩
    · cases h
  · cases h
 | .jump l as,ν,r,h=>hev _ _ _ h
 | .loop ..,ν,r,h=>by cases h
 | .ret xs,ν,r,h=>by
  simp only [T.go,Option.some.injEq] at h
  exact h.symm
 | .leaf δ,ν,r,h=>by cases h
theorem evr_of {tbl:Nat→Option T} {prim:Nat→List D→List D→Prop} (hp:PrimDet prim) {l:Nat} {t:T} (ht:tbl l=some t) {ds r:List D} (h:t.go (evr tbl prim) ds=some r):evr tbl prim l ds=some r :=
 (evr_iff hp).2 (ev_of ht (go_run (R:=Ev tbl prim) (fun _ _ _ h=>(evr_iff hp).1 h) t h))
theorem run_go {R:Nat→List D→List D→Prop} {L:Nat→T→Prop} {ev:Nat→List D→Option (List D)} (hL:∀ l b,¬ L l b) (hev:∀ l ds r,R l ds r→ev l ds=some r):∀ (t:T) {ν r:List D},t.Run (RL.of R L) ν r→t.go ev ν=some r
 | .fail _,ν,r,h=>h.elim
 | .miss ..,ν,r,h=>h.elim
 | .br c t f,ν,r,h=>by
  simp only [T.Run] at h
  simp only [T.go]
  split at h
  · rename_i hc; rw [if_pos hc]; exact run_go hL hev t h
  · rename_i hc; rw [if_neg hc]; exact run_go hL hev f h
 | .am c t f,ν,r,h=>by
  simp only [T.go]
  have h1:=run_go hL hev f h.1
  split
  · rename_i hc
    have h2:=run_go hL hev t (h.2 hc)
    rw [if_pos (h2.trans h1.symm)]
    exact h1
  · exact h1
 | .ck c t,ν,r,h=>by
  simp only [T.go]
  rw [if_pos h.1]
  exact run_go hL hev t h.2
 | .call g n as t,ν,r,h=>by
  obtain ⟨rs,h1,h2,h3⟩:=h
  simp only [T.go,hev _ _ _ h2,if_pos h1]
  exact run_go hL hev t h3
 | .jump l as,ν,r,h=>hev _ _ _ h
 | .loop l as b,ν,r,h=>absurd h.1 (hL l b)
 | .ret xs,ν,r,h=>by
  have h' : r=xs.map (E.den ν):=h
  simp only [T.go,h']
 | .leaf δ,ν,r,h=>h.elim
def T.flat:T→Bool
 | .br _ t f=>t.flat&&f.flat
 | .am _ t f=>t.flat&&f.flat
 | .ck _ t=>t.flat
 | .call _ _ _ t=>t.flat
 | .loop ..=>false
 | _=>true
theorem Run_flat {R:Nat→List D→List D→Prop} {L L' : Nat→T→Prop}:∀ (t:T) {ν r:List D},t.flat=true→t.Run (RL.of R L) ν r→t.Run (RL.of R L') ν r
 | .fail _,ν,r,_,h=>h
 | .miss ..,ν,r,_,h=>h
 | .br c t f,ν,r,hf,h=>by
  simp only [T.flat,Bool.and_eq_true] at hf
  simp only [T.Run] at h ⊢
  split
  · rename_i hc; rw [if_pos hc] at h; exact Run_flat t hf.1 h
  · rename_i hc; rw [if_neg hc] at h; exact Run_flat f hf.2 h
 | .am c t f,ν,r,hf,h=>by
  simp only [T.flat,Bool.and_eq_true] at hf
  exact ⟨Run_flat f hf.2 h.1,fun hc=>Run_flat t hf.1 (h.2 hc)⟩
 | .ck c t,ν,r,hf,h=>⟨h.1,Run_flat t hf h.2⟩
 | .call g n as t,ν,r,hf,h=>by
  obtain ⟨rs,h1,h2,h3⟩:=h
  exact ⟨rs,h1,h2,Run_flat t hf h3⟩
 | .jump l as,ν,r,_,h=>h
 | .loop l as b,ν,r,hf,h=>by cases hf
 | .ret xs,ν,r,_,h=>h
 | .leaf δ,ν,r,_,h=>h
theorem evr_eq {tbl:Nat→Option T} {prim:Nat→List D→List D→Prop} (hp:PrimDet prim) {l:Nat} {t:T} (ht:tbl l=some t) (hf:t.flat=true) {ds:List D}:evr tbl prim l ds=t.go (evr tbl prim) ds:=by
 cases h1:t.go (evr tbl prim) ds with
 | some r=>exact evr_of hp ht h1
 | none =>
  cases h2:evr tbl prim l ds with
  | none=>rfl
  | some r =>
   obtain ⟨n,hn⟩:=(evr_iff hp).1 h2
   cases n with
   | zero=>exact hn.elim
   | succ n =>
    unfold Fn at hn
    simp only [ht] at hn
    have h3:t.Run (RL.of (Ev tbl prim) fun _ _=>False) ds r:=Run_flat t hf (T.Run.mono (fun l ds r h=>⟨n,h⟩) t hn)
    rw [run_go (fun _ _ h=>h) (fun l ds r h=>(evr_iff hp).2 h) t h3] at h1
    cases h1
/-! ### The kernel computes -/
def D.force {α:Type} (d:D) (k:D→α):α:=match d with
 | .int (.ofNat 0)=>k (.int (.ofNat 0))
 | .int (.ofNat (n+1))=>k (.int (.ofNat (n+1)))
 | .int (.negSucc 0)=>k (.int (.negSucc 0))
 | .int (.negSucc (n+1))=>k (.int (.negSucc (n+1)))
 | .bool true=>k (.bool true)
 | .bool false=>k (.bool false)
 | .str s=>k (.str s)
 | .list []=>k (.list [])
 | .list (x::r)=>k (.list (x::r))
 | .agg l=>k (.agg l)
theorem D.force_eq {α:Type} (d:D) (k:D→α):d.force k=k d:=by
 unfold D.force
 split <;> rfl
def forceAll {α:Type}:List D→(List D→α)→α
 | [],k=>k []
 | d::r,k=>d.force fun d'=>forceAll r fun r'=>k (d'::r')
theorem forceAll_eq {α:Type}:∀ (l:List D) (k:List D→α),forceAll l k=k l
 | [],k=>rfl
 | d::r,k=>by rw [forceAll,D.force_eq,forceAll_eq r]
def eqL:List UInt8→List UInt8→Bool
 | [],[]=>true
 | a::l,b::m=>(a.toNat == b.toNat)&&eqL l m
 | _,_=>false
theorem eqL_eq:∀ (l m:List UInt8),eqL l m=(l == m)
 | [],[]=>rfl
 | [],_::_=>rfl
 | _::_,[]=>rfl
 | a::l,b::m=>by
  rw [eqL,eqL_eq l m]
  have:(a.toNat == b.toNat)=(a == b):=by
   rw [Bool.eq_iff_iff,beq_iff_eq,beq_iff_eq]
   exact UInt8.toNat_inj
  rw [this]
  rfl
def E.ev (ν:List D):E→D
 | .v j=>ν.getD j default
 | .i n=>.int n
 | .b x=>.bool x
 | .s x=>.str ⟨x.toArray⟩
 | .nil=>.list []
 | .anil=>.agg []
 | .o1 o x=>o.den (x.ev ν)
 | .o2 .eqs x y=>.bool (eqL (x.ev ν).toStr.data.toList (y.ev ν).toStr.data.toList)
 | .o2 o x y=>o.den (x.ev ν) (y.ev ν)
 | .o3 o x y z=>o.den (x.ev ν) (y.ev ν) (z.ev ν)
theorem E.ev_eq (ν:List D):∀ x:E,x.ev ν=x.den ν
 | .v _ | .i _ | .b _ | .s _ | .nil | .anil=>rfl
 | .o1 o x=>by rw [E.ev,E.den,E.ev_eq ν x]
 | .o2 o x y=>by
  cases o <;> simp only [E.ev,E.den,E.ev_eq ν x,E.ev_eq ν y]
  simp only [O2.den,ByteArray.toList_eq,eqL_eq]
 | .o3 o x y z=>by rw [E.ev,E.den,E.ev_eq ν x,E.ev_eq ν y,E.ev_eq ν z]
mutual
def D.same:D→D→Bool
 | .int a,.int b=>decide (a=b)
 | .bool a,.bool b=>a == b
 | .str a,.str b=>eqL a.data.toList b.data.toList
 | .list l,.list m=>sameL l m
 | .agg l,.agg m=>sameL l m
 | _,_=>false
def sameL:List D→List D→Bool
 | [],[]=>true
 | a::l,b::m=>D.same a b&&sameL l m
 | _,_=>false
end
mutual
theorem D.same_eq:∀ {a b:D},D.same a b=true→a=b
 | .int a,b,h=>by
  cases b <;> simp [D.same] at h
  rw [h]
 | .bool a,b,h=>by
  cases b <;> simp [D.same] at h
  rw [h]
 | .str a,b,h=>by
  cases b <;> simp [D.same] at h
  rename_i b
  rw [eqL_eq] at h
  have h:a.data.toList=b.data.toList:=by simpa using h
  cases a; cases b
  have h2:=Array.toList_inj.1 h
  simp only at h2
  rw [h2]
 | .list l,b,h=>by
  cases b <;> simp [D.same] at h
  rw [sameL_eq h]
 | .agg l,b,h=>by
  cases b <;> simp [D.same] at h
  rw [sameL_eq h]
theorem sameL_eq:∀ {l m:List D},sameL l m=true→l=m
 | [],m,h=>by
  cases m with
  | nil=>rfl
  | cons b m=>simp [sameL] at h
 | a::l,m,h=>by
  cases m with
  | nil=>simp [sameL] at h
  | cons b m =>
   simp only [sameL,Bool.and_eq_true] at h
   rw [D.same_eq h.1,sameL_eq h.2]
end
def T.ex (ev:Nat→List D→Option (List D)):T→List D→Option (List D)
 | .br c t f,ν=>match (c.ev ν).toBool with
  | true=>t.ex ev ν
  | false=>f.ex ev ν
 | .am c t f,ν=>match (c.ev ν).toList with
  | []=>(match t.ex ev ν,f.ex ev ν with
   | some a,some b=>(match sameL a b with
    | true=>some b
    | false=>none)
   | _,_=>none)
  | _::_=>f.ex ev ν
 | .ck c t,ν=>match (c.ev ν).toBool with
  | true=>t.ex ev ν
  | false=>none
 | .call g n as t,ν=>forceAll (as.map (E.ev ν)) fun l=>match ev g l with
  | some rs=>forceAll rs fun rs=>match decide (rs.length=n) with
   | true=>t.ex ev (ν++rs)
   | false=>none
  | none=>none
 | .jump l as,ν=>forceAll (as.map (E.ev ν)) fun xs=>ev l xs
 | .ret xs,ν=>some (xs.map (E.ev ν))
 | _,_=>none
def fnEx (tbl:Nat→Option T) (pe:Nat→List D→Option (List D)):Nat→Nat→List D→Option (List D)
 | 0,_,_=>none
 | n+1,l,ds=>match tbl l with
  | some t=>t.ex (fnEx tbl pe n) ds
  | none=>pe l ds
theorem ex_run {R:Nat→List D→List D→Prop} {L:Nat→T→Prop} {ev:Nat→List D→Option (List D)} (hev:∀ l ds r,ev l ds=some r→R l ds r):∀ (t:T) {ν r:List D},t.ex ev ν=some r→t.Run (RL.of R L) ν r:=by
 have hm:∀ (as:List E) (ν:List D),as.map (E.ev ν)=as.map (E.den ν):=fun as ν=>List.map_congr_left fun x _=>E.ev_eq ν x
 intro t
 induction t with
 | br c t f iht ihf =>
  intro ν r h
  simp only [T.ex,E.ev_eq] at h
  simp only [T.Run]
  split at h
  · rename_i hc; rw [if_pos hc]; exact iht h
  · rename_i hc; rw [if_neg (by rw [hc]; simp)]; exact ihf h
 | am c t f iht ihf =>
  intro ν r h
  simp only [T.ex,E.ev_eq] at h
  split at h
  · split at h
    · rename_i x a b ha hb
      split at h
      · rename_i hs
        cases h
        have:=sameL_eq hs
        subst this
        exact ⟨ihf hb,fun _=>iht ha⟩
      · cases h
    · cases h
  · rename_i hc
    exact ⟨ihf h,fun h'=>by rw [h'] at hc; cases hc⟩
 | ck c t ih =>
  intro ν r h
  simp only [T.ex,E.ev_eq] at h
  split at h
  · rename_i hc; exact ⟨hc,ih h⟩
  · cases h
 | call g n as t ih =>
  intro ν r h
  simp only [T.ex,forceAll_eq,hm] at h
  split at h
  · rename_i rs hrs
    split at h
    · rename_i hl
      exact ⟨rs,of_decide_eq_true hl,hev _ _ _ hrs,ih h⟩
    · cases h
  · cases h
 | jump l as =>
  intro ν r h
  simp only [T.ex,forceAll_eq,hm] at h
  exact hev _ _ _ h
 | ret xs =>
  intro ν r h
  simp only [T.ex,hm,Option.some.injEq] at h
  exact h.symm
 | _=>intro ν r h; cases h
theorem fnEx_ok {tbl:Nat→Option T} {prim:Nat→List D→List D→Prop} {pe:Nat→List D→Option (List D)} (hpe:∀ l ds r,pe l ds=some r→prim l ds r):∀ (n l:Nat) (ds r:List D),fnEx tbl pe n l ds=some r→Fn tbl prim n l ds r
 | 0,l,ds,r,h=>by cases h
 | n+1,l,ds,r,h=>by
  unfold fnEx at h
  unfold Fn
  split at h
  · rename_i t ht
    simp only [ht]
    exact ex_run (fun l ds r h=>fnEx_ok hpe n l ds r h) t h
  · rename_i ht
    simp only [ht]
    exact hpe _ _ _ h
end Go.SX
