/-
Any order of a drawn region: one operation, at any set of those that went before.
-/
import Derived.Test.YtjhggmcdjbcolaaGreatSzApart
set_option linter.unusedVariables false
set_option linter.unusedSimpArgs false
set_option linter.unusedSectionVars false
namespace Go.SX
open Go.RowKit
section
variable {ops:Array Oper} {its:List Itm} {full:List (Itm × List Nat)} {X:Nat→Bool}
def Closed (its:List Itm) (X:Nat→Bool):Prop:=∀ (j:Nat) it,its[j]?=some it→X j=true→∀ d,d∈bindPreds it.o→X d=true
def Ready (its:List Itm) (X:Nat→Bool) (i:Nat):Prop:=X i=false∧∀ it,its[i]?=some it→∀ d,d∈bindPreds it.o→X d=true
variable (hfull:full.map (·.1)=its) (hI:ApI ops full)
include hfull hI
theorem full_get {j:Nat} {x:Itm × List Nat} (hx:full[j]?=some x):its[j]?=some x.1:=by
 rw [←hfull,List.getElem?_map,hx]; rfl
theorem anc_in (hX:Closed its X):∀ (n j:Nat) (x:Itm × List Nat),j≤n→full[j]?=some x→(∀ d,d∈bindPreds x.1.o→X d=true)→∀ i,i∈x.2→X i=true:=by
 intro n
 induction n with
 | zero =>
  intro j x hj hx hd i hi
  obtain ⟨a1,a2,_⟩:=hI j x hx
  rcases a2 i hi with h | ⟨d,hd',_⟩
  · exact hd i h
  · have:=a1 d hd'; omega
 | succ n ih =>
  intro j x hj hx hd i hi
  obtain ⟨a1,a2,_⟩:=hI j x hx
  rcases a2 i hi with h | ⟨d,hd',y,hy,hi'⟩
  · exact hd i h
  · exact ih d y (by have:=a1 d hd'; omega) hy (fun e he=>hX d y.1 (full_get hfull hI hy) (hd d hd') e he) i hi'
theorem apart_of (hX:Closed its X) {i:Nat} (hr:Ready its X i) {a b:Itm} {j:Nat} (ha:its[i]?=some a) (hb:its[j]?=some b):(X j=true→i < j→apart ops a b=true)∧(X j=false→j < i→apart ops b a=true):=by
 have get:∀ {k:Nat} {c:Itm},its[k]?=some c→∃ x,full[k]?=some x∧x.1=c:=by
  intro k c hc
  rw [←hfull,List.getElem?_map] at hc
  obtain ⟨x,h1,h2⟩:=Option.map_eq_some_iff.1 hc
  exact ⟨x,h1,h2⟩
 obtain ⟨x,hx,rfl⟩:=get ha
 obtain ⟨y,hy,rfl⟩:=get hb
 constructor
 · intro hj hij
   rcases (hI j y hy).2.2 i x hij hx with h | h
   · have:=anc_in hfull hI hX j j y (Nat.le_refl _) hy (fun d hd=>hX j y.1 hb hj d hd) i h
     rw [hr.1] at this
     cases this
   · exact h
 · intro hj hij
   rcases (hI i x hx).2.2 j y hij hy with h | h
   · have:=anc_in hfull hI hX i i x (Nat.le_refl _) hx (fun d hd=>hr.2 x.1 ha d hd) j h
     rw [hj] at this
     cases this
   · exact h
end
theorem apart_inv {ops:Array Oper} {a b:Itm} (h:apart ops a b=true):(∀ d,a.o.dst=some d→d ∉ looksOf ops b.o∧b.o.dst≠some d)∧(∀ d,b.o.dst=some d→d ∉ looksOf ops a.o)∧(∀ p,p∈a.wr→p ∉ b.rd∧p ∉ b.wr)∧(∀ p,p∈b.wr→p ∉ a.rd):=by
 simp only [apart,Bool.and_eq_true,List.all_eq_true] at h
 obtain ⟨⟨⟨h1,h2⟩,h3⟩,h4⟩:=h
 refine ⟨fun d hd=>?_,fun d hd=>?_,fun p hp=>?_,fun p hp=>?_⟩
 · rw [hd] at h1
   simpa using h1
 · rw [hd] at h2
   simpa using h2
 · have:=h3 p hp
   simpa using this
 · have:=h4 p hp
   simpa using this
section
variable {ops:Array Oper} {its:List Itm} {full:List (Itm × List Nat)} {X:Nat→Bool} {hat:St}
variable (hfull:full.map (·.1)=its) (hI:ApI ops full) (hfit:∀ it,it∈its→it.fits hat.objs.length)
include hfull hI hfit
theorem foldAll_take (i:Nat) (hi:i≤its.length):foldAll (its.take i) hat=fold (fun j=>decide (j < i)) 0 its hat:=by
 have:=fold_lt (its.take i) (its.drop i) 0 hat
 rw [List.take_append_drop] at this
 rw [←this]
 congr 1
 funext j
 rw [List.length_take]
 congr 1
 simp
 omega
theorem view_slot (hX:Closed its X) {i:Nat} (hr:Ready its X i) {a:Itm} (ha:its[i]?=some a) {t:Nat} (ht:t∈looksOf ops a.o):(fold X 0 its hat).slots[t]?=(foldAll (its.take i) hat).slots[t]?:=by
 rw [foldAll_take hfull hI hfit i (Nat.le_of_lt (List.getElem?_eq_some_iff.1 ha).1)]
 refine fold_slot its 0 rfl fun j b hb hne=>?_
 simp only [Nat.zero_add] at hne
 obtain ⟨h1,h2⟩:=apart_of hfull hI hX hr ha hb
 intro hd
 cases hXj:X j with
 | true =>
  rw [hXj] at hne
  have hji:¬ j < i:=by simpa using hne
  have hne' : j≠i:=fun e=>by rw [e,hr.1] at hXj; cases hXj
  exact (apart_inv (h1 hXj (by omega))).2.1 t hd ht
 | false =>
  rw [hXj] at hne
  have hji:j < i:=by simpa using hne
  exact ((apart_inv (h2 hXj hji)).1 t hd).1 ht
theorem view_obj (hX:Closed its X) {i:Nat} (hr:Ready its X i) {a:Itm} (ha:its[i]?=some a) {p:Nat} (hp:p∈a.rd):(fold X 0 its hat).objs[p]?=(foldAll (its.take i) hat).objs[p]?:=by
 rw [foldAll_take hfull hI hfit i (Nat.le_of_lt (List.getElem?_eq_some_iff.1 ha).1)]
 refine fold_obj its 0 hfit hfit rfl fun j b hb hne=>?_
 simp only [Nat.zero_add] at hne
 obtain ⟨h1,h2⟩:=apart_of hfull hI hX hr ha hb
 intro hd
 cases hXj:X j with
 | true =>
  rw [hXj] at hne
  have hji:¬ j < i:=by simpa using hne
  have hne' : j≠i:=fun e=>by rw [e,hr.1] at hXj; cases hXj
  exact (apart_inv (h1 hXj (by omega))).2.2.2 p hd hp
 | false =>
  rw [hXj] at hne
  have hji:j < i:=by simpa using hne
  exact ((apart_inv (h2 hXj hji)).2.2.1 p hd).1 hp
theorem more_slot (hX:Closed its X) {i:Nat} (hr:Ready its X i) {a:Itm} (ha:its[i]?=some a) (t:Nat):(fold (fun j=>X j || j == i) 0 its hat).slots[t]?=(ap a (fold X 0 its hat)).slots[t]?:=by
 by_cases hd:a.o.dst=some t
 · have h1:(fold X 0 its hat).slots[t]?=(fold (fun j=>X j&&decide (j < i)) 0 its hat).slots[t]?:=by
    refine fold_slot its 0 rfl fun j b hb hne=>?_
    simp only [Nat.zero_add] at hne
    cases hXj:X j with
    | false=>rw [hXj] at hne; simp at hne
    | true =>
     rw [hXj] at hne
     have hji:¬ j < i:=by simpa using hne
     have hne' : j≠i:=fun e=>by rw [e,hr.1] at hXj; cases hXj
     exact ((apart_inv ((apart_of hfull hI hX hr ha hb).1 hXj (by omega))).1 t hd).2
   rw [ap_slots,setS_agree h1,←ap_slots]
   have hl:=fold_last (X:=fun j=>X j&&decide (j < i)) its 0 (σ:=hat) ha (fun j hj=>by simp; omega) (by simp)
   rw [←hl]
   refine fold_slot its 0 rfl fun j b hb hne=>?_
   simp only [Nat.zero_add,Nat.add_zero] at hne
   cases hXj:X j with
   | false=>rw [hXj] at hne; simp at hne
   | true =>
    rw [hXj] at hne
    have hne' : j≠i:=fun e=>by rw [e,hr.1] at hXj; cases hXj
    have hji:¬ j < i:=by
     intro hlt
     simp [hlt] at hne
    exact ((apart_inv ((apart_of hfull hI hX hr ha hb).1 hXj (by omega))).1 t hd).2
 · rw [ap_slots,setS_ne hd]
   refine fold_slot its 0 rfl fun j b hb hne=>?_
   simp only [Nat.zero_add] at hne
   have hji:j=i:=by
    cases hXj:X j <;> rw [hXj] at hne <;> simp at hne
    exact hne
   subst hji
   rw [ha] at hb
   cases hb
   exact hd
theorem more_obj (hX:Closed its X) {i:Nat} (hr:Ready its X i) {a:Itm} (ha:its[i]?=some a) (p:Nat):(fold (fun j=>X j || j == i) 0 its hat).objs[p]?=(ap a (fold X 0 its hat)).objs[p]?:=by
 have hfa:a.fits hat.objs.length:=hfit a (List.mem_of_getElem? ha)
 have hl0:∀ Y:Nat→Bool,(fold Y 0 its hat).objs.length=hat.objs.length:=fun Y=>fold_len its 0 hfit
 by_cases hd:p∈a.wr
 · have h1:(fold X 0 its hat).objs[p]?=(fold (fun j=>X j&&decide (j < i)) 0 its hat).objs[p]?:=by
    refine fold_obj its 0 hfit hfit rfl fun j b hb hne=>?_
    simp only [Nat.zero_add] at hne
    cases hXj:X j with
    | false=>rw [hXj] at hne; simp at hne
    | true =>
     rw [hXj] at hne
     have hji:¬ j < i:=by simpa using hne
     have hne' : j≠i:=fun e=>by rw [e,hr.1] at hXj; cases hXj
     exact ((apart_inv ((apart_of hfull hI hX hr ha hb).1 hXj (by omega))).2.2.1 p hd).2
   rw [ap_obj_agree (by rw [hl0]; exact hfa) (by rw [hl0]; exact hfa) h1]
   have hl:=fold_last (X:=fun j=>X j&&decide (j < i)) its 0 (σ:=hat) ha (fun j hj=>by simp; omega) (by simp)
   rw [←hl]
   refine fold_obj its 0 hfit hfit rfl fun j b hb hne=>?_
   simp only [Nat.zero_add,Nat.add_zero] at hne
   cases hXj:X j with
   | false=>rw [hXj] at hne; simp at hne
   | true =>
    rw [hXj] at hne
    have hne' : j≠i:=fun e=>by rw [e,hr.1] at hXj; cases hXj
    have hji:¬ j < i:=by
     intro hlt
     simp [hlt] at hne
    exact ((apart_inv ((apart_of hfull hI hX hr ha hb).1 hXj (by omega))).2.2.1 p hd).2
 · rw [ap_obj_ne (by rw [hl0]; exact hfa) hd]
   refine fold_obj its 0 hfit hfit rfl fun j b hb hne=>?_
   simp only [Nat.zero_add] at hne
   have hji:j=i:=by
    cases hXj:X j <;> rw [hXj] at hne <;> simp at hne
    exact hne
   subst hji
   rw [ha] at hb
   cases hb
   exact hd
omit hfull hI hfit in
theorem ap_rest (it:Itm) (σ:St):(ap it σ).nv=σ.nv∧(ap it σ).known=σ.known∧(ap it σ).nb=σ.nb∧(ap it σ).vb=σ.vb:=by
 unfold ap
 cases it.δ <;> exact ⟨rfl,rfl,rfl,rfl⟩
omit hfull hI hfit in
theorem fold_rest {X:Nat→Bool}:∀ (its:List Itm) (k:Nat) (σ:St),(fold X k its σ).nv=σ.nv∧(fold X k its σ).known=σ.known∧(fold X k its σ).nb=σ.nb∧(fold X k its σ).vb=σ.vb
 | [],k,σ=>⟨rfl,rfl,rfl,rfl⟩
 | it::r,k,σ=>by
  unfold fold
  obtain ⟨h1,h2,h3,h4⟩:=fold_rest r (k+1) (if X k then ap it σ else σ)
  have h0:(if X k then ap it σ else σ).nv=σ.nv∧(if X k then ap it σ else σ).known=σ.known∧(if X k then ap it σ else σ).nb=σ.nb∧(if X k then ap it σ else σ).vb=σ.vb:=by
   split
   · exact ap_rest it σ
   · exact ⟨rfl,rfl,rfl,rfl⟩
  exact ⟨h1.trans h0.1,h2.trans h0.2.1,h3.trans h0.2.2.1,h4.trans h0.2.2.2⟩
theorem more_eq (hX:Closed its X) {i:Nat} (hr:Ready its X i) {a:Itm} (ha:its[i]?=some a):fold (fun j=>X j || j == i) 0 its hat=ap a (fold X 0 its hat):=by
 have h1:=List.ext_getElem? (more_slot hfull hI hfit hX hr ha)
 have h2:=List.ext_getElem? (more_obj hfull hI hfit hX hr ha)
 obtain ⟨g1,g2,g3,g4⟩:=fold_rest (X:=fun j=>X j || j == i) its 0 hat
 obtain ⟨k1,k2,k3,k4⟩:=fold_rest (X:=X) its 0 hat
 obtain ⟨m1,m2,m3,m4⟩:=ap_rest a (fold X 0 its hat)
 have ext:∀ (s t:St),s.slots=t.slots→s.objs=t.objs→s.nv=t.nv→s.known=t.known→s.nb=t.nb→s.vb=t.vb→s=t:=by
  intro s t h1 h2 h3 h4 h5 h6
  cases s; cases t
  simp only at h1 h2 h3 h4 h5 h6
  subst h1 h2 h3 h4 h5 h6
  rfl
 exact ext _ _ h1 h2 (by rw [g1,m1,k1]) (by rw [g2,m2,k2]) (by rw [g3,m3,k3]) (by rw [g4,m4,k4])
end
theorem Sim.pad {C:Cx} {σ:St} {ν:List D} {S:Nat→Prop} {ω:Nat→Option Value} {tm:Array Value} {w:World} (h:Sim C σ ν S ω tm w) (k:Nat):Sim C { σ with objs:=σ.objs++List.replicate k .dead } ν S ω tm w:=by
 have cases' : ∀ {o:Nat} {x:SObj},(σ.objs++List.replicate k .dead)[o]?=some x→σ.objs[o]?=some x ∨ x=.dead:=by
  intro o x hx
  by_cases ho:o < σ.objs.length
  · rw [List.getElem?_append_left ho] at hx; exact .inl hx
  · rw [List.getElem?_append_right (by omega)] at hx
    have:=List.mem_of_getElem? hx
    rw [List.mem_replicate] at this
    exact .inr this.2
 exact { h with
  dom:=fun o u hu=>by have:=h.dom o u hu; simp; omega
  objs:=fun o x hx=>by
   rcases cases' hx with g | rfl
   · exact h.objs o x g
   · trivial
  sep:=fun o1 o2 x x' b h1 h2 h3 h4 h5 h6=>by
   rcases cases' h1 with g | rfl
   · rcases cases' h2 with k | rfl
     · exact h.sep o1 o2 x x' b g k h3 h4 h5 h6
     · simp [SObj.live] at h4
   · simp [SObj.live] at h3
  own:=fun o1 x b h1 h2 h3=>by
   rcases cases' h1 with g | rfl
   · exact h.own o1 x b g h2 h3
   · simp [SObj.live] at h2 }
end Go.SX
namespace Go.SX
open Go.RowKit
/-! ### The text's order, once more -/
theorem Tr.rest {R:RL} {env:Env} {ops:Array Oper} {σ σ' : St} {ν ν' : List D} {os:List Oper} {its:List Itm} (h:Tr R env ops σ ν os its σ' ν') :
 σ.text→ν.length=σ.nv→KnOK σ.known ν→σ'.text∧ν'.length=σ'.nv∧KnOK σ'.known ν':=by
 induction h with
 | nil=>exact fun h1 h2 h3=>⟨h1,h2,h3⟩
 | skip hg hk _ ih=>exact fun h1 h2 h3=>ih h1 h2 hk
 | exec hg hk hl hld hrl _ _ _ ih =>
  exact fun h1 h2 h3=>ih ⟨rfl,rfl⟩ (by rw [List.length_append,h2,hrl]; rfl) (hk.low hl h2 _)
theorem Tr.mono {R:RL} {env:Env} {ops:Array Oper} {σ σ' : St} {ν ν' : List D} {os:List Oper} {its:List Itm} (h:Tr R env ops σ ν os its σ' ν') :
 σ.text→(∀ (j:Nat) b,its[j]?=some b→σ.objs.length≤b.nb)∧(∀ (i j:Nat) a b δ,i < j→its[i]?=some a→its[j]?=some b→a.δ=some δ→a.nb+resv a.o δ≤b.nb):=by
 induction h with
 | nil=>exact fun _=>⟨fun j b h=>by simp at h,fun i j a b δ hij h=>by simp at h⟩
 | @skip σ σ' ν ν' o os its kn hg hk htr ih =>
  intro ht
  obtain ⟨i1,i2⟩:=ih ht
  refine ⟨fun j b hb=>?_,fun i j a b δ hij ha hb hd=>?_⟩
  · cases j with
    | zero=>simp at hb; subst hb; exact Nat.le_of_eq ht.1.symm
    | succ j=>exact i1 j b (by simpa using hb)
  · cases j with
    | zero=>omega
    | succ j =>
     cases i with
     | zero=>simp at ha; subst ha; cases hd
     | succ i=>exact i2 i j a b δ (by omega) (by simpa using ha) (by simpa using hb) hd
 | @exec σ σ' ν ν' rs o os its kn δ0 hg hk hl hld hrl _ _ htr ih =>
  intro ht
  obtain ⟨i1,i2⟩:=ih ⟨rfl,rfl⟩
  have hn:=stepD_len (σ:={ σ with known:=kn }) (o:=o) (δ:=δ0) ht.1
  have hnb:σ.nb=σ.objs.length:=ht.1
  simp only at hn
  refine ⟨fun j b hb=>?_,fun i j a b δ hij ha hb hd=>?_⟩
  · cases j with
    | zero=>simp at hb; subst hb; exact Nat.le_of_eq ht.1.symm
    | succ j =>
     have:=i1 j b (by simpa using hb)
     omega
  · cases j with
    | zero=>omega
    | succ j =>
     cases i with
     | zero =>
      simp at ha; subst ha
      cases hd
      have:=i1 j b (by simpa using hb)
      simp only
      omega
     | succ i=>exact i2 i j a b δ (by omega) (by simpa using ha) (by simpa using hb) hd
/-! ### A step that is no call leads to its leaf, in whatever hands it is -/
theorem Leads.run {R:RL} {Lf:Delta→List D→Prop} {t:T} {ν rs:List D} {δ:Delta} (h:Leads R t ν δ rs):∀ {n:Nat},lowT n t=true→noCall t=true→ν.length=n→∀ (μ r:List D),Lf δ (ν++μ)→rs=[]∧t.Run { R with Lf:=Lf } (ν++μ) r:=by
 induction h with
 | leaf=>exact fun _ _ _ μ r h=>⟨rfl,h⟩
 | ck hc _ ih =>
  intro n hl hn hν μ r hL
  simp only [lowT,Bool.and_eq_true] at hl
  obtain ⟨h1,h2⟩:=ih hl.2 hn hν μ r hL
  exact ⟨h1,by rw [E.low_den hl.1 hν]; exact hc,h2⟩
 | call=>exact fun _ hn=>by cases hn
theorem Leads.call_inv {R:RL} {g n:Nat} {as:List E} {δ δ' : Delta} {ν rs:List D} (h:Leads R (.call g n as (.leaf δ')) ν δ rs):δ=δ'∧rs.length=n∧R.R g (as.map (E.den ν)) rs:=by
 cases h with
 | call h1 h2=>exact ⟨rfl,h1,h2⟩
theorem stepCall_leads {env:Env} {g:FuncId} {as:List Slot} {σ:St} {ν rs:List D} {R:RL} {δ:Delta} (hr:Leads R (stepCall env g as σ .leaf) ν δ rs):∃ i s th rho lent,findSig env g as σ.objs env.sigs 0=some (i,s,th,rho,lent) ∧
 (∀ x,x∈rho→∃ a,x=some a∧a < σ.objs.length∧(a < σ.nb ∨ σ.nb+(s.outO.length - s.inO.length)≤a))∧(σ.low=true∧th.all (E.low σ.nv)=true)∧s.inO.length≤s.outO.length∧(s.inO.all SObj.live=true∧s.outLow=true)∧rs.length=s.nOut∧R.R (i * 100) (th.map (E.den ν)) rs∧δ=callDelta env.ti s rho lent σ:=by
 unfold stepCall at hr
 split at hr
 · rename_i i s th rho lent hf
   split at hr
   · rename_i hc
     obtain ⟨c1,c2,c3,c4⟩:=hc
     obtain ⟨h1,h2,h3⟩:=hr.call_inv
     refine ⟨i,s,th,rho,lent,hf,fun x hx=>?_,c2,c3,c4,h2,h3,h1⟩
     have:=List.all_eq_true.1 c1 x hx
     split at this
     · rename_i a
       exact ⟨a,rfl,of_decide_eq_true this⟩
     · cases this
   · cases hr
 · cases hr
theorem close_sub (objs:List SObj):∀ (f:Nat) (l:List Nat) {p:Nat},p∈l→p∈close objs f l
 | 0,l,p,h=>h
 | f+1,l,p,h=>by
  unfold close
  split
  · exact h
  · exact close_sub objs f _ (List.mem_append.2 (.inl h))
/-! ### The state at a set of what is done -/
def Places (its:List Itm) (X:Nat→Bool) (ω:Nat→Option Value):Prop:=∀ (j:Nat) b δ,its[j]?=some b→X j=false→b.δ=some δ→∀ p,b.nb≤p→p < b.nb+resv b.o δ→ω p=none
structure Reg (C:Cx) (env:Env) (ops:Array Oper) (its:List Itm) (full:List (Itm × List Nat)) (hat:St) (νf:List D):Prop where
 hfull:full.map (·.1)=its
 hI:ApI ops full
 hfit:∀ it,it∈its→it.fits hat.objs.length
 hops:its.map (·.o)=ops.toList
 at_:∀ (j:Nat) it,its[j]?=some it→∃ σi νi,At C.R env ops hat (its.take j) νf it σi νi
 mono:∀ (i j:Nat) a b δ,i < j→its[i]?=some a→its[j]?=some b→a.δ=some δ→a.nb+resv a.o δ≤b.nb
 kn0:hat.known=[]
def Inv (C:Cx) (its:List Itm) (hat:St) (νf:List D) (ds:List Deferred) (X:Nat→Bool) (a:Act) (w:World):Prop :=
 a.defers=ds∧Closed its X∧∃ S ω,Sim C (fold X 0 its hat) νf S ω a.tmps w∧Places its X ω
section
variable {C:Cx} {env:Env} {ops:Array Oper} {its:List Itm} {full:List (Itm × List Nat)} {hat:St} {νf:List D} {ds:List Deferred} {X:Nat→Bool} {a:Act} {w:World} {Q:Exit→Act→World→Prop}
theorem Closed.more {i:Nat} (h:Closed its X) (hr:Ready its X i):Closed its (fun j=>X j || j == i):=by
 intro j it hj hX d hd
 simp only [Bool.or_eq_true] at hX ⊢
 rcases hX with hX | hX
 · exact .inl (h j it hj hX d hd)
 · have:j=i:=by simpa using hX
   subst this
   exact .inl (hr.2 it hj d hd)
theorem Itm.place_wr {b:Itm} {δ:Delta} (hd:b.δ=some δ) {p:Nat} (h1:b.nb≤p) (h2:p < b.nb+resv b.o δ):p∈b.wr:=by
 unfold Itm.wr
 rw [hd]
 simp only [List.mem_append,List.mem_map,List.mem_range]
 exact .inr ⟨p - b.nb,by omega,by omega⟩
theorem Itm.wr_lt {b:Itm} {δ:Delta} {objs:List SObj} (hd:b.δ=some δ) (hf:b.fine objs=true) {p:Nat} (hp:p∈b.wr):p < b.nb+resv b.o δ:=by
 unfold Itm.wr at hp
 unfold Itm.fine at hf
 rw [hd] at hp hf
 simp only [Bool.and_eq_true,List.all_eq_true,decide_eq_true_eq] at hf
 simp only [List.mem_append,List.mem_map,List.mem_range] at hp
 rcases hp with (⟨q,hq,rfl⟩ | hp) | ⟨k,hk,rfl⟩
 · have:=hf.1.1.1 q hq; omega
 · have:=hf.1.1.2 p hp; omega
 · omega
theorem Reg.dead (G:Reg C env ops its full hat νf) (hX:Closed its X) {i:Nat} (hr:Ready its X i) {it:Itm} (hit:its[i]?=some it) {δ:Delta} (hd:it.δ=some δ) {p:Nat} (h1:it.nb≤p) (h2:p < it.nb+resv it.o δ) :
 (fold X 0 its hat).objs[p]?=some .dead:=by
 obtain ⟨σi,νi,hA⟩:=G.at_ i it hit
 have hlt:p < hat.objs.length:=by
  rcases hA.go with ⟨h,_⟩ | ⟨δ',rs,h,_,_,_,_,_,_,h8,_⟩
  · rw [hd] at h; cases h
  · rw [hd] at h; cases h; omega
 rw [←hA.dead p (by rw [←hA.nb]; exact h1) hlt,foldAll_take G.hfull G.hI G.hfit i (Nat.le_of_lt (List.getElem?_eq_some_iff.1 hit).1)]
 refine fold_obj its 0 G.hfit G.hfit rfl fun j b hb hne=>?_
 simp only [Nat.zero_add] at hne
 cases hXj:X j with
 | true =>
  rw [hXj] at hne
  have hji:¬ j < i:=by simpa using hne
  have hne' : j≠i:=fun e=>by rw [e,hr.1] at hXj; cases hXj
  exact ((apart_inv ((apart_of G.hfull G.hI hX hr hit hb).1 hXj (by omega))).2.2.1 p (Itm.place_wr hd h1 h2)).2
 | false =>
  rw [hXj] at hne
  have hji:j < i:=by simpa using hne
  intro hp
  obtain ⟨σj,νj,hB⟩:=G.at_ j b hb
  rcases hB.go with ⟨h,_⟩ | ⟨δ',rs,h,_,_,_,_,hf,_⟩
  · unfold Itm.wr at hp; rw [h] at hp; cases hp
  · have:=Itm.wr_lt h hf hp
    have:=G.mono j i b it δ' hji hb hit h
    omega
theorem Places.more {i:Nat} {it:Itm} (G:Reg C env ops its full hat νf) (hit:its[i]?=some it) {ω ω' : Nat→Option Value} (h:Places its X ω) {δ:Delta} (hd:it.δ=some δ) {k:Nat} (hk:k≤resv it.o δ)
 (hω:∀ o,ω' o≠none→ω o≠none ∨ (it.nb≤o∧o < it.nb+k)):Places its (fun j=>X j || j == i) ω':=by
 intro j b δ' hb hX hdb p h1 h2
 simp only [Bool.or_eq_false_iff] at hX
 have hji:j≠i:=by simpa using hX.2
 cases hp:ω' p with
 | none=>rfl
 | some v =>
  rcases hω p (by rw [hp]; simp) with g | ⟨g1,g2⟩
  · exact absurd (h j b δ' hb hX.1 hdb p h1 h2) g
  · rcases Nat.lt_or_gt_of_ne hji with hlt | hlt
    · have:=G.mono j i b it δ' hlt hb hit hdb
      omega
    · have:=G.mono i j it b δ hlt hit hb hd
      omega
theorem Reg.slot (G:Reg C env ops its full hat νf) (hX:Closed its X) {i:Nat} (hr:Ready its X i) {it:Itm} (hit:its[i]?=some it) {σi:St} {νi:List D} (hA:At C.R env ops hat (its.take i) νf it σi νi) {t:Nat} (ht:t∈looksOf ops it.o) :
 σi.slots[t]?=(fold X 0 its hat).slots[t]?:=by rw [hA.slots,view_slot G.hfull G.hI G.hfit hX hr hit ht]
theorem Reg.guard (G:Reg C env ops its full hat νf) (hX:Closed its X) {i:Nat} (hr:Ready its X i) {it:Itm} (hit:its[i]?=some it) {σi:St} {νi:List D} (hA:At C.R env ops hat (its.take i) νf it σi νi)
 {S:Nat→Prop} {ω:Nat→Option Value} (h:Sim C (fold X 0 its hat) νf S ω a.tmps w) {b:Bool} (hg:GOK ops it.o σi νi b) (hp:∃ μ,νf=νi++μ):Region.wanted it.o (yielded ops a.tmps)=b:=by
 unfold GOK at hg
 unfold Region.wanted
 split at hg
 · rename_i hgd; simp only [hgd]; exact hg.symm
 · rename_i j want hgd
   simp only [hgd]
   obtain ⟨t,ht,hc⟩:=hg
   have hlook:t∈looksOf ops it.o:=by
    unfold looksOf
    rw [hgd]
    simp [ht]
   have hsl:=G.slot hX hr hit hA hlook
   rcases hc with ⟨c,hs,hl,hb⟩ | ⟨hs,hb⟩
   · rw [hs] at hsl
     have hv:=(Rd.bool_inv (h.slots t _ hsl.symm)).2
     have hlt:t < a.tmps.size:=by rw [h.tsz]; exact (List.getElem?_eq_some_iff.1 hsl.symm).1
     obtain ⟨μ,hμ⟩:=hp
     have hden:c.den νf=c.den νi:=by rw [hμ]; exact E.low_den hl hA.nv μ
     rw [hden] at hv
     have hy:yielded ops a.tmps j=some (c.den νi).toBool:=by
      unfold yielded
      rw [ht]
      have:a.tmps[t]?=some (.bool (c.den νi).toBool):=by
       rw [←hv]
       simp [hlt]
      simp [this]
     rw [hy,←hb]
     cases (c.den νi).toBool <;> cases want <;> rfl
   · rw [hs] at hsl
     have hv:=h.slots t _ hsl.symm
     have hy:yielded ops a.tmps j=none:=by
      unfold yielded
      rw [ht]
      have hv' : a.tmps.getD t undef=undef:=hv
      have hlt:t < a.tmps.size:=by rw [h.tsz]; exact (List.getElem?_eq_some_iff.1 hsl.symm).1
      have:a.tmps[t]?=some undef:=by
       rw [←hv']
       simp [hlt]
      simp [this,undef]
     rw [hy,hb]
     rfl
theorem Reg.go (G:Reg C env ops its full hat νf) (hti:env.ti=C.ti) (hT:TyOK C.P C.ti) (hE:∀ t,t∈env.eqt→EqTy C.P C.ti t) (hS:SigsOK C.P C.ti env.sigs C.R.R) (hX:Closed its X) {i:Nat} (hr:Ready its X i) {it:Itm} (hit:its[i]?=some it) {σi:St} {νi:List D} (hA:At C.R env ops hat (its.take i) νf it σi νi)
 {S:Nat→Prop} {ω:Nat→Option Value} (h:Sim C (fold X 0 its hat) νf S ω a.tmps w) (hPl:Places its X ω) {δ:Delta} {rs:List D} (hd:it.δ=some δ) (hlow:it.kn.all (fun p=>p.1.low σi.nv)=true) (hld:Leads C.R (ostep env it.o { σi with known:=it.kn } .leaf) νi δ rs)
 (hlt:lowT σi.nv (ostep env it.o { σi with known:=it.kn } .leaf)=true∧(isCallV it.o=true ∨ noCall (ostep env it.o { σi with known:=it.kn } .leaf)=true)) (hfine:it.fine σi.objs=true) (hrd:it.rd=reads it.o { σi with known:=it.kn }) (hfit:it.nb+resv it.o δ≤hat.objs.length)
 {μ:List D} (hμ:νf=νi++rs++μ):it.o.wp C.P a w (Inv C its hat νf a.defers (fun j=>X j || j == i)) Q:=by
 have hmo:=more_eq G.hfull G.hI G.hfit hX hr hit
 have hFl:(fold X 0 its hat).objs.length=hat.objs.length:=fold_len its 0 G.hfit
 obtain ⟨_,hFk,_,_⟩:=fold_rest (X:=X) its 0 hat
 rw [G.kn0] at hFk
 have hdead:∀ p,it.nb≤p→p < it.nb+resv it.o δ→(fold X 0 its hat).objs[p]?=some .dead:=fun p h1 h2=>G.dead hX hr hit hd h1 h2
 have hslot:∀ t,t∈looksOf ops it.o→σi.slots[t]?=(fold X 0 its hat).slots[t]?:=fun t ht=>G.slot hX hr hit hA ht
 have hobj:∀ p,p∈it.rd→σi.objs[p]?=(fold X 0 its hat).objs[p]?:=fun p hp=>by
  have hlt:p < σi.objs.length:=by
   unfold Itm.fine at hfine
   rw [hd] at hfine
   simp only [Bool.and_eq_true,List.all_eq_true,decide_eq_true_eq] at hfine
   rw [←hA.nb]
   exact hfine.1.2 p hp
  rw [hA.objs p hlt,view_obj G.hfull G.hI G.hfit hX hr hit hp]
 have hnew:Closed its (fun j=>X j || j == i):=hX.more hr
 have hapd:ap it (fold X 0 its hat)={ fold X 0 its hat with slots:=setS (fold X 0 its hat).slots it.o.dst δ.dst,objs:=place (upds (freeze (fold X 0 its hat).objs δ.fz) δ.upd) it.nb δ.new }:=by
  unfold ap; rw [hd]
 generalize hF:fold X 0 its hat=F at *
 have hnbK:∀ k,k≤resv it.o δ→∀ kn vb,NbOK { F with known:=kn,nb:=it.nb,vb:=vb } ω k:=by
  intro k hk kn vb
  refine ⟨by simp only; omega,fun q hq=>⟨hPl i it δ hit hr.1 hd _ (by simp only; omega) (by simp only; omega),fun x hx=>?_⟩⟩
  simp only at hx
  rw [hdead (it.nb+q) (by omega) (by omega)] at hx
  cases hx; rfl
 have hag:Agree it.o { σi with known:=it.kn } { F with known:=it.kn,nb:=it.nb,vb:=it.vb }:={
  nb:=by simp only; rw [hA.nb]; exact hA.text.1
  vb:=by simp only; rw [hA.vb]; exact hA.text.2
  known:=rfl
  slots:=fun t ht=>hslot t (by unfold looksOf; exact List.mem_append.2 (.inl ht))
  objs:=fun p hp=>hobj p (by rw [hrd]; exact hp) }
 -- what is left to show, once the state after it is known
 have fin:∀ {a' : Act} {w' : World} {σ' : St} {S' : Nat→Prop} {ω' : Nat→Option Value},a'.defers=a.defers→Sim C σ' νf S' ω' a'.tmps w'→σ'.slots=setS F.slots it.o.dst δ.dst→σ'.objs=place (upds (freeze F.objs δ.fz) δ.upd) it.nb δ.new→σ'.nv=F.nv →
  (∀ o,ω' o≠none→ω o≠none ∨ (it.nb≤o∧o < it.nb+δ.new.length))→Inv C its hat νf a.defers (fun j=>X j || j == i) a' w':=by
  intro a' w' σ' S' ω' h1 h2 h3 h4 h5 h6
  refine ⟨h1,hnew,S',ω',?_,Places.more G hit hPl hd (Nat.le_max_left _ _) h6⟩
  rw [hmo,hapd]
  have h7:=(h2.learn (kn:=[]) (fun c b hc=>by cases hc)).renb F.nb F.vb
  have he:({ { σ' with known:=[] } with nb:=F.nb,vb:=F.vb }:St)={ F with slots:=setS F.slots it.o.dst δ.dst,objs:=place (upds (freeze F.objs δ.fz) δ.upd) it.nb δ.new }:=by
   cases σ'; cases F
   simp only at h3 h4 h5 hFk
   subst h3 h4 h5 hFk
   rfl
  rw [he] at h7
  exact h7
 cases hn:isCallV it.o with
 | false =>
  have hnc:noCall (ostep env it.o { σi with known:=it.kn } .leaf)=true:=by
   rcases hlt.2 with h | h
   · rw [hn] at h; cases h
   · exact h
  obtain ⟨hrs,hrun⟩:=hld.run (Lf:=fun δ' ν'=>δ'=δ∧ν'=νf) hlt.1 hnc hA.nv (rs++μ) [] ⟨rfl,by rw [hμ,List.append_assoc]⟩
  rw [←List.append_assoc,←hμ,ostep_loc hag hn] at hrun
  have hkn:KnOK it.kn νf:=by
   rw [hμ,List.append_assoc]
   exact hA.kn.low hlow hA.nv _
  have h1:Sim { C with R:={ C.R with Lf:=fun δ' ν'=>δ'=δ∧ν'=νf } } { F with known:=it.kn,nb:=it.nb,vb:=it.vb } νf S ω a.tmps w:=((h.learn hkn).renb it.nb it.vb).reR _
  have key:=ostep_nocall (C:={ C with R:={ C.R with Lf:=fun δ' ν'=>δ'=δ∧ν'=νf } }) (Q:=Q) hti hT hE h1 (fun hm=>hnbK 1 (by unfold resv; rw [if_pos hm]; exact Nat.le_max_right _ _) _ _) hn hrun
  refine Oper.wp_mono (fun a' w' hk=>?_) key
  obtain ⟨k1,δ',ν',S',ω',⟨rfl,rfl⟩,k3,k4⟩:=hk
  have hdn:δ'.dn=0:=by
   have e1:=k3.nv
   have e2:=h1.nv
   have e3:∀ d,({ F with known:=it.kn,nb:=it.nb,vb:=it.vb }:St).app d δ'={ ({ F with known:=it.kn,nb:=it.nb,vb:=it.vb }:St).app none δ' with slots:=setS F.slots d δ'.dst }:=fun d=>by cases d <;> rfl
   rw [e3] at e1
   have e4:F.nv+δ'.dn=F.nv:=e1.symm.trans e2
   omega
  refine fin k1 (k3.reR C.R) (by cases it.o.dst <;> rfl) (by cases it.o.dst <;> rfl) (by cases it.o.dst <;> (simp only [St.app]; omega)) k4
 | true =>
  have hn0:=hn
  unfold isCallV at hn
  split at hn
  · rename_i c ho
    split at hn
    · rename_i f hc
      unfold ostep at hld
      simp only [ho,hc] at hld
      split at hld
      · rename_i g cs hf
        obtain ⟨ix,s,th,rho,lent,h1,h2,h3,h4,h5,h6,h7,h8⟩:=stepCall_leads hld
        have hmem:∀ x,x∈c.args.toList→x∈it.o.op.operands:=fun x hx=>by rw [ho]; simp only [Op.operands,Call.operands]; exact Array.mem_append.2 (by first | exact .inl (by simpa using hx) | exact .inr (by simpa using hx))
        have hmemf:f∈it.o.op.operands:=by rw [ho]; simp [Op.operands,Call.operands,hc]
        have hargs:∀ (l:List Operand) (ts:List TypeId),(∀ x,x∈l→x∈it.o.op.operands)→argSlots { σi with known:=it.kn } l ts=argSlots { F with known:=it.kn,nb:=it.nb,vb:=it.vb } l ts:=by
         intro l
         induction l with
         | nil=>intro ts _; rfl
         | cons x l ih =>
          intro ts hl
          simp only [argSlots,hag.look (hl x (by simp)),ih _ fun y hy=>hl y (by simp [hy])]
        have hclosed:∀ o,o∈it.rd→∀ x,({ σi with known:=it.kn }:St).objs[o]?=some x→∀ p,p∈x.nums→p∈it.rd:=by
         intro o hor x hx p hp
         unfold Itm.fine at hfine
         rw [hd] at hfine
         simp only [Bool.and_eq_true,hn0,Bool.not_true,Bool.false_or] at hfine
         have:=List.all_eq_true.1 hfine.2 o hor
         unfold numsAt at this
         simp only at hx
         rw [hx] at this
         simpa using List.all_eq_true.1 this p hp
        have hsub:∀ p,p∈(operTmps it.o).flatMap (slotNums { σi with known:=it.kn })→p∈it.rd:=by
         intro p hp
         rw [hrd]
         unfold reads
         simp only [hn0,if_true]
         exact close_sub _ _ _ hp
        have hnums:∀ s,s∈argSlots { σi with known:=it.kn } c.args.toList c.argTypes.toList++capSlots cs→∀ p,p∈s.nums→p∈it.rd:=by
         intro s hs p hp
         apply hsub
         rcases List.mem_append.1 hs with hs | hs
         · have key:∀ (l:List Operand) (ts:List TypeId),(∀ x,x∈l→x∈it.o.op.operands)→s∈argSlots { σi with known:=it.kn } l ts→p∈(operTmps it.o).flatMap (slotNums { σi with known:=it.kn }):=by
            intro l
            induction l with
            | nil=>intro ts _ hs; cases hs
            | cons x l ih =>
             intro ts hl hs
             rcases List.mem_cons.1 hs with rfl | hs
             · exact look_nums (hl x (by simp)) p hp
             · exact ih _ (fun y hy=>hl y (by simp [hy])) hs
           exact key _ _ hmem hs
         · refine look1_nums (a:=.fn g cs) hmemf hf p ?_
           unfold capSlots at hs
           obtain ⟨cp,hcp,rfl⟩:=List.mem_map.1 hs
           cases cp with
           | p o =>
            simp only [Slot.nums,SV.nums,SV.cells,List.flatMap_cons,List.flatMap_nil,List.append_nil,SV1.nums,List.mem_singleton] at hp
            subst hp
            simp only [SV1.nums,List.mem_filterMap]
            exact ⟨.p p,hcp,rfl⟩
           | r ks=>simp [Slot.nums,SV.nums,SV.cells,SV1.nums] at hp
        have hfs:=findSig_loc (T:=fun p=>p∈it.rd) (objs:=({ σi with known:=it.kn }:St).objs) (objs':=F.objs) hobj hclosed (env:=env) (g:=g) (as:=argSlots { σi with known:=it.kn } c.args.toList c.argTypes.toList++capSlots cs) hnums env.sigs 0
        rw [hfs,hargs _ _ hmem] at h1
        obtain ⟨_,hs,hg,hm⟩:=findSig_spec h1
        simp only [Nat.sub_zero] at hs
        subst hg
        rw [hti] at hm h8
        have h9:=(h.learn (kn:=[]) (fun c b hc=>by cases hc)).renb it.nb it.vb
        have hf' : look1 { { F with known:=[] } with nb:=it.nb,vb:=it.vb } 0 f=some (.fn s.f cs):=by
         have:=hag.look1 hmemf 0
         rw [hf] at this
         rw [this]
         rfl
        have hm' : mtch 0 C.ti s.inS s.inO s.nIn (argSlots { { F with known:=[] } with nb:=it.nb,vb:=it.vb } c.args.toList c.argTypes.toList++capSlots cs) F.objs=some (th,rho,lent):=by
         have he:=argSlots_slots (σ:={ { F with known:=[] } with nb:=it.nb,vb:=it.vb }) (σ':={ F with known:=it.kn,nb:=it.nb,vb:=it.vb }) rfl c.args.toList c.argTypes.toList
         rw [he]
         exact hm
        obtain ⟨_,_,_,_,_,m5,_⟩:=mtch_sound h.objs hm
        have hnbi:σi.nb=it.nb:=by rw [hA.nb]; exact hA.text.1
        have hvbi:σi.vb=it.vb:=by rw [hA.vb]; exact hA.text.2
        have hnew' : δ.new.length=s.outO.length - s.inO.length:=by rw [h8]; simp [callDelta]
        have hcd:callDelta C.ti s rho lent { { F with known:=[] } with nb:=it.nb,vb:=it.vb }=δ:=by
         rw [h8]
         simp only [callDelta,hnbi,hvbi]
        have key:=call_core (Q:=Q) h9 (hS ix s hs) ho hc hf' hm' (by
         have:=hnbK (s.outO.length - s.inO.length) (by rw [←hnew']; exact Nat.le_max_left _ _) [] it.vb
         exact this) (fun o' ho'=>by
         have hlt:o' < rho.length:=by omega
         obtain ⟨a',g1,g2,g3⟩:=h2 _ (List.getElem_mem hlt)
         refine ⟨a',by rw [List.getElem?_eq_getElem hlt,g1],?_,?_⟩
         · simp only
           have:σi.objs.length≤hat.objs.length:=by rw [←hA.nb]; omega
           simp only at g2
           omega
         · simp only at g3 ⊢
           omega) h4 h5.1 h5.2 (rs:=rs) (μ:=μ) h6 (by
         have he:th.map (E.den νf)=th.map (E.den νi):=List.map_congr_left fun x hx=>by
          rw [hμ,List.append_assoc]
          exact E.low_den (List.all_eq_true.1 h3.2 x hx) hA.nv _
         rw [he]; exact h7) (fun j=>by
         show νf.getD (it.vb+j) default=_
         rw [hμ,←hvbi,hA.text.2,←hA.nv,List.append_assoc,List.getD_eq_getElem?_getD,List.getElem?_append_right (by omega),Nat.add_sub_cancel_left,List.getD_eq_getElem?_getD])
        rw [hcd] at key
        refine Oper.wp_mono (fun a' w' hk=>?_) key
        obtain ⟨k1,S',ω',k2,k3⟩:=hk
        exact fin k1 k2 rfl rfl rfl (by rw [hnew']; exact k3)
      · cases hld
    · cases hn
  · cases hn
end
end Go.SX
namespace Go.SX
open Go.RowKit
theorem fold_congr {X Y:Nat→Bool}:∀ (its:List Itm) (k:Nat) (σ:St),(∀ j,j < its.length→X (k+j)=Y (k+j))→fold X k its σ=fold Y k its σ
 | [],k,σ,h=>rfl
 | it::r,k,σ,h=>by
  unfold fold
  have h0:=h 0 (by simp)
  simp only [Nat.add_zero] at h0
  rw [h0]
  exact fold_congr r (k+1) _ fun j hj=>by
   have:=h (j+1) (by simp only [List.length_cons]; omega)
   rw [show k+(j+1)=k+1+j by omega] at this
   exact this
section
variable {C:Cx} {env:Env} {ops:Array Oper} {its:List Itm} {full:List (Itm × List Nat)} {hat:St} {νf:List D} {ds:List Deferred} {Q:Exit→Act→World→Prop}
theorem Reg.opAt (G:Reg C env ops its full hat νf) {i:Nat} {it:Itm} (hit:its[i]?=some it):ops[i]?=some it.o:=by
 have:=congrArg (fun l=>l[i]?) G.hops
 simp only [List.getElem?_map,hit,Option.map_some,Array.getElem?_toList] at this
 exact this.symm
theorem Reg.step (G:Reg C env ops its full hat νf) (hti:env.ti=C.ti) (hT:TyOK C.P C.ti) (hE:∀ t,t∈env.eqt→EqTy C.P C.ti t) (hS:SigsOK C.P C.ti env.sigs C.R.R) {X:Nat→Bool} {a:Act} {w:World} (hI:Inv C its hat νf ds X a w) {i:Nat} (hr:Ready its X i) (hi:i < its.length) :
 wpOp C.P ops Q i (Inv C its hat νf ds (fun j=>X j || j == i)) a w:=by
 obtain ⟨hd,hX,S,ω,h,hPl⟩:=hI
 have hit:its[i]?=some its[i]:=List.getElem?_eq_getElem hi
 generalize its[i]=it at hit
 obtain ⟨σi,νi,hA⟩:=G.at_ i it hit
 unfold wpOp
 rw [G.opAt hit]
 simp only
 rcases hA.go with ⟨hdn,hrd,hg,hμ⟩ | ⟨δ,rs,hdl,hg,hlow,hld,hlt,hfine,hrd,hfit,μ,hμ⟩
 · rw [G.guard hX hr hit hA h hg hμ]
   simp only [Bool.false_eq_true,if_false]
   refine ⟨by rw [put_defers]; exact hd,hX.more hr,S,ω,?_,?_⟩
   · rw [more_eq G.hfull G.hI G.hfit hX hr hit]
     unfold ap
     rw [hdn,put_tmps]
     exact h.slot it.o.dst (v:=undef) (s:=.un) rfl
   · intro j b δ hb hXj
     simp only [Bool.or_eq_false_iff] at hXj
     exact hPl j b δ hb hXj.1
 · rw [G.guard hX hr hit hA h hg ⟨rs++μ,by rw [hμ,List.append_assoc]⟩]
   simp only [if_true]
   rw [←hd]
   exact .inl (G.go hti hT hE hS hX hr hit hA h hPl hdl hlow hld hlt hfine hrd hfit hμ)
theorem Reg.bindsLt (G:Reg C env ops its full hat νf) {i:Nat} {it:Itm} (hit:its[i]?=some it):∀ d,d∈bindPreds it.o→d < i:=by
 have hf:=G.hfull
 rw [←hf,List.getElem?_map] at hit
 obtain ⟨x,hx,rfl⟩:=Option.map_eq_some_iff.1 hit
 exact (G.hI i x hx).1
theorem bind_mem {o:Oper} {d:Nat}:d∈bindPreds o ↔ ∃ e,e∈o.after.toList∧Region.binds .any e=true∧e.on=d:=by
 unfold bindPreds
 rw [List.mem_filterMap]
 constructor
 · rintro ⟨e,he,hc⟩
   split at hc
   · cases hc; exact ⟨e,he,by assumption,rfl⟩
   · cases hc
 · rintro ⟨e,he,hb,rfl⟩
   exact ⟨e,he,by rw [if_pos hb]⟩
theorem Reg.ready_iff (G:Reg C env ops its full hat νf) {listed:Array Bool} (hsz:listed.size=ops.size) {i:Nat}:i∈Region.ready .any ops listed ↔ i < its.length∧Ready its (fun j=>listed.getD j false) i:=by
 have hlen:its.length=ops.size:=by
  have:=congrArg List.length G.hops
  simpa using this
 unfold Region.ready
 simp only [List.mem_filter,List.mem_range,Bool.and_eq_true,Bool.not_eq_true']
 constructor
 · rintro ⟨h1,h2,h3⟩
   have hi:i < its.length:=by omega
   refine ⟨hi,?_,fun it hit d hd=>?_⟩
   · have hl:i < listed.size:=by omega
     simp only [Array.getD_eq_getD_getElem?,Array.getElem?_eq_getElem hl,Option.getD_some] at h2 ⊢
     exact h2
   · rw [G.opAt hit] at h3
     simp only [Option.map_some,Option.getD_some,Array.all_eq_true'] at h3
     obtain ⟨e,he,hb,rfl⟩:=bind_mem.1 hd
     have:=h3 e (by simpa using he)
     simpa [hb] using this
 · rintro ⟨h1,h2,h3⟩
   refine ⟨by omega,?_,?_⟩
   · have hl:i < listed.size:=by omega
     simp only [Array.getD_eq_getD_getElem?,Array.getElem?_eq_getElem hl,Option.getD_some] at h2 ⊢
     exact h2
   · have hit:its[i]?=some its[i]:=List.getElem?_eq_getElem h1
     rw [G.opAt hit]
     simp only [Option.map_some,Option.getD_some,Array.all_eq_true']
     intro e he
     by_cases hb:Region.binds .any e=true
     · have:=h3 _ hit e.on (bind_mem.2 ⟨e,by simpa using he,hb,rfl⟩)
       simp only at this
       rw [this]; simp
     · simp [hb]
theorem Reg.all_listed (G:Reg C env ops its full hat νf) {listed:Array Bool} (hsz:listed.size=ops.size) (he:Region.ready .any ops listed=[]):∀ j,j < its.length→listed.getD j false=true:=by
 intro j
 induction j using Nat.strongRecOn with
 | _ j ih =>
  intro hj
  cases hb:listed.getD j false with
  | true=>rfl
  | false =>
   have:j∈Region.ready .any ops listed:=(G.ready_iff hsz).2 ⟨hj,hb,fun it hit d hd=>by
    have hlt:=G.bindsLt hit d hd
    exact ih d hlt (by omega)⟩
   rw [he] at this
   cases this
theorem getD_set (listed:Array Bool) (i:Nat) (hi:i < listed.size):(fun j=>(listed.setIfInBounds i true).getD j false)=fun j=>listed.getD j false || j == i:=by
 funext j
 simp only [Array.getD_eq_getD_getElem?,Array.getElem?_setIfInBounds]
 by_cases h:i=j
 · subst h
   simp [hi]
 · have:(j == i)=false:=by simpa using fun e=>h e.symm
   simp [h,this]
theorem Reg.any (G:Reg C env ops its full hat νf) (hti:env.ti=C.ti) (hT:TyOK C.P C.ti) (hE:∀ t,t∈env.eqt→EqTy C.P C.ti t) (hS:SigsOK C.P C.ti env.sigs C.R.R)
 (hQ:∀ X a w,(∀ j,j < its.length→X j=true)→Inv C its hat νf ds X a w→Q .normal a w):∀ (fuel:Nat) (listed:Array Bool) (a:Act) (w:World),listed.size=ops.size→((List.range ops.size).filter fun j=>!listed.getD j false).length≤fuel →
  Inv C its hat νf ds (fun j=>listed.getD j false) a w→wpAny C.P .any ops Q fuel listed a w:=by
 have hlen:its.length=ops.size:=by
  have:=congrArg List.length G.hops
  simpa using this
 intro fuel
 induction fuel with
 | zero =>
  intro listed a w hsz hf hI
  have hnil:=List.length_eq_zero_iff.1 (Nat.le_zero.1 hf)
  have hall:∀ j,j < its.length→listed.getD j false=true:=by
   intro j hj
   rw [List.filter_eq_nil_iff] at hnil
   have:=hnil j (by simp; omega)
   simpa using this
  refine ⟨?_,hQ _ a w hall hI⟩
  rw [List.eq_nil_iff_forall_not_mem]
  intro i hi
  obtain ⟨h1,h2,_⟩:=(G.ready_iff hsz).1 hi
  have:=hall i h1
  simp only at h2
  rw [h2] at this
  cases this
 | succ fuel ih =>
  intro listed a w hsz hf hI
  refine ⟨fun he=>hQ _ a w (G.all_listed hsz he) hI,fun i hi=>?_⟩
  obtain ⟨h1,h2⟩:=(G.ready_iff hsz).1 hi
  refine wpOp_mono (fun a' w' hI'=>?_) (G.step (Q:=Q) hti hT hE hS hI h2 h1)
  have hX:=getD_set listed i (by omega)
  refine ih _ a' w' (by simpa using hsz) ?_ (by rw [hX]; exact hI')
  have hsub:((List.range ops.size).filter fun j=>!(listed.setIfInBounds i true).getD j false)=(((List.range ops.size).filter fun j=>!listed.getD j false).filter fun j=>j != i):=by
   rw [List.filter_filter]
   congr 1
   funext j
   have:(listed.setIfInBounds i true).getD j false=(listed.getD j false || j == i):=congrFun hX j
   rw [this]
   cases listed.getD j false <;> cases hji:(j == i) <;> simp [hji,bne]
  have hm:i∈(List.range ops.size).filter fun j=>!listed.getD j false:=by
   rw [List.mem_filter]
   exact ⟨by simp; omega,by have:=h2.1; simp only at this; rw [this]; rfl⟩
  have hlt:(((List.range ops.size).filter fun j=>!listed.getD j false).filter fun j=>j != i).length < ((List.range ops.size).filter fun j=>!listed.getD j false).length :=
   List.length_filter_lt_length_iff_exists.2 ⟨i,hm,by simp⟩
  rw [hsub]
  omega
end
theorem drawOK (env:Env):DrawOK env:=by
 intro C σ ν S ω w r a Q K id ops hti hT hE hS hmx ht h hr hQ
 unfold sxDraw at hr
 split at hr
 · rename_i hlow
   obtain ⟨its,σf,νf,htr,hrun⟩:=drOps_tr ops.toList (acc:=[]) h.known h.nv hr
   simp only [List.nil_append] at hrun
   split at hrun
   · rename_i hap
     obtain ⟨full,hfull,hI⟩:=apartAll_spec (ops:=ops) its 0 [] hap rfl (fun j x hx=>by simp at hx)
     simp only [List.map_nil,List.nil_append] at hfull
     obtain ⟨hft,hfn,hfk⟩:=htr.rest ht h.nv h.known
     obtain ⟨hm1,hm2⟩:=htr.mono ht
     have hle:=htr.len ht
     obtain ⟨μ,hμ⟩:=htr.pref
     let hat:St:={ slots:=σ.slots,objs:=σ.objs++List.replicate (σf.objs.length - σ.objs.length) .dead,nv:=σ.nv+μ.length,known:=[],nb:=σ.nb,vb:=σ.vb }
     have hhl:hat.objs.length=σf.objs.length:=by simp only [hat,List.length_append,List.length_replicate]; omega
     obtain ⟨hat1,hat2,hat3⟩:=tr_at (hat:=hat) htr [] ht h.nv hhl rfl (fun t=>rfl) (fun p hp=>by simp only [foldAll,hat]; rw [List.getElem?_append_left hp]) (fun p h1 h2=>by
      rw [hhl] at h2
      simp only [foldAll,hat]
      rw [List.getElem?_append_right h1,List.getElem?_replicate,if_pos (by omega)])
     simp only [List.nil_append] at hat1 hat2 hat3
     have hfit:∀ it,it∈its→it.fits hat.objs.length:=by
      intro it hmem δ hd
      obtain ⟨j,hj⟩:=List.mem_iff_getElem?.1 hmem
      obtain ⟨σi,νi,hA⟩:=hat1 j it hj
      rcases hA.go with ⟨h,_⟩ | ⟨δ',rs,h,_,_,_,_,_,_,h8,_⟩
      · rw [hd] at h; cases h
      · rw [hd] at h; cases h
        have:δ.new.length≤resv it.o δ:=Nat.le_max_left _ _
        omega
     have G:Reg C env ops its full hat νf:={ hfull,hI,hfit,hops:=htr.ops,at_:=hat1,mono:=hm2,kn0:=rfl }
     have hsim:Sim C hat νf S ω a.tmps w:=by
      have h1:=(h.more hlow μ μ.length rfl).pad (σf.objs.length - σ.objs.length)
      rw [←hμ] at h1
      exact (h1.learn (kn:=[]) (fun c b hc=>by cases hc))
     have hlen:its.length=ops.size:=by
      have:=congrArg List.length G.hops
      simpa using this
     refine wp_region_any hmx (G.any hti hT hE hS (ds:=a.defers) (fun X a' w' hX hIn=>?_) ops.size (Array.replicate ops.size false) a _ (by simp) (by
      refine Nat.le_trans (List.length_filter_le _ _) ?_
      simp) ?_)
     · obtain ⟨i1,i2,S',ω',i3,i4⟩:=hIn
       have hF:fold X 0 its hat=foldAll its hat:=by
        have e1:=foldAll_take hfull hI hfit its.length (Nat.le_refl _)
        rw [List.take_length] at e1
        rw [e1]
        refine fold_congr its 0 hat fun j hj=>?_
        simp only [Nat.zero_add]
        rw [hX j hj]
        simp [hj]
       rw [hF] at i3
       obtain ⟨f1,f2,f3,f4⟩:=fold_rest (X:=X) its 0 hat
       rw [hF] at f1 f2 f3 f4
       have hob:(foldAll its hat).objs=σf.objs:=by
        have hl:(foldAll its hat).objs.length=σf.objs.length:=by
         rw [←hF,fold_len its 0 hfit,hhl]
        apply List.ext_getElem?
        intro p
        by_cases hp:p < σf.objs.length
        · exact (hat3 p hp).symm
        · rw [List.getElem?_eq_none (by omega),List.getElem?_eq_none (by omega)]
       have hsl:(foldAll its hat).slots=σf.slots:=List.ext_getElem? fun t=>(hat2 t).symm
       have hnv:(foldAll its hat).nv=σf.nv:=by
        rw [f1,←hfn,hμ,List.length_append,h.nv]
       have h5:=(i3.learn hfk).renb σf.nb σf.vb
       have he:({ { foldAll its hat with known:=σf.known } with nb:=σf.nb,vb:=σf.vb }:St)=σf:=by
        cases hσ:σf
        rw [hσ] at hob hsl hnv
        simp only at hob hsl hnv
        simp only [hob,hsl,hnv]
       rw [he] at h5
       exact hQ σf νf S' ω' a' w' hft i1 h5 hrun
     · have hX0:(fun j=>(Array.replicate ops.size false).getD j false)=fun _=>false:=by
        funext j
        simp only [Array.getD_eq_getD_getElem?,Array.getElem?_replicate]
        split <;> rfl
       rw [hX0]
       refine ⟨rfl,fun j it hj hX=>(by cases hX),S,ω,?_,fun j b δ hb _ hd p h1 h2=>?_⟩
       · rw [fold_none its 0 fun _ _=>rfl]
         exact hsim.grow { os:=rfl,tape:=rfl,output:=rfl,size:=Nat.le_refl _,block:=fun _ _ _=>rfl }
       · cases hp:ω p with
         | none=>rfl
         | some v =>
          have:=h.dom p v hp
          have:=hm1 j b hb
          omega
   · exact hrun.elim
 · exact hr.elim
end Go.SX
