/-
The changes of a region's operations, any set of them, laid one upon the other in the text's order.
-/
import Derived.Test.YtjhggmcdjbcolaaGreatSzDraw
set_option linter.unusedVariables false
set_option linter.unusedSimpArgs false
set_option linter.unusedSectionVars false
namespace Go.SX
open Go.RowKit
def ap (it:Itm) (σ:St):St:=match it.δ with
 | some δ=>{ σ with slots:=setS σ.slots it.o.dst δ.dst,objs:=place (upds (freeze σ.objs δ.fz) δ.upd) it.nb δ.new }
 | none=>{ σ with slots:=setS σ.slots it.o.dst .un }
def Itm.fits (it:Itm) (n:Nat):Prop:=∀ δ,it.δ=some δ→it.nb+δ.new.length≤n
def Itm.val (it:Itm):Slot:=match it.δ with
 | some δ=>δ.dst
 | none=>.un
theorem ap_slots (it:Itm) (σ:St):(ap it σ).slots=setS σ.slots it.o.dst it.val:=by
 unfold ap Itm.val
 cases it.δ <;> rfl
theorem setS_ne {l:List Slot} {d:Option Tmp} {v:Slot} {t:Nat} (h:d≠some t):(setS l d v)[t]?=l[t]?:=by
 cases d with
 | none=>rfl
 | some d=>exact List.getElem?_set_ne fun e=>h (by rw [e])
theorem lt_of_agree {α:Type} {l m:List α} {p:Nat} (h:l[p]?=m[p]?):p < l.length ↔ p < m.length:=by
 constructor
 · intro hl
   rcases Nat.lt_or_ge p m.length with hm | hm
   · exact hm
   · rw [List.getElem?_eq_none hm,List.getElem?_eq_getElem hl] at h; cases h
 · intro hm
   rcases Nat.lt_or_ge p l.length with hl | hl
   · exact hl
   · rw [List.getElem?_eq_none hl,List.getElem?_eq_getElem hm] at h; cases h
theorem setS_agree {l m:List Slot} {d:Option Tmp} {v:Slot} {t:Nat} (h:l[t]?=m[t]?):(setS l d v)[t]?=(setS m d v)[t]?:=by
 by_cases hd:d=some t
 · subst hd
   simp only [setS,List.getElem?_set,if_true]
   have:=lt_of_agree h
   by_cases hl:t < l.length
   · rw [if_pos hl,if_pos (this.1 hl)]
   · rw [if_neg hl,if_neg fun k=>hl (this.2 k)]
 · rw [setS_ne hd,setS_ne hd,h]
theorem upds_agree:∀ (L:List (Nat × SObj)) {a b:List SObj} {p:Nat},a[p]?=b[p]?→(upds a L)[p]?=(upds b L)[p]?
 | [],a,b,p,h=>h
 | q::L,a,b,p,h=>by
  rw [upds,upds]
  refine upds_agree L ?_
  by_cases hq:q.1=p
  · rw [hq]
    simp only [List.getElem?_set,if_true]
    have:=lt_of_agree h
    by_cases hl:p < a.length
    · rw [if_pos hl,if_pos (this.1 hl)]
    · rw [if_neg hl,if_neg fun k=>hl (this.2 k)]
  · rw [List.getElem?_set_ne hq,List.getElem?_set_ne hq,h]
theorem ap_len {it:Itm} {σ:St} (h:it.fits σ.objs.length):(ap it σ).objs.length=σ.objs.length:=by
 unfold ap
 cases hd:it.δ with
 | none=>rfl
 | some δ =>
  have:=h δ hd
  simp only
  rw [place_length _ _ _ (by rw [upds_length,freeze_length]; omega),upds_length,freeze_length]
  omega
theorem ap_obj_agree {it:Itm} {σ σ' : St} {p:Nat} (h:it.fits σ.objs.length) (h' : it.fits σ'.objs.length) (he:σ.objs[p]?=σ'.objs[p]?):(ap it σ).objs[p]?=(ap it σ').objs[p]?:=by
 unfold ap
 cases hd:it.δ with
 | none=>exact he
 | some δ =>
  have h1:=h δ hd
  have h2:=h' δ hd
  simp only
  rw [place_get _ _ _ _ (by rw [upds_length,freeze_length]; omega),place_get _ _ _ _ (by rw [upds_length,freeze_length]; omega)]
  split
  · rfl
  · exact upds_agree _ (by rw [freeze_get,freeze_get,he])
theorem ap_obj_ne {it:Itm} {σ:St} {p:Nat} (h:it.fits σ.objs.length) (hp:p ∉ it.wr):(ap it σ).objs[p]?=σ.objs[p]?:=by
 unfold ap
 cases hd:it.δ with
 | none=>rfl
 | some δ =>
  have h1:=h δ hd
  unfold Itm.wr at hp
  rw [hd] at hp
  simp only [List.mem_append,List.mem_map,List.mem_range,not_or] at hp
  obtain ⟨⟨hp1,hp2⟩,hp3⟩:=hp
  simp only
  rw [place_get _ _ _ _ (by rw [upds_length,freeze_length]; omega),if_neg,upds_none,freeze_get]
  · have:δ.fz.contains p=false:=by simpa using hp2
    rw [this]
    cases σ.objs[p]? <;> rfl
  · intro q hq he
    exact hp1 ⟨q,hq,he⟩
  · rintro ⟨ha,hb⟩
    exact hp3 ⟨p - it.nb,by unfold resv; omega,by omega⟩
def fold (X:Nat→Bool):Nat→List Itm→St→St
 | _,[],σ=>σ
 | k,it::r,σ=>fold X (k+1) r (if X k then ap it σ else σ)
theorem fold_len {X:Nat→Bool}:∀ (its:List Itm) (k:Nat) {σ:St},(∀ it,it∈its→it.fits σ.objs.length)→(fold X k its σ).objs.length=σ.objs.length
 | [],k,σ,h=>rfl
 | it::r,k,σ,h=>by
  unfold fold
  have h1:(if X k then ap it σ else σ).objs.length=σ.objs.length:=by
   split
   · exact ap_len (h it (by simp))
   · rfl
  rw [fold_len r (k+1) fun x hx=>by rw [h1]; exact h x (by simp [hx]),h1]
theorem fold_obj {X Y:Nat→Bool} {p:Nat}:∀ (its:List Itm) (k:Nat) {σ σ' : St},(∀ it,it∈its→it.fits σ.objs.length)→(∀ it,it∈its→it.fits σ'.objs.length)→σ.objs[p]?=σ'.objs[p]? →
 (∀ (j:Nat) it,its[j]?=some it→X (k+j)≠Y (k+j)→p ∉ it.wr)→(fold X k its σ).objs[p]?=(fold Y k its σ').objs[p]?
 | [],k,σ,σ',h,h',he,hd=>he
 | it::r,k,σ,σ',h,h',he,hd=>by
  unfold fold
  have l1:(if X k then ap it σ else σ).objs.length=σ.objs.length:=by
   split
   · exact ap_len (h it (by simp))
   · rfl
  have l2:(if Y k then ap it σ' else σ').objs.length=σ'.objs.length:=by
   split
   · exact ap_len (h' it (by simp))
   · rfl
  refine fold_obj r (k+1) (fun x hx=>by rw [l1]; exact h x (by simp [hx])) (fun x hx=>by rw [l2]; exact h' x (by simp [hx])) ?_ (fun j x hx hne=>hd (j+1) x (by simpa using hx) (by rw [show k+(j+1)=k+1+j by omega]; exact hne))
  have h0:=hd 0 it rfl
  simp only [Nat.add_zero] at h0
  cases hX:X k <;> cases hY:Y k <;> simp only [if_true,Bool.false_eq_true,if_false]
  · exact he
  · rw [ap_obj_ne (h' it (by simp)) (h0 (by rw [hX,hY]; simp))]; exact he
  · rw [ap_obj_ne (h it (by simp)) (h0 (by rw [hX,hY]; simp))]; exact he
  · exact ap_obj_agree (h it (by simp)) (h' it (by simp)) he
theorem fold_slot {X Y:Nat→Bool} {t:Nat}:∀ (its:List Itm) (k:Nat) {σ σ' : St},σ.slots[t]?=σ'.slots[t]? →
 (∀ (j:Nat) it,its[j]?=some it→X (k+j)≠Y (k+j)→it.o.dst≠some t)→(fold X k its σ).slots[t]?=(fold Y k its σ').slots[t]?
 | [],k,σ,σ',he,hd=>he
 | it::r,k,σ,σ',he,hd=>by
  unfold fold
  refine fold_slot r (k+1) ?_ (fun j x hx hne=>hd (j+1) x (by simpa using hx) (by rw [show k+(j+1)=k+1+j by omega]; exact hne))
  have h0:=hd 0 it rfl
  simp only [Nat.add_zero] at h0
  cases hX:X k <;> cases hY:Y k <;> simp only [if_true,Bool.false_eq_true,if_false]
  · exact he
  · rw [ap_slots,setS_ne (h0 (by rw [hX,hY]; simp))]; exact he
  · rw [ap_slots,setS_ne (h0 (by rw [hX,hY]; simp))]; exact he
  · rw [ap_slots,ap_slots]; exact setS_agree he
theorem fold_none {X:Nat→Bool}:∀ (its:List Itm) (k:Nat) {σ:St},(∀ j,k≤j→X j=false)→fold X k its σ=σ
 | [],k,σ,h=>rfl
 | it::r,k,σ,h=>by
  unfold fold
  rw [h k (Nat.le_refl _)]
  simp only [Bool.false_eq_true,if_false]
  exact fold_none r (k+1) fun j hj=>h j (by omega)
theorem fold_last {X:Nat→Bool} {i:Nat}:∀ (its:List Itm) (k:Nat) {it:Itm} {σ:St},its[i]?=some it→(∀ j,i+k < j→X j=false)→X (i+k)=false →
 fold (fun j=>X j || j == i+k) k its σ=ap it (fold X k its σ):=by
 intro its
 induction its generalizing i with
 | nil=>intro k it σ h; simp at h
 | cons x r ih =>
  intro k it σ h hX h0
  cases i with
  | zero =>
   simp at h
   subst h
   unfold fold
   simp only [Nat.zero_add] at hX h0 ⊢
   simp only [beq_self_eq_true,Bool.or_true,if_true,h0,Bool.false_eq_true,if_false]
   rw [fold_none r (k+1) fun j hj=>by simp [hX j (by omega)]; omega,fold_none r (k+1) fun j hj=>hX j (by omega)]
  | succ i =>
   unfold fold
   have hk:(k == i+1+k)=false:=by simp
   simp only [hk,Bool.or_false]
   have:=ih (k+1) (σ:=if X k then ap x σ else σ) (by simpa using h) (fun j hj=>hX j (by omega)) (by rw [show i+(k+1)=i+1+k by omega]; exact h0)
   rw [show i+(k+1)=i+1+k by omega] at this
   exact this
end Go.SX
