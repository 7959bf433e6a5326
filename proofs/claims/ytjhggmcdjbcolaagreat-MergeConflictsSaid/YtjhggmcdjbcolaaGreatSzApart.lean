/-
What the check of a drawn region says.
-/
import Derived.Test.YtjhggmcdjbcolaaGreatSzDrawOK
set_option linter.unusedVariables false
set_option linter.unusedSimpArgs false
set_option linter.unusedSectionVars false
namespace Go.SX
open Go.RowKit
def ApI (ops:Array Oper) (l:List (Itm × List Nat)):Prop:=∀ (j:Nat) x,l[j]?=some x→(∀ d,d∈bindPreds x.1.o→d < j) ∧
 (∀ i,i∈x.2→i∈bindPreds x.1.o ∨ ∃ d,d∈bindPreds x.1.o∧∃ y,l[d]?=some y∧i∈y.2)∧(∀ (i:Nat) y,i < j→l[i]?=some y→i∈x.2 ∨ apart ops y.1 x.1=true)
theorem apartAll_spec {ops:Array Oper}:∀ (its:List Itm) (k:Nat) (done:List (Itm × List Nat)),apartAll ops its k done=true→done.length=k→ApI ops done→∃ full,full.map (·.1)=done.map (·.1)++its∧ApI ops full
 | [],k,done,h,hl,hI=>⟨done,by simp,hI⟩
 | b::r,k,done,h,hl,hI=>by
  simp only [apartAll,Bool.and_eq_true,List.all_eq_true,decide_eq_true_eq] at h
  obtain ⟨⟨h1,h2⟩,h3⟩:=h
  obtain ⟨full,g1,g2⟩:=apartAll_spec r (k+1) _ h3 (by simp [hl]) (fun j x hx=>by
   by_cases hj:j < done.length
   · rw [List.getElem?_append_left hj] at hx
     obtain ⟨a1,a2,a3⟩:=hI j x hx
     refine ⟨a1,fun i hi=>?_,fun i y hij hy=>?_⟩
     · rcases a2 i hi with h | ⟨d,hd,y,hy,hi⟩
       · exact .inl h
       · exact .inr ⟨d,hd,y,by rw [List.getElem?_append_left (by have:=a1 d hd; omega)]; exact hy,hi⟩
     · rw [List.getElem?_append_left (by omega)] at hy
       exact a3 i y hij hy
   · have hj0:j=done.length:=by
      have:=(List.getElem?_eq_some_iff.1 hx).1
      simp at this
      omega
     subst hj0
     rw [List.getElem?_append_right (Nat.le_refl _)] at hx
     simp at hx
     subst hx
     refine ⟨fun d hd=>by rw [hl]; exact h1 d hd,fun i hi=>?_,fun i y hij hy=>?_⟩
     · have hi':=List.mem_eraseDups.1 hi
       rcases List.mem_append.1 hi' with hi' | hi'
       · exact .inl hi'
       · right
         obtain ⟨d,hd,hi2⟩:=List.mem_flatMap.1 hi'
         split at hi2
         · rename_i y hy
           exact ⟨d,hd,y,by rw [List.getElem?_append_left (by have:=h1 d hd; omega)]; exact hy,hi2⟩
         · cases hi2
     · rw [List.getElem?_append_left hij] at hy
       have:=h2 (y,i) (List.mem_zipIdx_iff_getElem?.2 hy)
       simp only [Bool.or_eq_true] at this
       rcases this with h | h
       · left
         exact List.mem_eraseDups.2 (by simpa using h)
       · exact .inr h)
  exact ⟨full,by rw [g1]; simp,g2⟩
end Go.SX
