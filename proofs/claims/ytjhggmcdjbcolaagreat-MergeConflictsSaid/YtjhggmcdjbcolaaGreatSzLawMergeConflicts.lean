/-
The law MergeConflicts: for every input the call returns true and leaves what it was given as it was. The condition on what the tree answers is the theorem mergeConflicts_pure.
-/
import Derived.Test.YtjhggmcdjbcolaaGreatRows
import Derived.Test.YtjhggmcdjbcolaaGreatSzFacMergeConflicts
import Derived.Test.YtjhggmcdjbcolaaGreatSzSound57
import Derived.Test.YtjhggmcdjbcolaaGreatSzPD
import Derived.WalkKit
import Derived.ProofKit
import Derived.OpenShut
import Derived.ShutString
import Derived.ChangeOld
import Derived.Below
import Derived.SizedLaws
set_option linter.unusedVariables false
set_option linter.unusedSimpArgs false
set_option linter.unusedSectionVars false
namespace Go.Proofs.YtjhggmcdjbcolaaGreat.mergeConflicts
open Go.Proofs.YtjhggmcdjbcolaaGreat.facts Go.ChangeShapes Go.WideShapes Go.ChangeAt Go.RowKit Go.SX Go.SX.T57
theorem own:ownKnob Tryz.prog.godebug=none:=by kernel_rfl
theorem laidOut:laidOutB Tryz.prog=true:=Go.Proofs.YtjhggmcdjbcolaaGreat.facts.k1
theorem leaves:((List.range tyTab.length).all (lvB Tryz.prog env.ti))=true:=by kernel_rfl
theorem params:Tryz.f3.params.toList=[25,42]:=by kernel_rfl
theorem plain:([25,42].all (plainB env.ti))=true:=by kernel_rfl
theorem shapes:s0.inS=slotsOf env.ti [25,42] 0:=by kernel_rfl
theorem kinds:([25,42].flatMap (kindsOf env.ti)).length=s0.nIn:=by kernel_rfl
theorem recs:([25,42].all fun t=>Tryz.prog.readableRec t&&decide (t < Tryz.prog.types.size))=true:=by kernel_rfl
set_option maxRecDepth 100000 in
theorem lifted (os:Os) (started:os.Started) (H:Type) (enc:TypeId × Value→H) :
 ReturnsInHanded {} Tryz.checked os 3 .any (Rows.mergeConflictsSpec.pre6 enc Tryz.prog Tryz.f3 Rows.mergeConflictsRow.domain false) (Rows.mergeConflictsSpec.post enc Tryz.prog Tryz.f3 false true false false):=by
 refine returnsInHanded_of_change_sized (C:=Tryz.checked) own started (by kernel_rfl) Tryz.func3
  (ChangeSpec.witness6 (enc:=enc) (C:=Tryz.checked) false ⟨#[],#[.agg #[.slice none 0 0,.slice none 0 0],.agg #[.slice none 0 0,.slice none 0 0,.slice none 0 0,.slice none 0 0,.slice none 0 0,.int .i64 0,.slice none 0 0,.slice none 0 0,.slice none 0 0,.slice none 0 0,.slice none 0 0,.int .i64 0,.int .i64 0,.slice none 0 0,.slice none 0 0,.slice none 0 0,.slice none 0 0,.slice none 0 0,.int .i64 0,.int .i64 0]],[]⟩ 8 (by kernel_rfl) (by kernel_rfl) (by kernel_rfl) (by kernel_rfl)) ?_
 intro W base args ds gs before hval0 hW hcnd hsz0 _
 have hval:∀ (j:Nat) t v,Tryz.f3.params.toList[j]?=some t→args.toList[j]?=some v→Value.okWide Tryz.prog W .any base t v:=fun j t v h1 h2=>hval0 j t v (by simpa using h1) (by simpa using h2)
 have hW':=hW
 obtain ⟨p,q,hA0,hV,rfl,hfz,hnd⟩:=hW
 have hA:DataW.TrodAll enc Tryz.prog W 0 (fun _=>true) true Tryz.f3.params.toList args.toList ds p:=hA0
 rw [params] at hA hval
 obtain ⟨rfl,rfl⟩:=trodVars_none hV
 have hsz:(DataW.weightsEach Tryz.prog (Tryz.f3.params.toList++[]) (ds++[])).all (·≤reachBytes)=true:=hsz0
 rw [params,List.append_nil,List.append_nil] at hsz
 obtain ⟨ν,hν,hs⟩:=open_all tyOK (lvAll leaves) [] plain hval hA (fun q hq=>of_decide_eq_true (List.all_eq_true.1 hsz q hq))
 have hs':=hs []
 simp only [List.nil_append,List.append_nil,List.length_nil] at hs'
 rw [←shapes] at hs'
 have hc:=law_calls (sound 0 rfl) Tryz.func3 (by kernel_rfl) (by kernel_rfl) rfl rfl rfl (mergeConflicts_pure ν hν) (by rw [←kinds]; exact hν.length.symm) hs'
 have ha:args.toList.toArray=args:=by simp
 rw [ha] at hc
 refine hc.mono fun e W' ⟨he,bel⟩=>?_
 subst he
 have hst:=trodAll_stays laidOut bel recs hA
 have hA2:=hA
 obtain ⟨v0,vs0,d0,ds0,p0,q0,hargs,rfl,rfl,h0,r0⟩:=trodAll_cons hA2
 obtain ⟨v1,vs1,d1,ds1,p1,q1,rfl,rfl,rfl,h1,r1⟩:=trodAll_cons r0
 obtain ⟨rfl,rfl,rfl⟩:=trodAll_nil r1
 obtain rfl:args=#[v0,v1]:=by cases args; simp_all
 exact ⟨_,rfl,_,_,_,[],_,[],hW',trodAll_mk1 (shut_bool Tryz.underlying4 _),hst,rfl,bel.frame _,fun h=>by cases h⟩
set_option maxRecDepth 100000 in
theorem closed:joinedFacts Tryz.prog 3 Tryz.f3 Rows.mergeConflictsSpec Rows.mergeConflictsRow=true:=by
 unfold joinedFacts
 exact andI (andI (andI (andI (andI (andI (andI (andI (andI (andI (andI (andI (andI (andI (andI (andI (andI (andI (andI (andI (andI (andI (andI (andI (andI (andI (andI (andI (andI (andI (andI k0 k1) k2) k3) k4) k5) k6) k7) k8) k9) k10) k11) k12) k13) k14) k15) k16) k17) k18) k19) k20) k21) k22) k23) k24) k25) k26) k27) k28) k29) k30) k31
theorem named:Tryz.pinned.checked.prog.funcNamed Rows.mergeConflictsRow.func=some 3:=by kernel_rfl
theorem over:Rows.mergeConflictsRow.holds Tryz.pinned (OpenSpec.ofChange Rows.mergeConflictsSpec) :=
 OpenClaim.holds_of_wide 3 Tryz.f3 rfl rfl rfl rfl rfl rfl rfl ⟨rfl,rfl,rfl,rfl,rfl⟩ rfl rfl rfl rfl rfl named Tryz.func3 closed
  (of_decide_eq_true (by kernel_rfl)) (by unfold Func.isWrapper; first | (rw [if_pos (by decide +kernel)]; kernel_rfl) | (rw [if_neg (by decide +kernel)]; exact ⟨rfl,rfl⟩))
  (fun os started H enc _=>lifted os started H enc)
theorem proved:Rows.MergeConflictsSaid:=over
#print axioms proved
end Go.Proofs.YtjhggmcdjbcolaaGreat.mergeConflicts
namespace Go.Proofs.YtjhggmcdjbcolaaGreat
theorem mergeConflicts_holds:Rows.MergeConflictsSaid:=mergeConflicts.proved
end Go.Proofs.YtjhggmcdjbcolaaGreat
