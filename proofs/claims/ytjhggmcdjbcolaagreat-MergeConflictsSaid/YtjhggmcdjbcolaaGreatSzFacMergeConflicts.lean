/-
Facts that the row of MergeConflicts asks.
-/
import Derived.Test.YtjhggmcdjbcolaaGreatSzFact57
set_option linter.unusedVariables false
set_option linter.unusedSimpArgs false
set_option linter.unusedSectionVars false
namespace Go.Proofs.YtjhggmcdjbcolaaGreat.mergeConflicts
open Go.Proofs.YtjhggmcdjbcolaaGreat.facts
theorem k0:(Rows.mergeConflictsRow.wf (OpenSpec.ofChange Rows.mergeConflictsSpec))=true:=by kernel_rfl
theorem k3:(Tryz.f3.params.all (Tryz.prog.readableRec ·))=true:=by kernel_rfl
theorem k4:(namedTie Tryz.prog Rows.mergeConflictsRow.named Rows.mergeConflictsSpec.vars)=true:=by kernel_rfl
theorem k5:((Rows.mergeConflictsRow.stops == []))=true:=by kernel_rfl
theorem k7:((Rows.mergeConflictsRow.knobs == []))=true:=by kernel_rfl
theorem k9:((Rows.mergeConflictsRow.inPlace == Tryz.prog.inPlace 3))=true:=by kernel_rfl
theorem k10:((Rows.mergeConflictsRow.unfollowed == Tryz.prog.unfollowed 3))=true:=by kernel_rfl
theorem k11:((Rows.mergeConflictsRow.recurses == Tryz.prog.recurses 3))=true:=by kernel_rfl
theorem k12:((Rows.mergeConflictsRow.named == Tryz.prog.varsNamed 3))=true:=by kernel_rfl
theorem k13:((Rows.mergeConflictsRow.maps == (Tryz.f3.params.toList++Rows.mergeConflictsSpec.plain.varTypes Tryz.prog).any (Tryz.prog.mapsRec ·)))=true:=by kernel_rfl
theorem k14:((Rows.mergeConflictsRow.ifaces == (Tryz.f3.params.toList++Rows.mergeConflictsSpec.plain.varTypes Tryz.prog).any (Tryz.prog.ifacesRec ·)))=true:=by kernel_rfl
theorem k15:((Rows.mergeConflictsRow.mapsOut == Tryz.prog.mapsAmong Tryz.f3.resultTypes.toList))=true:=by kernel_rfl
theorem k16:((Rows.mergeConflictsRow.loops == (Tryz.f3.params.toList++Rows.mergeConflictsSpec.plain.varTypes Tryz.prog).any (Tryz.prog.loopsFrom ·)))=true:=by kernel_rfl
theorem k17:((Rows.mergeConflictsRow.wideKeys == (Tryz.f3.params.toList++Rows.mergeConflictsSpec.plain.varTypes Tryz.prog++Tryz.f3.resultTypes.toList).any (Tryz.prog.wideKeysFrom ·)))=true:=by kernel_rfl
theorem k18:(Rows.mergeConflictsSpec.vars.all (Tryz.prog.varReadable ·))=true:=by kernel_rfl
theorem k19:(Tryz.f3.resultTypes.all (fun t=>Tryz.prog.readableRec t&&decide (t < Tryz.prog.types.size)))=true:=by kernel_rfl
theorem k20:((Rows.mergeConflictsRow.ifacesOut == Tryz.f3.resultTypes.toList.any (Tryz.prog.ifacesRec ·)))=true:=by kernel_rfl
theorem k21:((Rows.mergeConflictsRow.loopsOut == Tryz.f3.resultTypes.toList.any (Tryz.prog.loopsFrom ·)))=true:=by kernel_rfl
theorem k22:((Rows.mergeConflictsRow.plainKeys == Tryz.prog.plainKeys))=true:=by kernel_rfl
theorem k23:(Rows.mergeConflictsRow.shortTexts.isNone)=true:=by kernel_rfl
theorem k26:((Rows.mergeConflictsRow.lifted == Tryz.prog.liftsFinal))=true:=by kernel_rfl
theorem k27:((Tryz.prog.make == some Rows.mergeConflictsRow.make))=true:=by kernel_rfl
theorem k28:((Rows.mergeConflictsRow.kinds == (if Rows.mergeConflictsRow.domain.isEmpty then [] else Tryz.f3.params.toList.map fun t=>match Tryz.prog.underlying t with | some (.int k)=>some k | _=>none)))=true:=by kernel_rfl
theorem k29:((Rows.mergeConflictsRow.pinned == Rows.mergeConflictsRow.pinnedBy))=true:=by kernel_rfl
theorem k30:((Rows.mergeConflictsRow.veiled == (Tryz.f3.params.toList++Rows.mergeConflictsSpec.plain.varTypes Tryz.prog++Tryz.f3.resultTypes.toList).any (Tryz.prog.veiledRec ·)))=true:=by kernel_rfl
theorem k31:(Rows.mergeConflictsRow.veiledFits Tryz.prog Tryz.f3.params.toList (Tryz.f3.params.toList++Rows.mergeConflictsSpec.plain.varTypes Tryz.prog++Tryz.f3.resultTypes.toList))=true:=by kernel_rfl
end Go.Proofs.YtjhggmcdjbcolaaGreat.mergeConflicts
