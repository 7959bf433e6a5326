/-
Each function that chapter 57 reaches answers what its tree answers; a few functions of Go's library answer what the library's laws, or walks of their own, tell.
-/
import Derived.Test.YtjhggmcdjbcolaaGreatSzC57
import Derived.Test.YtjhggmcdjbcolaaGreatSzOpen
import Derived.Test.YtjhggmcdjbcolaaGreatSzSort
import Derived.Test.YtjhggmcdjbcolaaGreatSzDel
import Derived.Laws.StandIn
set_option linter.unusedVariables false
set_option linter.unusedSimpArgs false
set_option linter.unusedSectionVars false
namespace Go.SX.T57
open Go.SX Go.Proofs
theorem ok27:SigOK Tryz.prog env.ti s27 (prim 2700):=by
 intro ν rs vs w S F ω hR hE
 rcases hR with ⟨_,s,b,rfl,rfl⟩ | ⟨h,_⟩ | ⟨h,_⟩ | ⟨h,_⟩
 · have hv:All2 (SlotR env.ti w S ω [.str s,.int b]) [.v (.c (.e .str (.v 0))),.v (.c (.e (.int .u8) (.v 1)))] vs:=hE.vals
   cases hv with
   | cons h1 hv=>cases hv with
    | cons h2 hv=>cases hv with
     | nil =>
      have h1' : Rd env.ti w S .str (.str s) _:=h1
      have h2' : Rd env.ti w S (.int .u8) (.int b) _:=h2
      obtain ⟨_,rfl⟩:=Rd.str_inv h1'
      obtain ⟨_,rfl⟩:=Rd.int_inv h2'
      have hrun:=run_callFunc_indexByte (P:=Tryz.prog) Tryz.func314 (by kernel_rfl) (by kernel_rfl) (by kernel_rfl) (by kernel_rfl) #[.string s,.int .u8 b] w
      rw [Lib.run_indexByteString] at hrun
      refine ⟨_,_,hrun,S,ω,?_⟩
      exact {
       frame:=Fr.refl w F
       smono:=fun _ h=>h
       sbd:=fun _ h=>.inl h
       stab:=hE.stab
       omono:=fun _ _ h=>h
       dom:=hE.dom
       vals:=Rd.int _ _
       objs:=fun o ob h=>by cases o <;> cases h
       sep:=fun o o' ob ob' b h=>by cases o <;> cases h
       own:=fun o ob b h=>by cases o <;> cases h }
 all_goals omega
theorem eg210 (args:Array Value) (w:World):(callFunc 210 args).run Tryz.prog w=.ok (.enter 210 args) w:=enters_of Tryz.func210 (by kernel_rfl) rfl args w
theorem eg211 (args:Array Value) (w:World):(callFunc 211 args).run Tryz.prog w=.ok (.enter 211 args) w:=enters_of Tryz.func211 (by kernel_rfl) rfl args w
theorem z3:∀ m u,u∈(Builtin.zeroCells #[.int .i64 0,.int .i64 0,.slice none 0 0] m).toList→u.oneCell'=true:=by
 intro m u hu
 simp only [Builtin.zeroCells,Array.toList_map,List.mem_map] at hu
 obtain ⟨q,_,rfl⟩:=hu
 have hlt:q % 3 < 3:=Nat.mod_lt _ (by omega)
 show ((#[.int .i64 0,.int .i64 0,.slice none 0 0]:Array Value)[q % 3]!).oneCell'=true
 generalize q % 3=r at hlt
 have:r=0 ∨ r=1 ∨ r=2:=by omega
 rcases this with rfl | rfl | rfl <;> rfl
theorem z4:∀ m u,u∈(Builtin.zeroCells #[.int .i64 0,.int .i64 0,.int .i64 0,.int .i64 0] m).toList→u.oneCell'=true:=by
 intro m u hu
 simp only [Builtin.zeroCells,Array.toList_map,List.mem_map] at hu
 obtain ⟨q,_,rfl⟩:=hu
 have hlt:q % 4 < 4:=Nat.mod_lt _ (by omega)
 show ((#[.int .i64 0,.int .i64 0,.int .i64 0,.int .i64 0]:Array Value)[q % 4]!).oneCell'=true
 generalize q % 4=r at hlt
 have:r=0 ∨ r=1 ∨ r=2 ∨ r=3:=by omega
 rcases this with rfl | rfl | rfl | rfl <;> rfl
theorem ok89:SigOK Tryz.prog env.ti s89 (prim 8900):=by
 have h:=del_deep (P:=Tryz.prog) (ti:=env.ti) (f:=210) (t:=35) (e:=79) (lv:=[.int .i64,.int .i64,.sl 26]) (z:=#[.int .i64 0,.int .i64 0,.slice none 0 0]) rfl (by decide) rfl z3 eg210
  (fun g n cap i j cur w h1 h2 h3 h4 h5 h6 h7=>Tryz.del210 g n cap i j cur w h1 h2 h3 h4 h5 h6 h7)
 intro ν rs vs w S F ω hR hE
 rcases hR with ⟨h,_⟩ | ⟨_,hR⟩ | ⟨h,_⟩ | ⟨h,_⟩
 · omega
 · exact h ν rs vs w S F ω hR hE
 all_goals omega
theorem ok93:SigOK Tryz.prog env.ti s93 (prim 9300):=by
 have h:=del_row (P:=Tryz.prog) (ti:=env.ti) (f:=211) (t:=36) (e:=84) (lv:=[.int .i64,.int .i64,.int .i64,.int .i64]) (z:=#[.int .i64 0,.int .i64 0,.int .i64 0,.int .i64 0]) rfl (by decide) rfl z4 eg211
  (fun g n cap i j cur w h1 h2 h3 h4 h5 h6 h7=>Tryz.del211 g n cap i j cur w h1 h2 h3 h4 h5 h6 h7)
 intro ν rs vs w S F ω hR hE
 rcases hR with ⟨h,_⟩ | ⟨_,hR⟩ | ⟨h,_⟩ | ⟨h,_⟩
 · omega
 · exact h ν rs vs w S F ω hR hE
 all_goals omega
theorem castOK:castB s94 s95=true:=by kernel_rfl
theorem cast94:tree 9400=some (castT 95 s94):=by kernel_rfl
theorem at27:env.sigs[27]?=some s27:=by kernel_rfl
theorem at89:env.sigs[89]?=some s89:=by kernel_rfl
theorem at93:env.sigs[93]?=some s93:=by kernel_rfl
theorem at94:env.sigs[94]?=some s94:=by kernel_rfl
theorem at95:env.sigs[95]?=some s95:=by kernel_rfl
theorem at104:env.sigs[104]?=some s104:=by kernel_rfl
theorem at105:env.sigs[105]?=some s105:=by kernel_rfl
theorem at120:env.sigs[120]?=some s120:=by kernel_rfl
theorem no27:tree 2700=none:=by kernel_rfl
theorem no89:tree 8900=none:=by kernel_rfl
theorem no93:tree 9300=none:=by kernel_rfl
theorem no104:tree 10400=none:=by kernel_rfl
theorem no105:tree 10500=none:=by kernel_rfl
theorem no120:tree 12000=none:=by kernel_rfl
theorem sigsLen:env.sigs.length=255:=by kernel_rfl
theorem tabOK:TabOK Tryz.prog env tree prim:=by
 intro i s hs
 have hi:i < 255:=by
  have h:=(List.getElem?_eq_some_iff.1 hs).1
  rw [sigsLen] at h
  exact h
 by_cases h27:i=27
 · subst h27
   obtain rfl:=Option.some.inj (at27.symm.trans hs)
   exact .inr (.inl ⟨no27,ok27⟩)
 by_cases h89:i=89
 · subst h89
   obtain rfl:=Option.some.inj (at89.symm.trans hs)
   exact .inr (.inl ⟨no89,ok89⟩)
 by_cases h93:i=93
 · subst h93
   obtain rfl:=Option.some.inj (at93.symm.trans hs)
   exact .inr (.inl ⟨no93,ok93⟩)
 by_cases h104:i=104
 · subst h104
   obtain rfl:=Option.some.inj (at104.symm.trans hs)
   exact .inr (.inl ⟨no104,ok104⟩)
 by_cases h105:i=105
 · subst h105
   obtain rfl:=Option.some.inj (at105.symm.trans hs)
   exact .inr (.inl ⟨no105,ok105⟩)
 by_cases h120:i=120
 · subst h120
   obtain rfl:=Option.some.inj (at120.symm.trans hs)
   exact .inr (.inl ⟨no120,ok120⟩)
 by_cases h94:i=94
 · subst h94
   obtain rfl:=Option.some.inj (at94.symm.trans hs)
   exact .inr (.inr ⟨95,s95,at95,castOK,cast94⟩)
 exact .inl (okSig_ok (fun _ _ h=>h) hs (allOK i hi h27 h89 h93 h104 h105 h120 h94))
theorem sound (i:Nat) {s:Sig} (hs:env.sigs[i]?=some s):SigOK Tryz.prog env.ti s (Ev tree prim (i * 100)):=sig_sound tyOK eqOK drawOK mixed tabOK hs
theorem lvAll (h:((List.range tyTab.length).all (lvB Tryz.prog env.ti))=true):∀ t,lvB Tryz.prog env.ti t=true:=by
 intro t
 by_cases ht:t < tyTab.length
 · exact List.all_eq_true.1 h t (List.mem_range.2 ht)
 · have:env.ti t=TI.bad:=by
    show (tyTab[t]?).getD .bad=TI.bad
    rw [List.getElem?_eq_none (Nat.le_of_not_lt ht)]
    rfl
   unfold lvB
   rw [this]
end Go.SX.T57
