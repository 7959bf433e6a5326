/-
The orders that chapter 57's sorts go by, walked: of nodes and edges by their numbers, of collisions by numbers and attributes.
-/
import Derived.Shelf.SlSortCmp.NoneTotal
import Derived.Test.YtjhggmcdjbcolaaGreatProg
import Derived.KernelRfl
import Derived.WalkKit
import Derived.LoopN
set_option linter.unusedVariables false
set_option linter.unusedSimpArgs false
set_option linter.unusedSectionVars false
namespace Go.Proofs
open Go.Shelf Go.RowKit Go.Lib Go.Sort
def cmpI (x y:Int):Int:=if x < y then -1 else if y < x then 1 else 0
set_option maxHeartbeats 1000000 in
theorem walk263 (x:Int) (W:World):Calls Tryz.prog 263 #[.int .i64 x] W fun e w'=>e=.returned (.bool false)∧w'=W:=by
 go_enter Tryz.func263,Tryz.ntmps263
 go_wp2
 all_goals go_ret
 all_goals exact ⟨by simp,rfl⟩
set_option maxHeartbeats 1000000 in
theorem walk240 (x y:Int) (W:World):Calls Tryz.prog 240 #[.int .i64 x,.int .i64 y] W fun e w'=>e=.returned (.int .i64 (cmpI x y))∧w'=W:=by
 have hcon:=fun z W'=>walk263 z W'
 go_enter Tryz.func240,Tryz.ntmps240
 go_wp2_with (go_at_call 263; refine (hcon _ _).mono ?_; rintro e w' ⟨rfl,rfl⟩)
 all_goals go_ret
 all_goals exact ⟨by first | (rw [show cmpI x y = -1 from if_pos (by omega)]; rfl) | (rw [show cmpI x y=1 from (if_neg (by omega)).trans (if_pos (by omega))]; rfl) | (rw [show cmpI x y=0 from (if_neg (by omega)).trans (if_neg (by omega))]; rfl),rfl⟩
set_option maxHeartbeats 1000000 in
theorem walk204 (x y:Int) (u v u' v' : Value) (hu:u.oneCell'=true) (hv:v.oneCell'=true) (hu' : u'.oneCell'=true) (hv' : v'.oneCell'=true) (W:World) :
 Calls Tryz.prog 204 #[.agg #[.int .i64 x,u,v],.agg #[.int .i64 y,u',v']] W fun e w'=>e=.returned (.int .i64 (cmpI x y))∧∃ q os',w'=grow (W.drewN q) os':=by
 have hcon:=fun W'=>walk240 x y W'
 generalize cmpI x y=r at hcon ⊢
 go_enter Tryz.func204,Tryz.ntmps204
 go_wp2_with (go_at_call 240; refine (hcon _).mono ?_; rintro e w' ⟨rfl,rfl⟩)
 go_ret
 exact ⟨rfl,0,_,by rw [alloc_eq_grow,alloc_eq_grow,grow_grow]; rfl⟩
set_option maxHeartbeats 1000000 in
theorem walk206 (x y:Int) (u v z u' v' z' : Value) (hu:u.oneCell'=true) (hv:v.oneCell'=true) (hz:z.oneCell'=true) (hu' : u'.oneCell'=true) (hv' : v'.oneCell'=true) (hz' : z'.oneCell'=true) (W:World) :
 Calls Tryz.prog 206 #[.agg #[.int .i64 x,u,v,z],.agg #[.int .i64 y,u',v',z']] W fun e w'=>e=.returned (.int .i64 (cmpI x y))∧∃ q os',w'=grow (W.drewN q) os':=by
 have hcon:=fun W'=>walk240 x y W'
 generalize cmpI x y=r at hcon ⊢
 go_enter Tryz.func206,Tryz.ntmps206
 go_wp2_with (go_at_call 240; refine (hcon _).mono ?_; rintro e w' ⟨rfl,rfl⟩)
 go_ret
 exact ⟨rfl,0,_,by rw [alloc_eq_grow,alloc_eq_grow,grow_grow]; rfl⟩
set_option maxHeartbeats 2000000 in
theorem walk188 (g o:Nat) (cap:Nat) (x y r:Int) (hr:r=if x=0 then y else x) (W:World) (h0:W.cell? ⟨g,o,none⟩=some (.int .i64 x)) (h1:W.cell? ⟨g,o+1,none⟩=some (.int .i64 y)) :
 Calls Tryz.prog 188 #[.slice (some ⟨g,o,none⟩) 2 cap] W fun e w'=>e=.returned (.int .i64 r)∧w'=W:=by
 go_enter Tryz.func188,Tryz.ntmps188
 go_wp2
 refine wp_loop_rounds 3 ?_
 repeat any_goals (rw [rounds_succ]; go_wp2)
 all_goals go_ret
 all_goals (clear h0 h1; subst hr)
 · refine ⟨?_,rfl⟩
   have hx:x≠0:=bne_iff_ne.1 (by assumption)
   rw [if_neg hx]
   rfl
 · refine ⟨?_,rfl⟩
   have hx:x=0:=by simpa using (show (x != 0)=false by assumption)
   rw [if_pos hx]
   rfl
 · refine ⟨?_,rfl⟩
   have hx:x=0:=by simpa using (show (x != 0)=false by assumption)
   have hy:y=0:=by simpa using (show (y != 0)=false by assumption)
   rw [if_pos hx,hy]
   rfl
theorem cell_new (W:World) (cs:Array Value) (t:TypeId) (b j:Nat) (hb:b=W.heap.size):(W.alloc (.cells cs t)).cell? ⟨b,j,none⟩=cs[j]?:=by
 subst hb
 unfold World.cell?
 rw [show (W.alloc (.cells cs t)).heap[(⟨W.heap.size,j,none⟩ : Addr).block]?=some (.cells cs t) from heap_alloc_new W _]
 rfl
set_option maxHeartbeats 2000000 in
theorem walk128 {a b c d:Int} (k k' : Int) (w1:IntKind.i64.wrap (b - d)=b - d) (w2:IntKind.i64.wrap (a - c)=a - c) (r:Int) (hr:Hid (r=if a - c=0 then b - d else a - c)) (W:World) :
 Calls Tryz.prog 128 #[.agg #[.int .i64 k,.int .i64 a,.int .i64 b],.agg #[.int .i64 k',.int .i64 c,.int .i64 d]] W fun e w'=>e=.returned (.int .i64 r)∧∃ q os',w'=grow (W.drewN q) os':=by
 go_enter Tryz.func128,Tryz.ntmps128
 go_wp2_with (go_at_call 188; refine (walk188 _ _ _ (a - c) (b - d) r hr.out _ ?_ ?_).mono ?_; rotate_left; rotate_left; (rintro e w' ⟨rfl,rfl⟩))
 · go_ret
   exact ⟨rfl,0,_,by rw [alloc_eq_grow,alloc_eq_grow,alloc_eq_grow,grow_grow,grow_grow]; rfl⟩
 all_goals
  rw [cell_new _ _ _ _ _ (by rw [World.alloc,World.alloc]; simp)]
  rfl
end Go.Proofs
