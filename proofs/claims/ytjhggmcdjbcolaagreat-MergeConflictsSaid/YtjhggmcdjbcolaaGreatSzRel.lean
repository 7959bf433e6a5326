/-
What the symbolic executor's words mean over a world: expressions, plain data that memory reads as, values, objects, states; how they live on while the world changes.
-/
import Derived.Test.YtjhggmcdjbcolaaGreatSzDefs
import Derived.Below
import Derived.Laws.AppendOwn
import Derived.Laws.Slices
set_option linter.unusedVariables false
set_option linter.unusedSimpArgs false
set_option linter.unusedSectionVars false
namespace Go.SX
open Go.RowKit
/-! ### Two lists, element by element -/
inductive All2 {α β:Type} (R:α→β→Prop):List α→List β→Prop where
 | nil:All2 R [] []
 | cons {a:α} {b:β} {l:List α} {m:List β}:R a b→All2 R l m→All2 R (a::l) (b::m)
namespace All2
variable {α β:Type} {R R' : α→β→Prop} {l l' : List α} {m m' : List β}
theorem imp (hR:∀ a b,R a b→R' a b) (h:All2 R l m):All2 R' l m:=by
 induction h with
 | nil=>exact .nil
 | cons h _ ih=>exact .cons (hR _ _ h) ih
theorem length (h:All2 R l m):l.length=m.length:=by
 induction h with
 | nil=>rfl
 | cons _ _ ih=>simp [ih]
theorem app (h:All2 R l m) (h' : All2 R l' m'):All2 R (l++l') (m++m'):=by
 induction h with
 | nil=>exact h'
 | cons h _ ih=>exact .cons h ih
theorem take (n:Nat) (h:All2 R l m):All2 R (l.take n) (m.take n):=by
 induction h generalizing n with
 | nil=>simp; exact .nil
 | cons h _ ih=>cases n with
  | zero=>exact .nil
  | succ n=>exact .cons h (ih n)
theorem drop (n:Nat) (h:All2 R l m):All2 R (l.drop n) (m.drop n):=by
 induction h generalizing n with
 | nil=>simp; exact .nil
 | cons h hr ih=>cases n with
  | zero=>exact .cons h hr
  | succ n=>exact ih n
theorem get (h:All2 R l m) {i:Nat} {a:α} (ha:l[i]?=some a):∃ b,m[i]?=some b∧R a b:=by
 induction h generalizing i with
 | nil=>simp at ha
 | cons h _ ih=>cases i with
  | zero=>simp at ha; subst ha; exact ⟨_,rfl,h⟩
  | succ i=>simpa using ih (by simpa using ha)
theorem of_get (hl:l.length=m.length) (h:∀ (i:Nat) (a:α) (b:β),l[i]?=some a→m[i]?=some b→R a b):All2 R l m:=by
 induction l generalizing m with
 | nil=>cases m with
  | nil=>exact .nil
  | cons _ _=>simp at hl
 | cons a l ih=>cases m with
  | nil=>simp at hl
  | cons b m=>exact .cons (h 0 a b rfl rfl) (ih (by simpa using hl) fun i x y hx hy=>h (i+1) x y (by simpa using hx) (by simpa using hy))
theorem mapL {γ:Type} {f:γ→α} {k:List γ} (h:All2 (fun c b=>R (f c) b) k m):All2 R (k.map f) m:=by
 induction h with
 | nil=>exact .nil
 | cons h _ ih=>exact .cons h ih
end All2
/-! ### Expressions -/
def bytesLt:List UInt8→List UInt8→Bool
 | _,[]=>false
 | [],_::_=>true
 | a::x,b::y=>a < b || (a == b&&bytesLt x y)
def O1.den:O1→D→D
 | .not,a=>.bool (!a.toBool)
 | .len,a=>.int a.toList.length
 | .slen,a=>.int a.toStr.size
 | .wrap k,a=>.int (k.wrap a.toInt)
 | .cell j,a=>a.cells.getD j default
 | .one,a=>.list [a]
 | .isnil,a=>.bool a.toList.isEmpty
def byteAt (s:ByteArray) (i:Nat):Int:=match s[i]? with | some b=>(b.toNat:Int) | none=>0
def O2.den:O2→D→D→D
 | .add k,a,b=>.int (k.wrap (a.toInt+b.toInt))
 | .sub k,a,b=>.int (k.wrap (a.toInt - b.toInt))
 | .mul k,a,b=>.int (k.wrap (a.toInt * b.toInt))
 | .quo k,a,b=>.int (k.wrap (a.toInt.tdiv b.toInt))
 | .rem _,a,b=>.int (a.toInt.tmod b.toInt)
 | .and k,a,b=>.int (k.wrap ((BitVec.ofInt k.bits a.toInt &&& BitVec.ofInt k.bits b.toInt).toNat:Int))
 | .or k,a,b=>.int (k.wrap ((BitVec.ofInt k.bits a.toInt ||| BitVec.ofInt k.bits b.toInt).toNat:Int))
 | .xor k,a,b=>.int (k.wrap ((BitVec.ofInt k.bits a.toInt ^^^ BitVec.ofInt k.bits b.toInt).toNat:Int))
 | .shl k,a,b=>.int (k.wrap (a.toInt * 2 ^ (min b.toInt.toNat k.bits)))
 | .shr k,a,b=>.int (a.toInt.fdiv (2 ^ (min b.toInt.toNat k.bits)))
 | .imax,a,b=>.int (max a.toInt b.toInt)
 | .imin,a,b=>.int (min a.toInt b.toInt)
 | .lt,a,b=>.bool (decide (a.toInt < b.toInt))
 | .le,a,b=>.bool (decide (a.toInt≤b.toInt))
 | .eqi,a,b=>.bool (a.toInt == b.toInt)
 | .eqb,a,b=>.bool (a.toBool == b.toBool)
 | .eqs,a,b=>.bool (a.toStr.toList == b.toStr.toList)
 | .slt,a,b=>.bool (bytesLt a.toStr.toList b.toStr.toList)
 | .idx,a,b=>a.toList.getD b.toInt.toNat default
 | .sidx,a,b=>.int (byteAt a.toStr b.toInt.toNat)
 | .app,a,b=>.list (a.toList++b.toList)
 | .acons,a,b=>.agg (a::b.cells)
 | .cat,a,b=>.str (a.toStr++b.toStr)
 | .take,a,b=>.list (a.toList.take b.toInt.toNat)
 | .drop,a,b=>.list (a.toList.drop b.toInt.toNat)
 | .rep,a,b=>.list (List.replicate b.toInt.toNat a)
 | .land,a,b=>.bool (a.toBool&&b.toBool)
def O3.den:O3→D→D→D→D
 | .set,a,b,c=>.list (a.toList.set b.toInt.toNat c)
 | .ssub,a,b,c=>.str (a.toStr.extract b.toInt.toNat c.toInt.toNat)
def E.den (ν:List D):E→D
 | .v j=>ν.getD j default
 | .i n=>.int n
 | .b x=>.bool x
 | .s x=>.str ⟨x.toArray⟩
 | .nil=>.list []
 | .anil=>.agg []
 | .o1 o x=>o.den (x.den ν)
 | .o2 o x y=>o.den (x.den ν) (y.den ν)
 | .o3 o x y z=>o.den (x.den ν) (y.den ν) (z.den ν)
/-! ### Trees -/
structure RL where
 R:Nat→List D→List D→Prop
 L:Nat→T→Prop
 Lf:Delta→List D→Prop
abbrev RL.of (R:Nat→List D→List D→Prop) (L:Nat→T→Prop):RL:=⟨R,L,fun _ _=>False⟩
def T.Run (R:RL):T→List D→List D→Prop
 | .fail _,_,_=>False
 | .miss ..,_,_=>False
 | .br c t f,ν,r=>if (c.den ν).toBool=true then t.Run R ν r else f.Run R ν r
 | .am c t f,ν,r=>f.Run R ν r∧((c.den ν).toList=[]→t.Run R ν r)
 | .ck c t,ν,r=>(c.den ν).toBool=true∧t.Run R ν r
 | .call g n as t,ν,r=>∃ rs,rs.length=n∧R.R g (as.map (E.den ν)) rs∧t.Run R (ν++rs) r
 | .jump l as,ν,r=>R.R l (as.map (E.den ν)) r
 | .loop l as body,ν,r=>R.L l body∧body.Run R (as.map (E.den ν)) r
 | .ret xs,ν,r=>r=xs.map (E.den ν)
 | .leaf δ,ν,_=>R.Lf δ ν
/-! ### Plain data in memory -/
def cellD (agg:Bool) (c:Nat) (d:D):D:=if agg then d.cells.getD c default else d
inductive Rd (ti:TypeId→TI) (w:World) (S:Nat→Prop):K→D→Value→Prop
 | int (k:IntKind) (n:Int):Rd ti w S (.int k) (.int n) (.int k n)
 | bool (b:Bool):Rd ti w S .bool (.bool b) (.bool b)
 | str (s:ByteArray):Rd ti w S .str (.str s) (.string s)
 | sl0 (t:TypeId) (a:Option Addr) (cap:Nat):Rd ti w S (.sl t) (.list []) (.slice a 0 cap)
 | sl (t e:TypeId) (agg:Bool) (lv:List K) (xs:List D) (b off cap:Nat) (u:Nat→Nat→Value) (hti:ti t=.sl e agg lv) (hcap:xs.length≤cap) (hS:S b)
  (hc:∀ j c,j < xs.length→c < lv.length→w.cell? ⟨b,off+(j * lv.length+c),none⟩=some (u j c))
  (hr:∀ j c k,j < xs.length→lv[c]?=some k→Rd ti w S k (cellD agg c (xs.getD j default)) (u j c)) :
  Rd ti w S (.sl t) (.list xs) (.slice (some ⟨b,off,none⟩) xs.length cap)
theorem Rd.mono {ti:TypeId→TI} {w w' : World} {S S' : Nat→Prop} {k:K} {d:D} {v:Value} (h:Rd ti w S k d v)
 (hw:∀ b,S b→w'.heap[b]?=w.heap[b]?) (hS:∀ b,S b→S' b):Rd ti w' S' k d v:=by
 induction h with
 | int k n=>exact .int k n
 | bool b=>exact .bool b
 | str s=>exact .str s
 | sl0 t a cap=>exact .sl0 t a cap
 | sl t e agg lv xs b off cap u hti hcap hSb hc hr ih =>
  exact .sl t e agg lv xs b off cap u hti hcap (hS b hSb)
   (fun j c hj hcc=>(World.cell?_of_block (a:=⟨b,off+(j * lv.length+c),none⟩) (hw b hSb)).trans (hc j c hj hcc)) (fun j c k hj hk=>ih j c k hj hk)
theorem Rd.one {ti:TypeId→TI} {w:World} {S:Nat→Prop} {k:K} {d:D} {v:Value} (h:Rd ti w S k d v):v.oneCell'=true:=by
 cases h <;> rfl
theorem Rd.sub {ti:TypeId→TI} {w:World} {S S' : Nat→Prop} {k:K} {d:D} {v:Value} (h:Rd ti w S k d v) (hS:∀ b,S b→S' b):Rd ti w S' k d v :=
 h.mono (fun _ _=>rfl) hS
theorem Rd.flat {ti:TypeId→TI} {w w' : World} {S S' : Nat→Prop} {k:K} {d:D} {v:Value} (h:Rd ti w S k d v) (hk:∀ t,k≠.sl t):Rd ti w' S' k d v:=by
 cases h with
 | int k n=>exact .int k n
 | bool b=>exact .bool b
 | str s=>exact .str s
 | sl0 t a cap=>exact absurd rfl (hk t)
 | sl t e agg lv xs b off cap u=>exact absurd rfl (hk t)
def blk:Value→Option Nat
 | .pointer (some a)=>some a.block
 | .slice (some a) _ _=>some a.block
 | _=>none
def nblk:Value→Nat→Prop
 | .slice (some a) n _,b=>n≠0∧a.block=b
 | _,_=>False
def Blk:Value→Nat→Prop
 | .agg l,b=>match l.toList with
  | h::r=>blk h=some b ∨ ∃ v,v∈r∧nblk v b
  | []=>False
 | v,b=>blk v=some b
def OwnB (u:Option Value) (b:Nat):Prop:=match u with
 | some v=>Blk v b
 | none=>False
/-! ### Rows with rows below -/
def hdV:Value→Value
 | .agg l=>l.toList.headD undef
 | v=>v
def tlV:Value→List Value
 | .agg l=>l.toList.tail
 | _=>[]
def NCell (ti:TypeId→TI) (w:World):K→D→Value→Prop
 | .sl t,d,v=>∃ e k ns,ti t=.sl e false [k]∧k.flat=true∧d=.list ns∧(∃ a cap,v=.slice a ns.length cap) ∧
  (ns≠[]→∃ us,w.ownsRow 0 e 1 v ns.length us∧∀ j,j < ns.length→Rd ti w (fun _=>False) k (ns.getD j default) (us.getD j undef))
 | k,d,v=>Rd ti w (fun _=>False) k d v
/-! ### Values -/
section
variable (ti:TypeId→TI) (w:World) (S:Nat→Prop) (ω:Nat→Option Value) (ν:List D)
def RdP (ks:List (K × E)) (v:Value):Prop :=
 ∃ b off,v=.pointer (some ⟨b,off,none⟩)∧(ks≠[]→S b)∧∀ c k x,ks[c]?=some (k,x)→∃ u,w.cell? ⟨b,off+c,none⟩=some u∧Rd ti w S k (x.den ν) u
def CapR:Cap→Value→Prop
 | .p o,v=>∃ b,ω o=some (.pointer (some ⟨b,0,none⟩))∧v=.pointer (some ⟨b,0,none⟩)
 | .r ks,v=>RdP ti w S ν ks v
def SR:SV1→Value→Prop
 | .e k x,v=>Rd ti w S k (x.den ν) v
 | .nil _,v=>v=.slice none 0 0
 | .p o off,v=>∃ b,ω o=some (.pointer (some ⟨b,0,none⟩))∧v=.pointer (some ⟨b,off,none⟩)
 | .po o sz i off,v=>∃ g n cap,ω o=some (.slice (some ⟨g,0,none⟩) n cap)∧v=.pointer (some ⟨g,(i.den ν).toInt.toNat * sz+off,none⟩)∧0≤(i.den ν).toInt∧(i.den ν).toInt < n
 | .r ks,v=>RdP ti w S ν ks v
 | .own o,v=>ω o=some v∧∃ a n cap,v=.slice a n cap
 | .ow o sz lo,v=>∃ b n cap,ω o=some (.slice b n cap)∧0≤(lo.den ν).toInt∧(lo.den ν).toInt≤n∧v=sliced b (lo.den ν).toInt.toNat n cap sz
 | .dp o,v=>∃ u,ω o=some u∧hdV u=v∧∃ a n cap,v=.slice a n cap
 | .pd o sz i off,v=>∃ u g n cap,ω o=some u∧hdV u=.slice (some ⟨g,0,none⟩) n cap∧v=.pointer (some ⟨g,(i.den ν).toInt.toNat * sz+off,none⟩)∧0≤(i.den ν).toInt∧(i.den ν).toInt < n
 | .nst o ts i c t,v=>∃ u g n cap e lv,ti ts=.sl e true lv∧lv[c]?=some (.sl t)∧ω o=some u∧hdV u=.slice (some ⟨g,0,none⟩) n cap∧0≤(i.den ν).toInt∧(i.den ν).toInt < n∧v=(tlV u).getD ((i.den ν).toInt.toNat * lv.length+c) undef∧∃ a m q,v=.slice a m q
 | .pn o ts i c t k,v=>∃ u g n cap g' m q e lv,ti ts=.sl e true lv∧lv[c]?=some (.sl t)∧ω o=some u∧hdV u=.slice (some ⟨g,0,none⟩) n cap∧0≤(i.den ν).toInt∧(i.den ν).toInt < n ∧
  (tlV u).getD ((i.den ν).toInt.toNat * lv.length+c) undef=.slice (some ⟨g',0,none⟩) m q∧v=.pointer (some ⟨g',(k.den ν).toInt.toNat,none⟩)∧0≤(k.den ν).toInt∧(k.den ν).toInt < m
 | .fn g caps,v=>∃ cv:List Value,v=.func (.func g) #[] cv.toArray∧All2 (CapR ti w S ω ν) caps cv
 | .u,v=>v.oneCell'=true
def SVR:SV→Value→Prop
 | .c a,v=>SR ti w S ω ν a v
 | .ag l,v=>∃ cs:List Value,v=.agg cs.toArray∧All2 (SR ti w S ω ν) l cs
def SlotR:Slot→Value→Prop
 | .v a,v=>SVR ti w S ω ν a v
 | .tup l,v=>∃ vs:List Value,v=.tuple vs.toArray∧All2 (SVR ti w S ω ν) l vs
 | .no,_=>True
 | .un,v=>v=undef
def RowCells (agg:Bool) (lv:List K) (ds:List D) (vs:List Value):Prop :=
 ∀ j c k,j < ds.length→lv[c]?=some k→Rd ti w S k (cellD agg c (ds.getD j default)) (vs.getD (j * lv.length+c) undef)
def ObjR (o:Nat):SObj→Prop
 | .box cs=>∃ b t vs,ω o=some (.pointer (some ⟨b,0,none⟩))∧w.heap[b]?=some (.cells vs t (0,0))∧All2 (SR ti w S ω ν) cs vs.toList
 | .row t x=>∃ v e agg lv ds vs,ω o=some v∧ti t=.sl e agg lv∧x.den ν=.list ds∧w.ownsRow 0 e lv.length v ds.length vs∧RowCells ti w S agg lv ds vs
 | .fro t x=>∃ v,ω o=some v∧Rd ti w S (.sl t) (x.den ν) v
 | .dead=>True
 | .deep t x=>∃ u e lv ds,ω o=some u∧ti t=.sl e true lv∧x.den ν=.list ds∧w.ownsRow 0 e lv.length (hdV u) ds.length (tlV u) ∧
  (∀ j c k,j < ds.length→lv[c]?=some k→NCell ti w k (cellD true c (ds.getD j default)) ((tlV u).getD (j * lv.length+c) undef)) ∧
  (∀ p q b,nblk ((tlV u).getD p undef) b→nblk ((tlV u).getD q undef) b→p=q)∧(∀ p b,nblk ((tlV u).getD p undef) b→blk (hdV u)≠some b)
 | .fbox ks=>∃ b,ω o=some (.pointer (some ⟨b,0,none⟩))∧RdP ti w S ν ks (.pointer (some ⟨b,0,none⟩))
end
structure Fr (w0:World) (F:Nat→Prop) (w:World):Prop where
 os:w.os=w0.os
 tape:w.tape=w0.tape
 output:w.output=w0.output
 size:w0.heap.size≤w.heap.size
 block:∀ k,k < w0.heap.size→¬ F k→w.heap[k]?=w0.heap[k]?
theorem Fr.refl (w:World) (F:Nat→Prop):Fr w F w:=⟨rfl,rfl,rfl,Nat.le_refl _,fun _ _ _=>rfl⟩
theorem Fr.step {w0 w w' : World} {F X:Nat→Prop} (h:Fr w0 F w) (k:Fr w X w') (hX:∀ b,b < w0.heap.size→X b→F b):Fr w0 F w' :=
 ⟨k.os.trans h.os,k.tape.trans h.tape,k.output.trans h.output,Nat.le_trans h.size k.size,fun b hb hF =>
   (k.block b (Nat.lt_of_lt_of_le hb h.size) (fun hx=>hF (hX b hb hx))).trans (h.block b hb hF)⟩
structure Cx where
 P:Program
 ti:TypeId→TI
 R:RL
 w0:World
 F:Nat→Prop
 S0:Nat→Prop
 ω0:Nat→Option Value
structure Sim (C:Cx) (σ:St) (ν:List D) (S:Nat→Prop) (ω:Nat→Option Value) (tm:Array Value) (w:World):Prop where
 tsz:tm.size=σ.slots.length
 slots:∀ i s,σ.slots[i]?=some s→SlotR C.ti w S ω ν s (tm.getD i undef)
 nv:ν.length=σ.nv
 dom:∀ o v,ω o=some v→o < σ.objs.length
 objs:∀ o ob,σ.objs[o]?=some ob→ObjR C.ti w S ω ν o ob
 sep:∀ o o' ob ob' b,σ.objs[o]?=some ob→σ.objs[o']?=some ob'→ob.live=true→ob'.live=true→OwnB (ω o) b→OwnB (ω o') b→o=o'
 own:∀ o ob b,σ.objs[o]?=some ob→ob.live=true→OwnB (ω o) b→¬ S b∧b < w.heap.size∧(C.w0.heap.size≤b ∨ C.F b)
 stab:∀ b,S b→b < w.heap.size
 known:∀ c b,(c,b)∈σ.known→(c.den ν).toBool=b
 frame:Fr C.w0 C.F w
 smono:∀ b,C.S0 b→S b
 sbd:∀ b,S b→C.S0 b ∨ C.w0.heap.size≤b ∨ C.F b
 omono:∀ o v,C.ω0 o=some v→ω o=some v
/-! ### How it lives on -/
section
variable {ti:TypeId→TI} {w w' : World} {S S' : Nat→Prop} {ω ω' : Nat→Option Value} {ν:List D}
theorem RdP.mono {ks:List (K × E)} {v:Value} (h:RdP ti w S ν ks v) (hw:∀ b,S b→w'.heap[b]?=w.heap[b]?) (hS:∀ b,S b→S' b):RdP ti w' S' ν ks v:=by
 obtain ⟨b,off,rfl,hb,hc⟩:=h
 refine ⟨b,off,rfl,fun hk=>hS _ (hb hk),fun c k x hx=>?_⟩
 obtain ⟨u,hu,hr⟩:=hc c k x hx
 have hne:ks≠[]:=by rintro rfl; simp at hx
 exact ⟨u,(World.cell?_of_block (a:=⟨b,off+c,none⟩) (hw b (hb hne))).trans hu,hr.mono hw hS⟩
theorem CapR.mono {c:Cap} {v:Value} (h:CapR ti w S ω ν c v) (hw:∀ b,S b→w'.heap[b]?=w.heap[b]?) (hS:∀ b,S b→S' b) (hω:∀ o v,ω o=some v→ω' o=some v):CapR ti w' S' ω' ν c v:=by
 cases c with
 | p o=>obtain ⟨b,h1,h2⟩:=h; exact ⟨b,hω _ _ h1,h2⟩
 | r ks=>exact RdP.mono h hw hS
theorem SR.mono {a:SV1} {v:Value} (h:SR ti w S ω ν a v) (hw:∀ b,S b→w'.heap[b]?=w.heap[b]?) (hS:∀ b,S b→S' b) (hω:∀ o v,ω o=some v→ω' o=some v):SR ti w' S' ω' ν a v:=by
 cases a with
 | p o off=>obtain ⟨b,h1,h2⟩:=h; exact ⟨b,hω _ _ h1,h2⟩
 | po o sz i off=>obtain ⟨g,n,cap,h1,h2⟩:=h; exact ⟨g,n,cap,hω _ _ h1,h2⟩
 | own o=>exact ⟨hω _ _ h.1,h.2⟩
 | ow o sz lo=>obtain ⟨b,n,cap,h1,h2⟩:=h; exact ⟨b,n,cap,hω _ _ h1,h2⟩
 | dp o=>obtain ⟨u,h1,h2⟩:=h; exact ⟨u,hω _ _ h1,h2⟩
 | pd o sz i off=>obtain ⟨u,g,n,cap,h1,h2⟩:=h; exact ⟨u,g,n,cap,hω _ _ h1,h2⟩
 | nst o ts i c t=>obtain ⟨u,g,n,cap,e,lv,h1,h2,h3,h4⟩:=h; exact ⟨u,g,n,cap,e,lv,h1,h2,hω _ _ h3,h4⟩
 | pn o ts i c t k=>obtain ⟨u,g,n,cap,g',m,q,e,lv,h1,h2,h3,h4⟩:=h; exact ⟨u,g,n,cap,g',m,q,e,lv,h1,h2,hω _ _ h3,h4⟩
 | e k x=>exact Rd.mono h hw hS
 | r ks=>exact RdP.mono h hw hS
 | fn g caps =>
  obtain ⟨cv,rfl,hc⟩:=h
  exact ⟨cv,rfl,hc.imp (fun _ _ h=>CapR.mono h hw hS hω)⟩
 | _=>exact h
theorem SVR.mono {a:SV} {v:Value} (h:SVR ti w S ω ν a v) (hw:∀ b,S b→w'.heap[b]?=w.heap[b]?) (hS:∀ b,S b→S' b) (hω:∀ o v,ω o=some v→ω' o=some v):SVR ti w' S' ω' ν a v:=by
 cases a with
 | c a=>exact SR.mono h hw hS hω
 | ag l =>
  obtain ⟨cs,rfl,hc⟩:=h
  exact ⟨cs,rfl,hc.imp (fun _ _ h=>SR.mono h hw hS hω)⟩
theorem SlotR.mono {a:Slot} {v:Value} (h:SlotR ti w S ω ν a v) (hw:∀ b,S b→w'.heap[b]?=w.heap[b]?) (hS:∀ b,S b→S' b) (hω:∀ o v,ω o=some v→ω' o=some v):SlotR ti w' S' ω' ν a v:=by
 cases a with
 | v a=>exact SVR.mono h hw hS hω
 | tup l =>
  obtain ⟨cs,rfl,hc⟩:=h
  exact ⟨cs,rfl,hc.imp (fun _ _ h=>SVR.mono h hw hS hω)⟩
 | no=>trivial
 | un=>exact h
theorem RowCells.mono {agg:Bool} {lv:List K} {ds:List D} {vs:List Value} (h:RowCells ti w S agg lv ds vs) (hw:∀ b,S b→w'.heap[b]?=w.heap[b]?) (hS:∀ b,S b→S' b):RowCells ti w' S' agg lv ds vs :=
 fun j c k hj hk=>(h j c k hj hk).mono hw hS
theorem SR.one {a:SV1} {v:Value} (h:SR ti w S ω ν a v):v.oneCell'=true:=by
 cases a with
 | e k x=>exact Rd.one h
 | nil t=>obtain rfl:=h; rfl
 | p o off=>obtain ⟨b,_,rfl⟩:=h; rfl
 | po o sz i off=>obtain ⟨g,n,cap,_,rfl,_⟩:=h; rfl
 | r ks=>obtain ⟨b,off,rfl,_⟩:=h; rfl
 | own o=>obtain ⟨_,a,n,cap,rfl⟩:=h; rfl
 | ow o sz lo=>obtain ⟨b,n,cap,_,_,_,rfl⟩:=h; rfl
 | dp o=>obtain ⟨_,_,_,a,n,cap,rfl⟩:=h; rfl
 | pd o sz i off=>obtain ⟨_,_,_,_,_,_,rfl,_⟩:=h; rfl
 | nst o sz i c t=>obtain ⟨_,_,_,_,_,_,_,_,_,_,_,_,_,a,m,q,rfl⟩:=h; rfl
 | pn o sz i c t k=>obtain ⟨_,_,_,_,_,_,_,_,_,_,_,_,_,_,_,_,rfl,_⟩:=h; rfl
 | fn g caps=>obtain ⟨cv,rfl,_⟩:=h; rfl
 | u=>exact h
end
end Go.SX
