/-
The words of a symbolic executor over the model's Code: kinds, data, expressions, symbolic values, trees, one step of an operation, of code, of a function.
Nothing is proved here; what the executor says is proved sound in the texts that import this one.
-/
import GoSem.Core.Code
import GoSem.Core.Program
import GoSem.Core.View
import GoSem.Core.Region
set_option linter.unusedVariables false
set_option linter.unusedSimpArgs false
set_option linter.unusedSectionVars false
namespace Go.SX
inductive K where
 | int (k:IntKind)
 | bool
 | str
 | sl (t:TypeId)
 deriving DecidableEq,Repr,Inhabited
inductive TI where
 | one (k:K)
 | sl (e:TypeId) (agg:Bool) (lv:List K)
 | ag (st:Bool) (lv:List (Option K)) (fs:List (Nat × Nat × Bool))
 | other
 | bad
 deriving DecidableEq,Repr,Inhabited
inductive D where
 | int (n:Int)
 | bool (b:Bool)
 | str (s:ByteArray)
 | list (xs:List D)
 | agg (xs:List D)
 deriving Inhabited
namespace D
def toInt:D→Int | .int n=>n | _=>0
def toBool:D→Bool | .bool b=>b | _=>false
def toStr:D→ByteArray | .str s=>s | _=>ByteArray.empty
def toList:D→List D | .list l=>l | _=>[]
def cells:D→List D | .agg l=>l | _=>[]
end D
inductive O1 where
 | not | len | slen | wrap (k:IntKind) | cell (j:Nat) | one | isnil
 deriving DecidableEq,Repr,Inhabited
inductive O2 where
 | add (k:IntKind) | sub (k:IntKind) | mul (k:IntKind) | quo (k:IntKind) | rem (k:IntKind)
 | and (k:IntKind) | or (k:IntKind) | xor (k:IntKind) | shl (k:IntKind) | shr (k:IntKind)
 | imax | imin | lt | le | eqi | eqb | eqs | slt | idx | sidx | app | acons | cat | take | drop | rep | land
 deriving DecidableEq,Repr,Inhabited
inductive O3 where
 | set | ssub
 deriving DecidableEq,Repr,Inhabited
inductive E where
 | v (i:Nat) | i (n:Int) | b (b:Bool) | s (x:List UInt8) | nil | anil
 | o1 (o:O1) (a:E) | o2 (o:O2) (a b:E) | o3 (o:O3) (a b c:E)
 deriving DecidableEq,Repr,Inhabited
inductive Cap where
 | p (o:Nat) | r (ks:List (K × E))
 deriving DecidableEq,Repr,Inhabited
inductive SV1 where
 | e (k:K) (x:E)
 | nil (t:TypeId)
 | p (o off:Nat)
 | po (o sz:Nat) (i:E) (off:Nat)
 | r (ks:List (K × E))
 | own (o:Nat)
 | ow (o sz:Nat) (lo:E)
 | dp (o:Nat)
 | pd (o sz:Nat) (i:E) (off:Nat)
 | nst (o:Nat) (ts:TypeId) (i:E) (c:Nat) (t:TypeId)
 | pn (o:Nat) (ts:TypeId) (i:E) (c:Nat) (t:TypeId) (k:E)
 | fn (g:Nat) (caps:List Cap)
 | u
 deriving DecidableEq,Repr,Inhabited
inductive SV where
 | c (a:SV1) | ag (l:List SV1)
 deriving DecidableEq,Repr,Inhabited
inductive Slot where
 | v (a:SV) | tup (l:List SV) | no | un
 deriving DecidableEq,Repr,Inhabited
inductive SObj where
 | box (cs:List SV1) | row (t:TypeId) (x:E) | fro (t:TypeId) (x:E) | dead | deep (t:TypeId) (x:E) | fbox (ks:List (K × E))
 deriving DecidableEq,Repr,Inhabited
structure St where
 slots:List Slot
 objs:List SObj
 nv:Nat
 known:List (E × Bool)
 nb:Nat
 vb:Nat
 deriving Repr,Inhabited
structure Delta where
 dst:Slot
 upd:List (Nat × SObj)
 new:List SObj
 fz:List Nat
 dn:Nat
 deriving DecidableEq,Repr,Inhabited
inductive T where
 | fail (n:Nat)
 | miss (g:Nat) (as:List Slot) (objs:List SObj)
 | br (c:E) (t f:T)
 | am (c:E) (t f:T)
 | ck (c:E) (t:T)
 | call (g n:Nat) (as:List E) (t:T)
 | jump (l:Nat) (as:List E)
 | loop (l:Nat) (as:List E) (body:T)
 | ret (xs:List E)
 | leaf (δ:Delta)
 deriving DecidableEq,Repr,Inhabited
structure Sig where
 f:FuncId
 inS:List Slot
 inO:List SObj
 nIn:Nat
 outS:List SV
 outO:List SObj
 nOut:Nat
 flat:Bool
 deriving Repr,Inhabited
structure Env where
 ti:TypeId→TI
 eqt:List TypeId
 dat:List (FuncId × Nat)
 deepF:List (FuncId × TypeId)
 deepT:List TypeId
 ren:List Nat
 sigs:List Sig
 funcs:FuncId→Option Func
/-! ### Types -/
def TI.size:TI→Nat
 | .one _=>1
 | .sl ..=>1
 | .ag _ lv _=>lv.length
 | .other=>1
 | .bad=>0
def TI.isAgg:TI→Bool
 | .ag ..=>true
 | _=>false
def TI.isSl:TI→Bool
 | .sl ..=>true
 | _=>false
def kindOf (ti:TypeId→TI) (t:TypeId):Option K:=match ti t with
 | .one k=>some k
 | .sl ..=>some (.sl t)
 | _=>none
def zeroE:K→E
 | .int _=>.i 0
 | .bool=>.b false
 | .str=>.s []
 | .sl _=>.nil
def zero1:Option K→SV1
 | some (.sl t)=>.nil t
 | some k=>.e k (zeroE k)
 | none=>.u
def zeroSV (ti:TypeId→TI) (t:TypeId):SV:=match ti t with
 | .ag _ lv _=>.ag (lv.map zero1)
 | i=>.c (zero1 (kindOf (fun _=>i) t))
def SV.cells:SV→List SV1
 | .c a=>[a]
 | .ag l=>l
def mkSV (ti:TypeId→TI) (t:TypeId) (cs:List SV1):Option SV :=
 if ti t≠.bad∧cs.length=(ti t).size then (if (ti t).isAgg then some (.ag cs) else (cs.head?).map .c) else none
/-! ### Cells of elements -/
def elemCells (agg:Bool) (lv:List K) (x:E):List (K × E) :=
 if agg then lv.zipIdx.map fun (k,j)=>(k,.o1 (.cell j) x) else lv.map fun k=>(k,x)
def ofKE:K × E→SV1:=fun (k,x)=>.e k x
def aggE:List E→E
 | []=>.anil
 | x::r=>.o2 .acons x (aggE r)
/-! ### Making plain data out of what a slot holds; the objects that are lent for it -/
def dataOf (objs:List SObj):SV1→Option ((K × E) × List Nat)
 | .e k x=>some ((k,x),[])
 | .nil t=>some ((.sl t,.nil),[])
 | .own o=>match objs[o]? with
  | some (.row t x)=>some ((.sl t,x),[o])
  | some (.fro t x)=>some ((.sl t,x),[])
  | _=>none
 | .dp o=>match objs[o]? with
  | some (.deep t x)=>some ((.sl t,x),[o])
  | _=>none
 | .nst o ts i c t=>match objs[o]? with
  | some (.deep t' x)=>if t'=ts then some ((.sl t,.o1 (.cell c) (.o2 .idx x i)),[o]) else none
  | _=>none
 | _=>none
def datasOf (objs:List SObj):List SV1→Option (List (K × E) × List Nat)
 | []=>some ([],[])
 | a::r=>match dataOf objs a,datasOf objs r with
  | some (x,l),some (y,m)=>some (x::y,l++m)
  | _,_=>none
def SObj.live:SObj→Bool
 | .box _ | .row .. | .deep ..=>true
 | _=>false
def plainKE:List SV1→Option (List (K × E))
 | []=>some []
 | .e k x::r=>(plainKE r).map fun l=>(k,x)::l
 | _=>none
def SObj.frozen:SObj→SObj
 | .row t x=>.fro t x
 | .box cs=>match plainKE cs with
  | some ks=>.fbox ks
  | none=>.dead
 | .deep ..=>.dead
 | ob=>ob
def freeze (objs:List SObj) (l:List Nat):List SObj:=objs.zipIdx.map fun (ob,o)=>if l.contains o then ob.frozen else ob
/-! ### Matching a shape -/
def isLit:E→Bool
 | .i _ | .b _ | .s _ | .nil | .anil=>true
 | _=>false
structure M where
 th:List (Option E)
 rho:List (Option (Option Nat))
 lent:List Nat
 deriving Repr,Inhabited
def mE (h a:E) (m:M):Option M:=match h with
 | .v i=>match m.th[i]? with
  | some none=>some { m with th:=m.th.set i (some a) }
  | some (some x)=>if x=a then some m else none
  | none=>none
 | h=>if isLit h=true∧h=a then some m else none
def mO (o:Nat) (a:Option Nat) (m:M):Option M:=match m.rho[o]? with
 | some none=>some { m with rho:=m.rho.set o (some a) }
 | some (some x)=>if x=a then some m else none
 | none=>none
def mKE:List (K × E)→List (K × E)→M→Option M
 | [],[],m=>some m
 | (k,x)::r,(k',y)::r',m=>if k=k' then (mE x y m).bind (mKE r r') else none
 | _,_,_=>none
def mBox (objs:List SObj) (ks:List (K × E)) (o:Nat) (m:M):Option M:=match objs[o]? with
 | some (.box cs)=>match datasOf objs cs with
  | some (ys,l)=>(mKE ks ys m).map fun m=>{ m with lent:=o::l++m.lent }
  | none=>none
 | some (.fbox ys)=>mKE ks ys m
 | _=>none
def mCaps (objs:List SObj):List Cap→List Cap→M→Option M
 | [],[],m=>some m
 | .p o::r,.p a::r',m=>(mO o (some a) m).bind (mCaps objs r r')
 | .r ks::r,.r ys::r',m=>(mKE ks ys m).bind (mCaps objs r r')
 | .r ks::r,.p a::r',m=>(mBox objs ks a m).bind (mCaps objs r r')
 | _,_,_=>none
def mData (objs:List SObj) (k:K) (x:E) (a:SV1) (m:M):Option M:=match dataOf objs a with
 | some ((k',y),l)=>if k=k' then (mE x y m).map fun m=>{ m with lent:=l++m.lent } else none
 | none=>none
def m1 (objs:List SObj) (h a:SV1) (m:M):Option M:=match h,a with
 | .u,_=>some m
 | .nil t,.nil t'=>if t=t' then some m else none
 | .own o,.own a=>mO o (some a) m
 | .own o,.nil _=>mO o none m
 | .dp o,.dp a=>mO o (some a) m
 | .dp o,.nil _=>mO o none m
 | .ow o sz lo,.ow a sz' lo'=>if sz=sz' then (mO o (some a) m).bind (mE lo lo') else none
 | .p o off,.p a off'=>if off=off' then mO o (some a) m else none
 | .r ks,.r ys=>mKE ks ys m
 | .r ks,.p a 0=>mBox objs ks a m
 | .fn g cs,.fn g' cs'=>if g=g' then mCaps objs cs cs' m else none
 | .e k x,a=>mData objs k x a m
 | _,_=>none
def m1s (objs:List SObj):List SV1→List SV1→M→Option M
 | [],[],m=>some m
 | h::r,a::r',m=>(m1 objs h a m).bind (m1s objs r r')
 | _,_,_=>none
def mSV (objs:List SObj):SV→SV→M→Option M
 | .c h,.c a,m=>m1 objs h a m
 | .ag h,.ag a,m=>m1s objs h a m
 | _,_,_=>none
def mSVs (objs:List SObj):List SV→List SV→M→Option M
 | [],[],m=>some m
 | h::r,a::r',m=>(mSV objs h a m).bind (mSVs objs r r')
 | _,_,_=>none
def mSlot (objs:List SObj):Slot→Slot→M→Option M
 | .no,_,m=>some m
 | .v h,.v a,m=>mSV objs h a m
 | .tup h,.tup a,m=>mSVs objs h a m
 | _,_,_=>none
def mSlots (objs:List SObj):List Slot→List Slot→M→Option M
 | [],[],m=>some m
 | h::r,a::r',m=>(mSlot objs h a m).bind (mSlots objs r r')
 | _,_,_=>none
def mObj (ti:TypeId→TI) (objs:List SObj) (h:SObj) (a:Option Nat) (m:M):Option M:=match h,a with
 | .row t x,none=>(match ti t with
  | .sl _ _ _=>mE x .nil m
  | _=>none)
 | .row t x,some o=>match objs[o]? with
  | some (.row t' y)=>if t=t' then mE x y m else none
  | _=>none
 | .box cs,some o=>match objs[o]? with
  | some (.box ds)=>m1s objs cs ds m
  | _=>none
 | .deep t x,none=>(match ti t with
  | .sl _ true _=>mE x .nil m
  | _=>none)
 | .deep t x,some o=>match objs[o]? with
  | some (.deep t' y)=>if t=t' then mE x y m else none
  | _=>none
 | .dead,_=>some m
 | _,_=>none
def mObjs (ti:TypeId→TI) (objs:List SObj):List SObj→Nat→M→Option M
 | [],_,m=>some m
 | h::r,i,m=>match m.rho[i]? with
  | some (some a)=>(mObj ti objs h a m).bind (mObjs ti objs r (i+1))
  | _=>if h=.dead then mObjs ti objs r (i+1) m else none
def distinct:List Nat→Bool
 | []=>true
 | a::r=>!r.contains a&&distinct r
def liveOf:List (Option Nat)→List SObj→List (Option Nat)
 | x::r,h::q=>(if h.live then x else none)::liveOf r q
 | _,_=>[]
def M.ends (ho:List SObj) (m:M):Option (List E × List (Option Nat) × List Nat) :=
 let th:=m.th.filterMap id
 let rho:=m.rho.map fun x=>x.getD none
 let used:=(liveOf rho ho).filterMap id
 if th.length=m.th.length&&distinct used&&used.all (fun o=>!m.lent.contains o) then some (th,rho,m.lent) else none
def seed (k n:Nat):List (Option (Option Nat)):=(List.range k).map (fun o=>some (some o))++List.replicate (n - k) none
def mtch (k:Nat) (ti:TypeId→TI) (hs:List Slot) (ho:List SObj) (nv:Nat) (as:List Slot) (objs:List SObj):Option (List E × List (Option Nat) × List Nat) :=
 if k≤ho.length then (mSlots objs hs as { th:=List.replicate nv none,rho:=seed k ho.length,lent:=[] }).bind fun m=>(mObjs ti objs ho 0 m).bind (M.ends ho) else none
/-! ### What comes back from a call -/
def E.up (n:Nat):E→E
 | .v j=>.v (n+j)
 | .o1 o x=>.o1 o (x.up n)
 | .o2 o x y=>.o2 o (x.up n) (y.up n)
 | .o3 o x y z=>.o3 o (x.up n) (y.up n) (z.up n)
 | e=>e
def Cap.back (n:Nat) (ob:Nat→Nat):Cap→Cap
 | .p o=>.p (ob o)
 | .r ks=>.r (ks.map fun (k,x)=>(k,x.up n))
def SV1.back (n:Nat) (ob:Nat→Nat):SV1→SV1
 | .e k x=>.e k (x.up n)
 | .nil t=>.nil t
 | .p o off=>.p (ob o) off
 | .own o=>.own (ob o)
 | .dp o=>.dp (ob o)
 | .fn g cs=>.fn g (cs.map (Cap.back n ob))
 | _=>.u
def SV.back (n:Nat) (ob:Nat→Nat):SV→SV
 | .c a=>.c (a.back n ob)
 | .ag l=>.ag (l.map (SV1.back n ob))
def SObj.back (n:Nat) (ob:Nat→Nat):SObj→SObj
 | .box cs=>.box (cs.map (SV1.back n ob))
 | .row t x=>.row t (x.up n)
 | .fro t x=>.fro t (x.up n)
 | .dead=>.dead
 | .deep t x=>.deep t (x.up n)
 | .fbox ks=>.fbox (ks.map fun (k,x)=>(k,x.up n))
/-! ### One operation -/
def upds (objs:List SObj):List (Nat × SObj)→List SObj
 | []=>objs
 | (o,x)::r=>upds (objs.set o x) r
def place (objs:List SObj) (n:Nat) (new:List SObj):List SObj:=objs.take n++new++objs.drop (n+new.length)
def St.objsOf (σ:St) (δ:Delta):List SObj:=place (upds (freeze σ.objs δ.fz) δ.upd) σ.nb δ.new
def St.app (σ:St) (d:Option Tmp) (δ:Delta):St :=
 { slots:=match d with | some t=>σ.slots.set t δ.dst | none=>σ.slots
   objs:=σ.objsOf δ,nv:=σ.nv+δ.dn,known:=σ.known,nb:=(σ.objsOf δ).length,vb:=σ.nv+δ.dn }
def constSlot (ty:TypeId):Value→Slot
 | .bool b=>.v (.c (.e .bool (.b b)))
 | .int k n=>.v (.c (.e (.int k) (.i n)))
 | .string s=>.v (.c (.e .str (.s s.data.toList)))
 | .slice none 0 0=>.v (.c (.nil ty))
 | .pointer none=>.v (.c .u)
 | .nilFunc=>.v (.c .u)
 | .nilIface=>.v (.c .u)
 | _=>.no
def look (σ:St) (ty:TypeId):Operand→Slot
 | .tmp t=>(σ.slots[t]?).getD .no
 | .const v=>constSlot ty v
 | .func f=>.v (.c (.fn f []))
 | .global _=>.no
def look1 (σ:St) (ty:TypeId) (x:Operand):Option SV1:=match look σ ty x with
 | .v (.c a)=>some a
 | _=>none
def lookSV (σ:St) (ty:TypeId) (x:Operand):Option SV:=match look σ ty x with
 | .v a=>some a
 | _=>none
def lookE (σ:St) (x:Operand):Option (K × E):=match look σ 0 x with
 | .v (.c (.e k y))=>some (k,y)
 | _=>none
def knownE (σ:St) (c:E):Option Bool:=match c with
 | .b b=>some b
 | c=>(σ.known.find? (fun p=>p.1 == c)).map (·.2)
def ckIf (σ:St) (c:E) (t:T):T:=if knownE σ c=some true then t else .ck c t
def inRange (i n:E):E:=.o2 .land (.o2 .le (.i 0) i) (.o2 .lt i n)
def lenE:E→E
 | .nil=>.i 0
 | .o1 .one _=>.i 1
 | .o2 .app a b=>match lenE a,lenE b with
  | .i n,.i m=>.i (n+m)
  | _,_=>.o1 .len (.o2 .app a b)
 | x=>.o1 .len x
def ltB:E→E→Bool
 | .i a,.i b=>decide (a < b)
 | _,_=>false
def leB:E→E→Bool
 | .i a,.i b=>decide (a≤b)
 | _,_=>false
def ckRange (σ:St) (i n:E) (t:T):T:=if leB (.i 0) i&&ltB i n then t else ckIf σ (inRange i n) t
def ckLe (σ:St) (a b:E) (t:T):T:=if leB a b then t else ckIf σ (.o2 .le a b) t
def litB (b:Bool):E:=.b b
def notE:E→E
 | .b b=>.b (!b)
 | a=>.o1 .not a
def binE (op:BinOp) (k:K) (x y:E):Option (K × E):=match k with
 | .int ik=>match op with
  | .add=>some (.int ik,.o2 (.add ik) x y)
  | .sub=>some (.int ik,.o2 (.sub ik) x y)
  | .mul=>some (.int ik,.o2 (.mul ik) x y)
  | .and=>some (.int ik,.o2 (.and ik) x y)
  | .or=>some (.int ik,.o2 (.or ik) x y)
  | .xor=>some (.int ik,.o2 (.xor ik) x y)
  | .eql=>some (.bool,.o2 .eqi x y)
  | .neq=>some (.bool,notE (.o2 .eqi x y))
  | .lss=>some (.bool,.o2 .lt x y)
  | .leq=>some (.bool,.o2 .le x y)
  | .gtr=>some (.bool,.o2 .lt y x)
  | .geq=>some (.bool,.o2 .le y x)
  | _=>none
 | .bool=>match op with
  | .eql=>some (.bool,.o2 .eqb x y)
  | .neq=>some (.bool,notE (.o2 .eqb x y))
  | _=>none
 | .str=>match op with
  | .add=>some (.str,.o2 .cat x y)
  | .eql=>some (.bool,.o2 .eqs x y)
  | .neq=>some (.bool,notE (.o2 .eqs x y))
  | .lss=>some (.bool,.o2 .slt x y)
  | .gtr=>some (.bool,.o2 .slt y x)
  | _=>none
 | .sl _=>none
def andE:List E→E
 | []=>.b true
 | [x]=>x
 | x::r=>.o2 .land x (andE r)
def eqCells:List (K × E)→List (K × E)→Option (List E)
 | [],[]=>some []
 | (k,x)::r,(k',y)::r'=>if k=k' then match binE .eql k x y,eqCells r r' with
  | some (_,c),some cs=>some (c::cs)
  | _,_=>none
  else none
 | _,_=>none
def listE:List E→E
 | []=>.nil
 | [x]=>.o1 .one x
 | x::r=>.o2 .app (.o1 .one x) (listE r)
def elems (objs:List SObj) (agg:Bool) (lv:List K):List SV→Option (List E × List Nat)
 | []=>some ([],[])
 | v::r=>match datasOf objs v.cells,elems objs agg lv r with
  | some (ks,l),some (xs,m) =>
   if ks.map (·.1)=lv then
    (if agg then some (aggE (ks.map (·.2))::xs,l++m) else match ks with | [(_,x)]=>some (x::xs,l++m) | _=>none)
   else none
  | _,_=>none
def fillParts (fs:List (Nat × Nat × Bool)) (cells:List SV1):List (Nat × SV)→Option (List SV1)
 | []=>some cells
 | (i,v)::r=>match fs[i]? with
  | some (off,sz,_)=>if v.cells.length=sz then fillParts fs (cells.take off++v.cells++cells.drop (off+sz)) r else none
  | none=>none
def appLe:E:=.i 1073741824
def appE:E→E→E
 | .nil,y=>y
 | x,.nil=>x
 | x,y=>.o2 .app x y
def setCell (agg:Bool) (lv:List K) (x i:E) (off:Nat) (ys:List E):Option E :=
 if agg then
  (if off+ys.length≤lv.length then some (.o3 .set x i (aggE (lv.zipIdx.map fun (_,j)=>if j < off then .o1 (.cell j) (.o2 .idx x i) else if j < off+ys.length then ys.getD (j - off) .nil else .o1 (.cell j) (.o2 .idx x i)))) else none)
 else match off,ys with
  | 0,[y]=>some (.o3 .set x i y)
  | _,_=>none
def okDst (K' : Delta→T) (σ:St) (s:Slot):T:=K' { dst:=s,upd:=[],new:=[],fz:=[],dn:=0 }
def ok1 (K' : Delta→T) (σ:St) (a:SV1):T:=okDst K' σ (.v (.c a))
def nzCk (σ:St) (b:E) (t:T):T:=match b with
 | .i n=>if n=0 then .fail 1 else t
 | b=>ckIf σ (notE (.o2 .eqi b (.i 0))) t
def nnCk (σ:St) (b:E) (t:T):T:=match b with
 | .i n=>if 0≤n then t else .fail 4
 | b=>ckIf σ (.o2 .le (.i 0) b) t
def stepDiv (quo:Bool) (k k' : K) (a b:E) (σ:St) (K' : Delta→T):T:=match k with
 | .int ik=>if k'=.int ik then nzCk σ b (ok1 K' σ (.e (.int ik) (.o2 (if quo then .quo ik else .rem ik) a b))) else .fail 2
 | _=>.fail 3
def stepShift (left:Bool) (k k' : K) (a b:E) (σ:St) (K' : Delta→T):T:=match k,k' with
 | .int ik,.int _=>nnCk σ b (ok1 K' σ (.e (.int ik) (.o2 (if left then .shl ik else .shr ik) a b)))
 | _,_=>.fail 5
def stepPlain (ti:TypeId→TI) (op:BinOp) (t:TypeId) (k k' : K) (a b:E) (σ:St) (K' : Delta→T):T :=
 if k=k'∧(k=.bool→ti t=.one .bool) then (match binE op k a b with
  | some (k2,c)=>if k=.str∧op=.add then ckIf σ (.o2 .land (.o2 .le (.o1 .slen a) appLe) (.o2 .le (.o1 .slen b) appLe)) (ok1 K' σ (.e k2 c)) else ok1 K' σ (.e k2 c)
  | none=>.fail 7)
 else .fail 8
def stepEq (ti:TypeId→TI) (eqt:List TypeId) (op:BinOp) (t:TypeId) (l m:List SV1) (σ:St) (K' : Delta→T):T :=
 if eqt.contains t then (match datasOf σ.objs l,datasOf σ.objs m,ti t with
  | some (ks,_),some (ys,_),.ag _ lv _=>if ks.map (fun p=>some p.1)=lv∧ys.map (fun p=>some p.1)=lv then (match eqCells ks ys,op with
   | some cs,.eql=>ok1 K' σ (.e .bool (andE cs))
   | some cs,.neq=>ok1 K' σ (.e .bool (notE (andE cs)))
   | _,_=>.fail 10) else .fail 14
  | _,_,_=>.fail 11) else .fail 13
def stepNil (ti:TypeId→TI) (op:BinOp) (t:TypeId) (a:E) (σ:St) (K' : Delta→T):T:=match op,ti t with
 | .eql,.sl _ _ _=>.am a (ok1 K' σ (.e .bool (.b true))) (ok1 K' σ (.e .bool (.b false)))
 | .neq,.sl _ _ _=>.am a (ok1 K' σ (.e .bool (.b false))) (ok1 K' σ (.e .bool (.b true)))
 | _,_=>.fail 9
def stepNils (ti:TypeId→TI) (op:BinOp) (t:TypeId) (σ:St) (K' : Delta→T):T:=match op,ti t with
 | .eql,.sl _ _ _=>ok1 K' σ (.e .bool (.b true))
 | .neq,.sl _ _ _=>ok1 K' σ (.e .bool (.b false))
 | _,_=>.fail 9
def stepBin (ti:TypeId→TI) (eqt:List TypeId) (op:BinOp) (t:TypeId) (x y:Operand) (σ:St) (K' : Delta→T):T :=
 match look σ 0 x,look σ 0 y with
 | .v (.c (.e k a)),.v (.c (.e k' b))=>(match op with
  | .quo=>stepDiv true k k' a b σ K'
  | .rem=>stepDiv false k k' a b σ K'
  | .shl=>stepShift true k k' a b σ K'
  | .shr=>stepShift false k k' a b σ K'
  | op=>stepPlain ti op t k k' a b σ K')
 | .v (.c (.e (.sl _) a)),.v (.c (.nil _))=>stepNil ti op t a σ K'
 | .v (.c (.nil _)),.v (.c (.nil _))=>stepNils ti op t σ K'
 | .v (.ag l),.v (.ag m)=>stepEq ti eqt op t l m σ K'
 | _,_=>.fail 12
def stepLoadE (ti:TypeId→TI) (t ts:TypeId) (sz:Nat) (x i:E) (off:Nat) (σ:St) (K' : Delta→T):T:=match ti ts with
 | .sl _ agg lv=>if sz=lv.length then (match mkSV ti t ((((elemCells agg lv (.o2 .idx x i)).drop off).take (ti t).size).map ofKE) with
  | some v=>okDst K' σ (.v v)
  | none=>.fail 23) else .fail 27
 | _=>.fail 24
def deepCells (ts:TypeId) (lv:List K) (o:Nat) (x i:E):List SV1:=lv.zipIdx.map fun (k,c)=>match k with
 | .sl t=>.nst o ts i c t
 | k=>.e k (.o1 (.cell c) (.o2 .idx x i))
def stepLoadD (ti:TypeId→TI) (t ts:TypeId) (o sz:Nat) (x i:E) (off:Nat) (σ:St) (K' : Delta→T):T:=match ti ts with
 | .sl _ true lv=>if sz=lv.length then (match mkSV ti t (((deepCells ts lv o x i).drop off).take (ti t).size) with
  | some v=>okDst K' σ (.v v)
  | none=>.fail 200) else .fail 201
 | _=>.fail 202
def nestE (x i:E) (c:Nat):E:=.o1 (.cell c) (.o2 .idx x i)
def stepLoadN (ti:TypeId→TI) (t tn:TypeId) (x i:E) (c:Nat) (k:E) (σ:St) (K' : Delta→T):T:=match ti tn with
 | .sl _ false [kk]=>(match mkSV ti t [.e kk (.o2 .idx (nestE x i c) k)] with
  | some v=>okDst K' σ (.v v)
  | none=>.fail 203)
 | _=>.fail 204
def stepLoad (ti:TypeId→TI) (t:TypeId) (a:SV1) (σ:St) (K' : Delta→T):T :=
 match a with
 | .p o off=>(match σ.objs[o]? with
  | some (.box cs)=>(match mkSV ti t ((cs.drop off).take (ti t).size) with
   | some v=>okDst K' σ (.v v)
   | none=>.fail 20)
  | some (.fbox ks)=>(match mkSV ti t (((ks.drop off).take (ti t).size).map ofKE) with
   | some v=>okDst K' σ (.v v)
   | none=>.fail 22)
  | _=>.fail 21)
 | .r ks=>(match mkSV ti t ((ks.take (ti t).size).map ofKE) with
  | some v=>okDst K' σ (.v v)
  | none=>.fail 22)
 | .po o sz i off=>(match σ.objs[o]? with
  | some (.row ts x)=>stepLoadE ti t ts sz x i off σ K'
  | some (.fro ts x)=>stepLoadE ti t ts sz x i off σ K'
  | _=>.fail 25)
 | .pd o sz i off=>(match σ.objs[o]? with
  | some (.deep ts x)=>stepLoadD ti t ts o sz x i off σ K'
  | _=>.fail 205)
 | .pn o ts i c tn k=>(match σ.objs[o]? with
  | some (.deep t' x)=>if t'=ts then stepLoadN ti t tn x i c k σ K' else .fail 206
  | _=>.fail 206)
 | _=>.fail 26
def stepStore (ti:TypeId→TI) (t:TypeId) (a:SV1) (v:SV) (σ:St) (K' : Delta→T):T :=
 if ti t≠.bad∧v.cells.length=(ti t).size then
 match a with
 | .p o off=>(match σ.objs[o]? with
  | some (.box cs)=>if off+v.cells.length≤cs.length then K' { dst:=.no,upd:=[(o,.box (cs.take off++v.cells++cs.drop (off+v.cells.length)))],new:=[],fz:=[],dn:=0 } else .fail 30
  | _=>.fail 31)
 | .po o sz i off=>(match σ.objs[o]?,datasOf σ.objs v.cells with
  | some (.row ts x),some (ks,l)=>(match ti ts with
   | .sl _ agg lv=>if l.contains o ∨ sz≠lv.length then .fail 32 else if (lv.drop off).take ks.length=ks.map (·.1) then (match setCell agg lv x i off (ks.map (·.2)) with
    | some y=>K' { dst:=.no,upd:=[(o,.row ts y)],new:=[],fz:=l,dn:=0 }
    | none=>.fail 33)
    else .fail 34
   | _=>.fail 35)
  | _,_=>.fail 36)
 | .pn o ts i c tn k=>(match σ.objs[o]?,v,ti tn with
  | some (.deep t' x),.c (.e kk' y),.sl _ false [kk]=>(match ti ts with
   | .sl _ true lv=>if kk=kk'∧t'=ts∧lv[c]?=some (.sl tn) then (match setCell true lv x i c [.o3 .set (nestE x i c) k y] with
    | some z=>K' { dst:=.no,upd:=[(o,.deep ts z)],new:=[],fz:=[],dn:=0 }
    | none=>.fail 207)
    else .fail 208
   | _=>.fail 209)
  | _,_,_=>.fail 210)
 | _=>.fail 37
 else .fail 38
def oldOf (oo:Option Nat):List (Nat × SObj):=match oo with | some o=>[(o,.dead)] | none=>[]
def appTo (t:TypeId) (w y:E) (o:Option Nat) (σ:St) (K' : Delta→T):T :=
 K' { dst:=.v (.c (.own σ.nb)),upd:=oldOf o,new:=[.row t (appE w y)],fz:=[],dn:=0 }
def stepApp (t:TypeId) (y:E) (l:List Nat) (s:SV1) (σ:St) (K' : Delta→T):T:=match s with
 | .nil _=>ckLe σ (lenE y) appLe (appTo t .nil y none σ K')
 | .own o=>(match σ.objs[o]? with
  | some (.row t' w)=>if t'=t∧!l.contains o then ckLe σ (lenE w) appLe (ckLe σ (lenE y) appLe (appTo t w y (some o) σ K')) else .fail 40
  | _=>.fail 41)
 | _=>.fail 42
def zeroEl (agg:Bool) (lv:List K):E:=if agg then aggE (lv.map zeroE) else zeroE (lv.headD .bool)
def stepZeros (t:TypeId) (agg:Bool) (lv:List K) (n:E) (s:SV1) (σ:St) (K' : Delta→T):T:=match s with
 | .nil _=>ckLe σ (.i 0) n (ckLe σ n appLe (appTo t .nil (.o2 .rep (zeroEl agg lv) n) none σ K'))
 | .own o=>(match σ.objs[o]? with
  | some (.row t' w)=>if t'=t then ckLe σ (.i 0) n (ckLe σ n appLe (ckLe σ (lenE w) appLe (appTo t w (.o2 .rep (zeroEl agg lv) n) (some o) σ K'))) else .fail 44
  | _=>.fail 45)
 | _=>.fail 46
def stepAppD (t t2:TypeId) (o o1:Nat) (σ:St) (K' : Delta→T):T:=match σ.objs[o]?,σ.objs[o1]? with
 | some (.deep t' w),some (.deep t1 y)=>if t'=t∧t1=t∧t2=t∧o≠o1 then ckLe σ (lenE w) appLe (ckLe σ (lenE y) appLe (K' { dst:=.v (.c (.dp σ.nb)),upd:=[(o,.dead),(o1,.dead)],new:=[.deep t (appE w y)],fz:=[],dn:=0 })) else .fail 211
 | _,_=>.fail 212
def stepAppend (ti:TypeId→TI) (t t2:TypeId) (s x:SV1) (σ:St) (K' : Delta→T):T :=
 match ti t with
 | .sl _ agg lv=>(match s,x with
  | .dp o,.dp o1=>stepAppD t t2 o o1 σ K'
  | _,.dp _=>.fail 232
  | _,.nst ..=>.fail 233
  | s,x=>if t2=t then (match dataOf σ.objs x with
   | some ((kx,y),l)=>if kx=.sl t then stepApp t y l s σ K' else .fail 43
   | none=>.fail 49)
  else (match x,ti t2 with
   | .e (.int .i64) n,.one (.int _)=>stepZeros t agg lv n s σ K'
   | _,_=>.fail 48))
 | _=>.fail 47
def sliceCks (lo hi:Option E) (n:E) (σ:St) (t1:T):T :=
 let t2:=(match lo with | none=>t1 | some l=>ckLe σ (.i 0) l (ckLe σ l (hi.getD n) t1))
 (match hi with | none=>t2 | some h=>ckLe σ (.i 0) h (ckLe σ h n t2))
def cutE (w:E):Option E→Option E→E
 | none,none=>w
 | some l,none=>.o2 .drop w l
 | none,some h=>.o2 .take w h
 | some l,some h=>.o2 .drop (.o2 .take w h) l
def stepCut (t:TypeId) (w:E) (lo hi:Option E) (σ:St) (K' : Delta→T):T:=sliceCks lo hi (lenE w) σ (ok1 K' σ (.e (.sl t) (cutE w lo hi)))
def stepSlice (ti:TypeId→TI) (t:TypeId) (x:SV1) (lo hi:Option E) (σ:St) (K' : Delta→T):T :=
 match x with
 | .e .str s=>if ti t=.one .str then sliceCks lo hi (.o1 .slen s) σ (ok1 K' σ (.e .str (.o3 .ssub s (lo.getD (.i 0)) (hi.getD (.o1 .slen s))))) else .fail 50
 | .e (.sl t') w=>if ti t=ti t'∧(ti t).isSl then stepCut t' w lo hi σ K' else .fail 53
 | .nil t'=>if (ti t).isSl then (match lo,hi with
  | none,some (.i 0)=>ok1 K' σ (.nil t')
  | none,none=>ok1 K' σ (.nil t')
  | some (.i 0),none=>ok1 K' σ (.nil t')
  | _,_=>.fail 54) else .fail 55
 | .own o=>(match σ.objs[o]? with
  | some (.row t' w)=>if ti t=ti t'∧(ti t).isSl then (match lo,hi with
   | none,some h=>ckLe σ (.i 0) h (ckLe σ h (lenE w) (K' { dst:=.v (.c (.own σ.nb)),upd:=[(o,.dead)],new:=[.row t' (.o2 .take w h)],fz:=[],dn:=0 }))
   | none,none=>ok1 K' σ (.own o)
   | some l,none=>(match ti t with
    | .sl _ _ lv=>ckLe σ (.i 0) l (ckLe σ l (lenE w) (ok1 K' σ (.ow o lv.length l)))
    | _=>.fail 51)
   | _,_=>.fail 51) else .fail 52
  | some (.fro t' w)=>if ti t=ti t'∧(ti t).isSl then stepCut t' w lo hi σ K' else .fail 56
  | _=>.fail 57)
 | _=>.fail 58
def bndE (σ:St):Option Operand→Option (Option E)
 | none=>some none
 | some x=>match lookE σ x with
  | some (.int _,n)=>some (some n)
  | _=>none
/-! ### Is every variable known? -/
def E.low (n:Nat):E→Bool
 | .v j=>decide (j < n)
 | .o1 _ x=>x.low n
 | .o2 _ x y=>x.low n&&y.low n
 | .o3 _ x y z=>x.low n&&y.low n&&z.low n
 | _=>true
def Cap.low (n:Nat):Cap→Bool
 | .p _=>true
 | .r ks=>ks.all fun p=>p.2.low n
def SV1.low (n:Nat):SV1→Bool
 | .e _ x=>x.low n
 | .po _ _ i _=>i.low n
 | .ow _ _ lo=>lo.low n
 | .pd _ _ i _=>i.low n
 | .nst _ _ i _ _=>i.low n
 | .pn _ _ i _ _ k=>i.low n&&k.low n
 | .r ks=>ks.all fun p=>p.2.low n
 | .fn _ cs=>cs.all (Cap.low n)
 | _=>true
def SV.low (n:Nat):SV→Bool
 | .c a=>a.low n
 | .ag l=>l.all (SV1.low n)
def Slot.low (n:Nat):Slot→Bool
 | .v a=>a.low n
 | .tup l=>l.all (SV.low n)
 | _=>true
def SObj.low (n:Nat):SObj→Bool
 | .box cs=>cs.all (SV1.low n)
 | .row _ x=>x.low n
 | .fro _ x=>x.low n
 | .dead=>true
 | .deep _ x=>x.low n
 | .fbox ks=>ks.all fun p=>p.2.low n
def St.low (σ:St):Bool:=σ.slots.all (Slot.low σ.nv)&&σ.objs.all (SObj.low σ.nv)&&σ.known.all (fun p=>p.1.low σ.nv)
def K.flat:K→Bool
 | .sl _=>false
 | _=>true
def SV1.flat:SV1→Bool
 | .e k _=>k.flat
 | .r _=>false
 | .fn ..=>false
 | _=>true
def SV.flat:SV→Bool
 | .c a=>a.flat
 | .ag l=>l.all SV1.flat
def SObj.flat (ti:TypeId→TI):SObj→Bool
 | .box cs=>cs.all SV1.flat
 | .row t _=>(match ti t with
  | .sl _ _ lv=>lv.all K.flat
  | _=>false)
 | .fro ..=>false
 | .dead=>true
 | .deep ..=>false
 | .fbox ..=>false
def Sig.isFlat (ti:TypeId→TI) (s:Sig):Bool:=s.flat&&s.outS.all SV.flat&&s.outO.all (SObj.flat ti)
def Sig.outLow (s:Sig):Bool:=s.outS.all (SV.low s.nOut)&&s.outO.all (SObj.low s.nOut)
def backO (s:Sig) (rho:List (Option Nat)) (base o:Nat):Nat:=if o < s.inO.length then ((rho[o]?).getD none).getD 0 else base+(o - s.inO.length)
def resSlot (n:Nat) (ob:Nat→Nat) (l:List SV):Slot:=match l with
 | [a]=>.v (a.back n ob)
 | l=>.tup (l.map (SV.back n ob))
def callDelta (ti:TypeId→TI) (s:Sig) (rho:List (Option Nat)) (lent:List Nat) (σ:St):Delta :=
 let ob:=backO s rho σ.nb
 { dst:=resSlot σ.vb ob s.outS
   upd:=(s.outO.take s.inO.length).zipIdx.map fun (x,o)=>(ob o,x.back σ.vb ob)
   new:=(s.outO.drop s.inO.length).map (SObj.back σ.vb ob)
   fz:=if s.isFlat ti then [] else lent,dn:=s.nOut }
def findSig (env:Env) (g:FuncId) (as:List Slot) (objs:List SObj):List Sig→Nat→Option (Nat × Sig × List E × List (Option Nat) × List Nat)
 | [],_=>none
 | s::r,i=>if s.f=g then (match mtch 0 env.ti s.inS s.inO s.nIn as objs with
  | some (th,rho,lent)=>some (i,s,th,rho,lent)
  | none=>findSig env g as objs r (i+1))
  else findSig env g as objs r (i+1)
def stepCall (env:Env) (g:FuncId) (as:List Slot) (σ:St) (K' : Delta→T):T:=match findSig env g as σ.objs env.sigs 0 with
 | some (i,s,th,rho,lent)=>if rho.all (fun | some a=>decide (a < σ.objs.length∧(a < σ.nb ∨ σ.nb+(s.outO.length - s.inO.length)≤a)) | none=>false)∧(σ.low∧th.all (E.low σ.nv))∧s.inO.length≤s.outO.length∧(s.inO.all SObj.live∧s.outLow) then .call (i * 100) s.nOut th (K' (callDelta env.ti s rho lent σ)) else .fail 60
 | none=>.miss g as σ.objs
/-! ### The operations -/
def stepAlloc (ti:TypeId→TI) (t:TypeId) (σ:St) (K' : Delta→T):T :=
 if ti t≠.bad then K' { dst:=.v (.c (.p σ.nb 0)),upd:=[],new:=[.box (zeroSV ti t).cells],fz:=[],dn:=0 } else .fail 59
def stepBox (v:SV) (σ:St) (K' : Delta→T):T:=K' { dst:=.v (.c (.p σ.nb 0)),upd:=[],new:=[.box v.cells],fz:=[],dn:=0 }
def lookParts (σ:St) (ty:TypeId):List (Nat × Operand)→Option (List (Nat × SV))
 | []=>some []
 | (i,x)::r=>match lookSV σ ty x,lookParts σ ty r with
  | some v,some l=>some ((i,v)::l)
  | _,_=>none
def stepBuild (ti:TypeId→TI) (t:TypeId) (parts:List (Nat × Operand)) (σ:St) (K' : Delta→T):T:=match ti t with
 | .ag _ lv fs=>(match lookParts σ 0 parts with
  | some ps=>(match fillParts fs (lv.map zero1) ps with
   | some cs=>okDst K' σ (.v (.ag cs))
   | none=>.fail 65)
  | none=>.fail 66)
 | _=>.fail 67
def deepParts (ti:TypeId→TI) (objs:List SObj):List SV1→List K→Option (List E × List Nat)
 | [],[]=>some ([],[])
 | .own o::r,.sl t::kr=>(match objs[o]?,ti t,deepParts ti objs r kr with
  | some (.row t' x),.sl _ false [kf],some (xs,os)=>if t'=t∧kf.flat=true∧!os.contains o then some (x::xs,o::os) else none
  | _,_,_=>none)
 | .e k x::r,k'::kr=>(match deepParts ti objs r kr with
  | some (xs,os)=>if k=k'∧k.flat=true then some (x::xs,os) else none
  | none=>none)
 | _,_=>none
def stepBuildDeep (ti:TypeId→TI) (t:TypeId) (v:SV) (σ:St) (K' : Delta→T):T:=match ti t,v with
 | .sl _ true lv,.ag cs=>if lv.length≤16777216 then (match deepParts ti σ.objs cs lv with
  | some (xs,os)=>K' { dst:=.v (.c (.dp σ.nb)),upd:=os.map fun o=>(o,.dead),new:=[.deep t (.o1 .one (aggE xs))],fz:=[],dn:=0 }
  | none=>.fail 213) else .fail 219
 | _,_=>.fail 214
def stepBuildSlice (ti:TypeId→TI) (t:TypeId) (n:Nat) (parts:List (Nat × Operand)) (σ:St) (K' : Delta→T):T:=match ti t with
 | .sl e agg lv=>(match lookParts σ e parts with
  | some ps=>if ps.map (·.1)=List.range n∧n * lv.length≤16777216 then (match elems σ.objs agg lv (ps.map (·.2)) with
   | some (xs,l)=>K' { dst:=.v (.c (.own σ.nb)),upd:=[],new:=[.row t (listE xs)],fz:=l,dn:=0 }
   | none=>.fail 68)
   else .fail 69
  | none=>.fail 70)
 | _=>.fail 71
def stepNilCheck (a:SV1) (σ:St) (K' : Delta→T):T:=match a with
 | .p o off=>ok1 K' σ (.p o off)
 | .po o sz i off=>ok1 K' σ (.po o sz i off)
 | .pd o sz i off=>ok1 K' σ (.pd o sz i off)
 | .pn o ts i c t k=>ok1 K' σ (.pn o ts i c t k)
 | .r ks=>ok1 K' σ (.r ks)
 | _=>.fail 74
def stepNot (a:SV1) (σ:St) (K' : Delta→T):T:=match a with
 | .e .bool c=>ok1 K' σ (.e .bool (notE c))
 | _=>.fail 75
def stepConvert (ti:TypeId→TI) (src dst:TypeId) (a:SV1) (σ:St) (K' : Delta→T):T:=match ti src,ti dst,a with
 | .one (.int _),.one (.int k),.e (.int _) y=>ok1 K' σ (.e (.int k) (.o1 (.wrap k) y))
 | .one .str,.one .str,.e .str y=>ok1 K' σ (.e .str y)
 | _,_,_=>.fail 76
def lookCaps (σ:St):List Operand→Option (List Cap)
 | []=>some []
 | x::r=>match look1 σ 0 x,lookCaps σ r with
  | some (.p o 0),some l=>some (.p o::l)
  | some (.r ks),some l=>some (.r ks::l)
  | _,_=>none
def stepMakeFunc (g:FuncId) (caps:List Operand) (σ:St) (K' : Delta→T):T:=match lookCaps σ caps with
 | some cs=>ok1 K' σ (.fn g cs)
 | none=>.fail 77
def stepFieldAddr (ti:TypeId→TI) (t:TypeId) (j:Nat) (a:SV1) (σ:St) (K' : Delta→T):T:=match ti t with
 | .ag true _ fs=>(match fs[j]?,a with
  | some (fo,_,_),.p o off=>ok1 K' σ (.p o (off+fo))
  | some (fo,_,_),.po o sz i off=>ok1 K' σ (.po o sz i (off+fo))
  | some (fo,_,_),.pd o sz i off=>ok1 K' σ (.pd o sz i (off+fo))
  | some (fo,_,_),.r ks=>ok1 K' σ (.r (ks.drop fo))
  | _,_=>.fail 81)
 | _=>.fail 106
def partSV (l:List SV1) (fo sz:Nat) (agg:Bool):Option SV:=if fo+sz≤l.length then (if agg then some (.ag ((l.drop fo).take sz)) else (l[fo]?).map .c) else none
def stepField (ti:TypeId→TI) (t:TypeId) (j:Nat) (v:SV) (σ:St) (K' : Delta→T):T:=match ti t,v with
 | .ag true _ fs,.ag l=>(match fs[j]? with
  | some (fo,sz,agg)=>(match partSV l fo sz agg with
   | some v=>okDst K' σ (.v v)
   | none=>.fail 107)
  | none=>.fail 82)
 | _,_=>.fail 108
def stepIndexAddr (ti:TypeId→TI) (t:TypeId) (a:SV1) (i:E) (σ:St) (K' : Delta→T):T:=match ti t with
 | .sl _ agg lv=>(match a with
  | .own o=>(match σ.objs[o]? with
   | some (.row t' w)=>if ti t'=ti t then ckRange σ i (lenE w) (ok1 K' σ (.po o lv.length i 0)) else .fail 83
   | some (.fro t' w)=>if ti t'=ti t then ckRange σ i (lenE w) (ok1 K' σ (.r (elemCells agg lv (.o2 .idx w i)))) else .fail 83
   | _=>.fail 83)
  | .e (.sl t') w=>if ti t'=ti t then ckRange σ i (lenE w) (ok1 K' σ (.r (elemCells agg lv (.o2 .idx w i)))) else .fail 84
  | .ow o sz lo=>(match σ.objs[o]? with
   | some (.row t' w)=>if ti t'=ti t∧sz=lv.length then ckRange σ i (.o2 (.sub .i64) (lenE w) lo) (ok1 K' σ (.po o lv.length (.o2 (.add .i64) lo i) 0)) else .fail 224
   | _=>.fail 225)
  | .dp o=>(match σ.objs[o]? with
   | some (.deep t' w)=>if ti t'=ti t then ckRange σ i (lenE w) (ok1 K' σ (.pd o lv.length i 0)) else .fail 215
   | _=>.fail 216)
  | .nst o ts j c t'=>(match σ.objs[o]? with
   | some (.deep t2 x)=>if ti t'=ti t∧t2=ts∧agg=false∧lv.length=1 then ckRange σ i (.o1 .len (nestE x j c)) (ok1 K' σ (.pn o ts j c t' i)) else .fail 217
   | _=>.fail 218)
  | _=>.fail 84)
 | .ag false _ fs=>(match i with
  | .i n=>if 0≤n then (match fs[n.toNat]?,a with
   | some (fo,_,_),.p o off=>ok1 K' σ (.p o (off+fo))
   | some (fo,_,_),.po o sz i off=>ok1 K' σ (.po o sz i (off+fo))
   | some (fo,_,_),.r ks=>ok1 K' σ (.r (ks.drop fo))
   | _,_=>.fail 85) else .fail 86
  | _=>.fail 88)
 | _=>.fail 89
def stepIndex (ti:TypeId→TI) (t:TypeId) (v:SV) (i:E) (σ:St) (K' : Delta→T):T:=match ti t,v with
 | .one .str,.c (.e .str s)=>ckRange σ i (.o1 .slen s) (ok1 K' σ (.e (.int .u8) (.o2 .sidx s i)))
 | .ag false _ fs,.ag l=>(match i with
  | .i n=>if 0≤n then (match fs[n.toNat]? with
   | some (fo,sz,agg)=>(match partSV l fo sz agg with
    | some v=>okDst K' σ (.v v)
    | none=>.fail 91)
   | none=>.fail 92) else .fail 91
  | _=>.fail 92)
 | _,_=>.fail 93
def stepExtract (s:Slot) (j:Nat) (σ:St) (K' : Delta→T):T:=match s with
 | .tup l=>(match l[j]? with
  | some v=>okDst K' σ (.v v)
  | none=>.fail 94)
 | _=>.fail 95
def stepLen (ti:TypeId→TI) (t:TypeId) (a:SV1) (σ:St) (K' : Delta→T):T:=match ti t with
 | .one .str=>(match a with
  | .e .str s=>ok1 K' σ (.e (.int .i64) (.o1 .slen s))
  | _=>.fail 96)
 | .sl _ _ lv=>(match a with
  | .ow o _ lo=>(match σ.objs[o]? with
   | some (.row _ w)=>ok1 K' σ (.e (.int .i64) (.o2 (.sub .i64) (lenE w) lo))
   | _=>.fail 226)
  | a=>(match dataOf σ.objs a with
   | some ((.sl _,w),_)=>ok1 K' σ (.e (.int .i64) (lenE w))
   | _=>.fail 97))
 | _=>.fail 98
def stepClear (ti:TypeId→TI) (t:TypeId) (a:SV1) (σ:St) (K' : Delta→T):T:=match a with
 | .ow o sz lo=>(match σ.objs[o]?,ti t with
  | some (.row t' w),.sl _ agg lv=>if ti t'=ti t∧sz=lv.length then K' { dst:=.no,upd:=[(o,.row t' (.o2 .app (.o2 .take w lo) (.o2 .rep (zeroEl agg lv) (.o2 (.sub .i64) (lenE w) lo))))],new:=[],fz:=[],dn:=0 } else .fail 227
  | _,_=>.fail 228)
 | _=>.fail 229
def stepCap (ti:TypeId→TI) (t:TypeId) (a:SV1) (σ:St) (K' : Delta→T):T:=match ti t,a with
 | .sl _ _ _,.nil _=>ok1 K' σ (.e (.int .i64) (.i 0))
 | _,_=>.fail 99
def intsOf (σ:St):List Operand→Option (List E)
 | []=>some []
 | x::r=>match lookE σ x,intsOf σ r with
  | some (.int .i64,a),some l=>some (a::l)
  | _,_=>none
def stepPick (c:SV1) (a b:Slot) (σ:St) (K' : Delta→T):T:=match c with
 | .e .bool c=>(match knownE σ c with
  | some true=>okDst K' σ a
  | some false=>okDst K' σ b
  | none=>.fail 61)
 | _=>.fail 62
def stepMinMax (o:O2) (l:List Operand) (σ:St) (K' : Delta→T):T:=match intsOf σ l with
 | some (x::r)=>ok1 K' σ (.e (.int .i64) (r.foldl (.o2 o) x))
 | _=>.fail 223
def argSlots (σ:St):List Operand→List TypeId→List Slot
 | [],_=>[]
 | x::r,ts=>look σ (ts.headD 0) x::argSlots σ r ts.tail
def capSlots (cs:List Cap):List Slot:=cs.map fun | .p o=>.v (.c (.p o 0)) | .r ks=>.v (.c (.r ks))
def ostep (env:Env) (o:Oper) (σ:St) (K' : Delta→T):T :=
 match o.op with
 | .move x | .assign x=>okDst K' σ (look σ o.type x)
 | .pick c a b=>(match look1 σ 0 c with
  | some c=>stepPick c (look σ o.type a) (look σ o.type b) σ K'
  | none=>.fail 62)
 | .alloc t=>stepAlloc env.ti t σ K'
 | .box t x=>(match lookSV σ t x with
  | some v=>stepBox v σ K'
  | none=>.fail 64)
 | .build t parts=>stepBuild env.ti t parts.toList σ K'
 | .buildSlice t n parts=>if env.deepT.contains t then (match parts.toList with
  | [(0,x)]=>if n=1 then (match lookSV σ t x with
   | some v=>stepBuildDeep env.ti t v σ K'
   | none=>.fail 220) else .fail 221
  | _=>.fail 222) else stepBuildSlice env.ti t n parts.toList σ K'
 | .load t a=>(match look1 σ 0 a with
  | some a=>stepLoad env.ti t a σ K'
  | none=>.fail 72)
 | .store t a v=>(match look1 σ 0 a,lookSV σ t v with
  | some a,some v=>stepStore env.ti t a v σ K'
  | _,_=>.fail 73)
 | .nilCheck x=>(match look1 σ 0 x with
  | some a=>stepNilCheck a σ K'
  | _=>.fail 74)
 | .binOp op t x y _=>stepBin env.ti env.eqt op t x y σ K'
 | .unOp .not _ x=>(match look1 σ 0 x with
  | some a=>stepNot a σ K'
  | _=>.fail 75)
 | .convert src dst x=>(match look1 σ 0 x with
  | some a=>stepConvert env.ti src dst a σ K'
  | none=>.fail 76)
 | .makeFunc (.func g) first captured=>if first.size=0 then stepMakeFunc g captured.toList σ K' else .fail 78
 | .slice t x lo hi none=>(match look1 σ t x,bndE σ lo,bndE σ hi with
  | some x,some lo,some hi=>stepSlice env.ti t x lo hi σ K'
  | _,_,_=>.fail 80)
 | .fieldAddr t x j=>(match look1 σ 0 x with
  | some a=>stepFieldAddr env.ti t j a σ K'
  | none=>.fail 81)
 | .field t x j=>(match lookSV σ 0 x with
  | some v=>stepField env.ti t j v σ K'
  | none=>.fail 82)
 | .indexAddr t x ix=>(match look1 σ t x,lookE σ ix with
  | some a,some (.int _,i)=>stepIndexAddr env.ti t a i σ K'
  | _,_=>.fail 90)
 | .index t x ix=>(match lookSV σ 0 x,lookE σ ix with
  | some v,some (.int _,i)=>stepIndex env.ti t v i σ K'
  | _,_=>.fail 93)
 | .extract x j=>stepExtract (look σ 0 x) j σ K'
 | .call c=>(match c.callee with
  | .builtin .len=>(match c.args.toList,c.argTypes.toList with
   | [x],[t]=>(match look1 σ t x with
    | some a=>stepLen env.ti t a σ K'
    | none=>.fail 97)
   | _,_=>.fail 98)
  | .builtin .cap=>(match c.args.toList,c.argTypes.toList with
   | [x],[t]=>(match look1 σ t x with
    | some a=>stepCap env.ti t a σ K'
    | _=>.fail 99)
   | _,_=>.fail 100)
  | .builtin .append=>(match c.args.toList,c.argTypes.toList with
   | [s,x],[t,t2]=>(match look1 σ t s,look1 σ t2 x with
    | some s,some x=>stepAppend env.ti t t2 s x σ K'
    | _,_=>.fail 101)
   | _,_=>.fail 102)
  | .builtin .clear=>(match c.args.toList,c.argTypes.toList with
   | [x],[t]=>(match look1 σ t x with
    | some a=>stepClear env.ti t a σ K'
    | _=>.fail 230)
   | _,_=>.fail 231)
  | .builtin .max=>stepMinMax .imax c.args.toList σ K'
  | .builtin .min=>stepMinMax .imin c.args.toList σ K'
  | .value f=>(match look1 σ 0 f with
   | some (.fn g cs)=>stepCall env g (argSlots σ c.args.toList c.argTypes.toList++capSlots cs) σ K'
   | _=>.fail 103)
  | _=>.fail 104)
 | _=>.fail 105
/-! ### A region, in the text's order -/
def decide1 (σ:St) (c:E) (yes no:St→T):T:=match knownE σ c with
 | some true=>yes σ
 | some false=>no σ
 | none=>match c with
  | .o1 .not a=>.br a (no { σ with known:=(a,true)::(c,false)::σ.known }) (yes { σ with known:=(a,false)::(c,true)::σ.known })
  | c=>.br c (yes { σ with known:=(c,true)::σ.known }) (no { σ with known:=(c,false)::σ.known })
def skipSt (σ:St) (d:Option Tmp):St:={ σ with slots:=match d with | some t=>σ.slots.set t .un | none=>σ.slots }
def withGuard (ops:Array Oper) (o:Oper) (σ:St) (go skip:St→T):T:=match o.guard with
 | none=>go σ
 | some (j,want)=>match (ops[j]?).bind (·.dst) with
  | some t=>(match σ.slots[t]? with
   | some (.v (.c (.e .bool c)))=>decide1 σ c (if want then go else skip) (if want then skip else go)
   | some .un=>skip σ
   | _=>.fail 110)
  | none=>.fail 111
def sxOps (env:Env) (ops:Array Oper):List Oper→St→(St→T)→T
 | [],σ,K'=>K' σ
 | o::r,σ,K'=>withGuard ops o σ (fun σ=>ostep env o σ fun δ=>sxOps env ops r (σ.app o.dst δ) K') (fun σ=>sxOps env ops r (skipSt σ o.dst) K')
/-! ### A region whose order is drawn: the text's order, and a proof that no other order tells -/
def operTmps (o:Oper):List Nat:=o.op.operands.toList.filterMap fun | .tmp t=>some t | _=>none
def isCallV (o:Oper):Bool:=match o.op with
 | .call c=>(match c.callee with
  | .value _=>true
  | _=>false)
 | _=>false
def makes (o:Oper):Bool:=match o.op with
 | .alloc _ | .box .. | .buildSlice .. | .slice ..=>true
 | .call c=>(match c.callee with
  | .builtin .append=>true
  | _=>false)
 | _=>false
def SV1.nums:SV1→List Nat
 | .p o _=>[o]
 | .po o _ _ _=>[o]
 | .ow o _ _=>[o]
 | .own o=>[o]
 | .dp o=>[o]
 | .pd o _ _ _=>[o]
 | .nst o _ _ _ _=>[o]
 | .pn o _ _ _ _ _=>[o]
 | .fn _ cs=>cs.filterMap fun | .p o=>some o | .r _=>none
 | _=>[]
def SV.nums (v:SV):List Nat:=v.cells.flatMap SV1.nums
def Slot.nums:Slot→List Nat
 | .v a=>a.nums
 | .tup l=>l.flatMap SV.nums
 | _=>[]
def SObj.nums:SObj→List Nat
 | .box cs=>cs.flatMap SV1.nums
 | _=>[]
def numsAt (objs:List SObj) (o:Nat):List Nat:=match objs[o]? with
 | some x=>x.nums
 | none=>[]
def close (objs:List SObj):Nat→List Nat→List Nat
 | 0,l=>l
 | f+1,l=>match (l.flatMap (numsAt objs)).filter (fun o=>!l.contains o) with
  | []=>l
  | n=>close objs f (l++n.eraseDups)
def slotNums (σ:St) (t:Nat):List Nat:=match σ.slots[t]? with
 | some s=>s.nums
 | none=>[]
def looksIn (o:Oper):Bool:=match o.op with
 | .load .. | .store .. | .indexAddr .. | .slice .. | .binOp .. | .buildSlice .. | .call _=>true
 | _=>false
def reads (o:Oper) (σ:St):List Nat :=
 let l:=(operTmps o).flatMap (slotNums σ)
 if isCallV o then close σ.objs 4 l else if looksIn o then l else []
structure Itm where
 o:Oper
 nb:Nat
 vb:Nat
 kn:List (E × Bool)
 δ:Option Delta
 rd:List Nat
 deriving Inhabited
def resv (o:Oper) (δ:Delta):Nat:=max δ.new.length (if makes o then 1 else 0)
def Itm.wr (it:Itm):List Nat:=match it.δ with
 | some δ=>δ.upd.map (·.1)++δ.fz++(List.range (resv it.o δ)).map (·+it.nb)
 | none=>[]
def stepD (σ:St) (o:Oper) (δ:Delta):St :=
 let objs:=σ.objsOf δ++List.replicate (resv o δ - δ.new.length) .dead
 { slots:=match o.dst with | some t=>σ.slots.set t δ.dst | none=>σ.slots
   objs:=objs,nv:=σ.nv+δ.dn,known:=σ.known,nb:=objs.length,vb:=σ.nv+δ.dn }
def lowT (n:Nat):T→Bool
 | .leaf _=>true
 | .ck c t=>c.low n&&lowT n t
 | .call _ _ _ (.leaf _)=>true
 | _=>false
def graft:T→(Delta→T)→T
 | .leaf δ,K=>K δ
 | .ck c t,K=>.ck c (graft t K)
 | .call g n as (.leaf δ),K=>.call g n as (K δ)
 | _,_=>.fail 171
def Itm.fine (it:Itm) (objs:List SObj):Bool:=match it.δ with
 | some δ=>δ.upd.all (fun p=>decide (p.1 < it.nb))&&δ.fz.all (fun o=>decide (o < it.nb))&&it.rd.all (fun o=>decide (o < it.nb))&&(!isCallV it.o || it.rd.all fun o=>(numsAt objs o).all it.rd.contains)
 | none=>true
def guardLow (ops:Array Oper) (o:Oper) (σ:St):Bool:=match o.guard with
 | none=>true
 | some (j,_)=>match (ops[j]?).bind (·.dst) with
  | some t=>(match σ.slots[t]? with
   | some s=>s.low σ.nv
   | none=>true)
  | none=>true
def showFail (n:Nat):T→T
 | .fail k=>.fail k
 | .miss g as os=>.miss g as os
 | .ck _ t=>showFail n t
 | _=>.fail n
def tdn:T→Nat
 | .call _ n _ _=>n
 | .ck _ t=>tdn t
 | _=>0
def noCall:T→Bool
 | .ck _ t=>noCall t
 | .leaf _=>true
 | _=>false
def drGo (o:Oper) (σ:St) (t:T) (K:Itm→Delta→T):T :=
 if (lowT σ.nv t&&(isCallV o || noCall t))&&σ.known.all (fun p=>p.1.low σ.nv) then graft t fun δ =>
  let it:Itm:={ o,nb:=σ.nb,vb:=σ.vb,kn:=σ.known,δ:=some δ,rd:=reads o σ }
  if it.fine σ.objs&&decide (δ.dn=tdn t) then K it δ else .fail 173
 else showFail 172 t
def drOps (env:Env) (ops:Array Oper):List Oper→St→List Itm→(St→List Itm→T)→T
 | [],σ,acc,K'=>K' σ acc
 | o::r,σ,acc,K'=>if guardLow ops o σ then withGuard ops o σ
  (fun σ=>drGo o σ (ostep env o σ .leaf) fun it δ=>drOps env ops r (stepD σ o δ) (acc++[it]) K')
  (fun σ=>drOps env ops r (skipSt σ o.dst) (acc++[{ o,nb:=σ.nb,vb:=σ.vb,kn:=σ.known,δ:=none,rd:=[] }]) K')
  else .fail 175
def bindPreds (o:Oper):List Nat:=o.after.toList.filterMap fun e=>if Region.binds .any e then some e.on else none
def looksOf (ops:Array Oper) (o:Oper):List Nat:=operTmps o++(match o.guard with
 | some (j,_)=>((ops[j]?).bind (·.dst)).toList
 | none=>[])
def apart (ops:Array Oper) (a b:Itm):Bool :=
 (match a.o.dst with
   | some d=>!(looksOf ops b.o).contains d&&b.o.dst != some d
   | none=>true) &&
 (match b.o.dst with
   | some d=>!(looksOf ops a.o).contains d
   | none=>true) &&
 a.wr.all (fun p=>!b.rd.contains p&&!b.wr.contains p)&&b.wr.all (fun p=>!a.rd.contains p)
def apartAll (ops:Array Oper):List Itm→Nat→List (Itm × List Nat)→Bool
 | [],_,_=>true
 | b::r,k,done =>
  let ds:=bindPreds b.o
  let anc:=ds++ds.flatMap fun d=>match done[d]? with | some x=>x.2 | none=>[]
  ds.all (fun d=>decide (d < k))&&(done.zipIdx.all fun (x,i)=>anc.contains i || apart ops x.1 b)&&apartAll ops r (k+1) (done++[(b,anc.eraseDups)])
def sxDraw (env:Env) (ops:Array Oper) (σ:St) (K' : St→T):T :=
 if σ.low then drOps env ops ops.toList σ [] fun σ' its=>if apartAll ops its 0 [] then K' σ' else .fail 170 else .fail 176
/-! ### Which slots a loop's head keeps -/
def exposedOps:List Oper→List Nat→List Nat
 | [],_=>[]
 | o::r,done=>(operTmps o).filter (fun t=>!done.contains t)++exposedOps r (o.dst.toList++done)
def exposed:Code→List Nat
 | .region _ ops _=>exposedOps ops.toList []
 | .seq a b=>exposed a++exposed b
 | .cond _ a b=>exposed a++exposed b
 | .block _ c=>exposed c
 | .loop c=>exposed c
 | .scope c=>exposed c
 | _=>[]
def assigned:Code→List Nat
 | .region _ ops _=>ops.toList.filterMap (·.dst)
 | .seq a b=>assigned a++assigned b
 | .cond _ a b=>assigned a++assigned b
 | .block _ c=>assigned c
 | .loop c=>assigned c
 | .scope c=>assigned c
 | _=>[]
def baseOf (ops:List Oper):Nat→Nat→Nat
 | 0,t=>t
 | n+1,t=>match ops.find? (fun o=>o.dst == some t) with
  | some o=>(match o.op with
   | .fieldAddr _ (.tmp x) _=>baseOf ops n x
   | .indexAddr _ (.tmp x) _=>baseOf ops n x
   | .move (.tmp x)=>baseOf ops n x
   | .nilCheck (.tmp x)=>baseOf ops n x
   | .load _ (.tmp x)=>baseOf ops n x
   | _=>t)
  | none=>t
def writesOps (ops:List Oper):List Nat:=ops.flatMap fun o=>match o.op with
 | .store _ (.tmp a) _=>[baseOf ops 50 a]
 | .call c=>(match c.callee with
  | .builtin .append=>(match c.args.toList with | .tmp a::_=>[baseOf ops 50 a] | _=>[])
  | .builtin .clear=>(match c.args.toList with | .tmp a::_=>[baseOf ops 50 a] | _=>[])
  | .value f=>(match f with | .tmp a=>[baseOf ops 50 a] | _=>[])++c.args.toList.filterMap fun | .tmp a=>some (baseOf ops 50 a) | _=>none
  | _=>[])
 | .slice _ (.tmp a) _ _ _=>[baseOf ops 50 a]
 | _=>[]
def writes:Code→List Nat
 | .region _ ops _=>writesOps ops.toList
 | .seq a b=>writes a++writes b
 | .cond _ a b=>writes a++writes b
 | .block _ c=>writes c
 | .loop c=>writes c
 | .scope c=>writes c
 | _=>[]
structure H where
 dict:List (E × Nat)
 n:Nat
 obs:List Nat
 fresh:List SObj
 dt:List TypeId
 deriving Repr,Inhabited
def hE (chg:Bool) (x:E) (h:H):E × H :=
 if chg then (.v h.n,{ h with n:=h.n+1 })
 else if isLit x then (x,h)
 else match h.dict.find? (fun p=>p.1 == x) with
  | some (_,i)=>(.v i,h)
  | none=>(.v h.n,{ h with dict:=(x,h.n)::h.dict,n:=h.n+1 })
def hO (o:Nat) (h:H):Nat × H:=match h.obs.findIdx? (· == o) with
 | some i=>(i,h)
 | none=>(h.obs.length,{ h with obs:=h.obs++[o] })
def hKE (chg:Bool):List (K × E)→H→List (K × E) × H
 | [],h=>([],h)
 | (k,x)::r,h=>let (x',h):=hE chg x h; let (r',h):=hKE chg r h; ((k,x')::r',h)
def hCaps (objs:List SObj):List Cap→H→List Cap × H
 | [],h=>([],h)
 | .p o::r,h=>(match objs[o]? with
  | some (.fbox ks)=>let (ks',h):=hKE false ks h; let (r',h):=hCaps objs r h; (.r ks'::r',h)
  | _=>let (i,h):=hO o h; let (r',h):=hCaps objs r h; (.p i::r',h))
 | .r ks::r,h=>let (ks',h):=hKE false ks h; let (r',h):=hCaps objs r h; (.r ks'::r',h)
def h1 (objs:List SObj) (chg:Bool) (a:SV1) (h:H):SV1 × H:=match a with
 | .e k x=>let (x',h):=hE chg x h; (.e k x',h)
 | .nil t=>if chg then let i:=h.obs.length; (if h.dt.contains t then (.dp i,{ h with obs:=h.obs++[2000000+t] }) else (.own i,{ h with obs:=h.obs++[1000000+t] })) else (.nil t,h)
 | .dp o=>(match objs[o]? with
  | some (.deep _ _)=>let (i,h):=hO o h; (.dp i,h)
  | _=>(.u,h))
 | .p o off=>(match objs[o]?,off with
  | some (.fbox ks),0=>let (ks',h):=hKE false ks h; (.r ks',h)
  | _,off=>let (i,h):=hO o h; (.p i off,h))
 | .ow o sz lo=>(match objs[o]? with
  | some (.row _ _)=>let (i,h):=hO o h; let (lo',h):=hE chg lo h; (.ow i sz lo',h)
  | _=>(.u,h))
 | .own o=>(match objs[o]? with
  | some (.row _ _)=>let (i,h):=hO o h; (.own i,h)
  | some (.fro t x)=>let (x',h):=hE chg x h; (.e (.sl t) x',h)
  | _=>(.u,h))
 | .fn g cs=>let (cs',h):=hCaps objs cs h; (.fn g cs',h)
 | .r ks=>if chg then (.u,h) else let (ks',h):=hKE false ks h; (.r ks',h)
 | _=>(.u,h)
def h1s (objs:List SObj) (chg:Bool):List SV1→H→List SV1 × H
 | [],h=>([],h)
 | a::r,h=>let (a',h):=h1 objs chg a h; let (r',h):=h1s objs chg r h; (a'::r',h)
def hSlots (objs:List SObj) (keep chg:List Nat):List Slot→Nat→H→List Slot × H
 | [],_,h=>([],h)
 | s::r,i,h =>
  let (s',h):Slot × H:=if keep.contains i then (match s with
   | .v (.c a)=>let (a',h):=h1 objs (chg.contains i) a h; (.v (.c a'),h)
   | .v (.ag l)=>let (l',h):=h1s objs (chg.contains i) l h; (.v (.ag l'),h)
   | _=>(.no,h)) else (.no,h)
  let (r',h):=hSlots objs keep chg r (i+1) h
  (s'::r',h)
def hObjs (objs:List SObj) (chgO:List Nat):Nat→Nat→H→List SObj × H
 | 0,_,h=>([],h)
 | f+1,i,h=>match h.obs[i]? with
  | none=>([],h)
  | some o =>
   let (x,h):SObj × H:=if 3000000≤o then (.dead,h) else if 2000000≤o then (.deep (o - 2000000) (.v h.n),{ h with n:=h.n+1 }) else if 1000000≤o then (.row (o - 1000000) (.v h.n),{ h with n:=h.n+1 }) else match objs[o]? with
    | some (.box cs)=>let (cs',h):=h1s objs (chgO.contains o) cs h; (.box cs',h)
    | some (.row t y)=>let (y',h):=hE (chgO.contains o) y h; (.row t y',h)
    | some (.deep t y)=>let (y',h):=hE (chgO.contains o) y h; (.deep t y',h)
    | _=>(.dead,h)
   let (r,h):=hObjs objs chgO f (i+1) h
   (x::r,h)
def slotObjs (σ:St) (ts:List Nat):List Nat:=ts.flatMap fun (t:Nat)=>match (σ.slots[t]? : Option Slot) with
 | some (.v a)=>a.cells.flatMap fun (x:SV1)=>match x with | .p o _=>[o] | .own o=>[o] | .ow o _ _=>[o] | .dp o=>[o] | .pd o _ _ _=>[o] | .nst o _ _ _ _=>[o] | .pn o _ _ _ _ _=>[o] | .fn _ cs=>cs.filterMap (fun (c:Cap)=>match c with | .p o=>some o | _=>none) | _=>[]
 | _=>[]
def objObjs (objs:List SObj) (os:List Nat):List Nat:=os++os.flatMap fun (o:Nat)=>match (objs[o]? : Option SObj) with
 | some (.box cs)=>cs.flatMap fun (x:SV1)=>match x with | .p o _=>[o] | .own o=>[o] | .dp o=>[o] | _=>[]
 | _=>[]
def datSlots (objs:List SObj) (dat:List Nat) (l:List Slot):List Slot:=l.zipIdx.map fun (s,i)=>if dat.contains i then (match s with
 | .v (.c a)=>(match dataOf objs a with
  | some ((k,x),_)=>.v (.c (.e k x))
  | none=>s)
 | s=>s) else s
def mkHead (dt:List TypeId) (ren:List Nat) (nk:Nat) (dat:List Nat) (σ0:St) (keep:List Nat) (body:Code):List Slot × List SObj × Nat :=
 let σ:={ σ0 with slots:=datSlots σ0.objs dat σ0.slots }
 let chg:=assigned body++dat.filterMap fun d=>if 1000≤d then some (d - 1000) else none
 let chgO:=objObjs σ.objs (slotObjs σ (writes body++chg))
 let (s,h):=hSlots σ.objs keep chg σ.slots 0 { dict:=[],n:=0,obs:=(List.range nk).map fun o=>if ren.contains o then 3000000 else o,fresh:=[],dt }
 let (o,h):=hObjs σ.objs chgO 200 0 h
 (s,o,h.n)
/-! ### Code -/
inductive Ex where
 | normal | exit (n:Nat) | ret
 deriving DecidableEq,Repr,Inhabited
def evalCond (σ:St) (c:Operand) (yes no:St→T):T:=match look σ 0 c with
 | .v (.c (.e .bool x))=>decide1 σ x yes no
 | _=>.fail 120
def sx (env:Env) (me nk:Nat) (dat keep:List Nat):(bid:Nat)→Code→St→(Ex→St→T)→T
 | _,.skip,σ,K'=>K' .normal σ
 | _,.label _,σ,K'=>K' .normal σ
 | _,.region _ ops d,σ,K'=>if d then sxDraw env ops σ (K' .normal) else sxOps env ops ops.toList σ (K' .normal)
 | b,.seq x y,σ,K'=>sx env me nk dat keep b x σ fun ex σ=>match ex with
  | .normal=>sx env me nk dat keep b y σ K'
  | ex=>K' ex σ
 | b,.cond c x y,σ,K'=>evalCond σ c (fun σ=>sx env me nk dat keep b x σ K') (fun σ=>sx env me nk dat keep b y σ K')
 | _,.block id c,σ,K'=>sx env me nk dat keep id c σ fun ex σ=>if ex=.exit id then K' .normal σ else K' ex σ
 | _,.exit id,σ,K'=>K' (.exit id) σ
 | _,.ret,σ,K'=>K' .ret σ
 | b,.loop c,σ,K' =>
  let (hs,ho,n):=mkHead env.deepT env.ren nk dat σ keep c
  match mtch nk env.ti hs ho n σ.slots σ.objs with
  | none=>.fail 130
  | some (th,_,_) =>
   .loop (me * 100+b+1) th (sx env me nk dat keep b c { slots:=hs,objs:=ho,nv:=n,known:=[],nb:=ho.length,vb:=n } fun ex σ'=>match ex with
    | .normal=>(match mtch nk env.ti hs ho n σ'.slots σ'.objs with
     | some (th,_,_)=>.jump (me * 100+b+1) th
     | none=>.fail 131)
    | ex=>K' ex σ')
 | _,_,_,_=>.fail 140
def resultOf (ti:TypeId→TI) (σ:St):ResultVar→Option SV
 | .tmp t=>(match σ.slots[t]? with | some (.v v)=>some v | _=>none)
 | .cell a t=>(match σ.slots[a]? with
  | some (.v (.c (.p o 0)))=>(match σ.objs[o]? with
   | some (.box cs)=>mkSV ti t cs
   | _=>none)
  | _=>none)
def resultTmps (fn:Func):List Nat:=fn.results.toList.map fun | .tmp t=>t | .cell a _=>a
def enter (s:Sig) (fn:Func):St:={ slots:=s.inS++List.replicate (fn.ntmps - s.inS.length) .no,objs:=s.inO,nv:=s.nIn,known:=[],nb:=s.inO.length,vb:=s.nIn }
def resultsOf (ti:TypeId→TI) (σ:St):List ResultVar→Option (List SV)
 | []=>some []
 | x::r=>match resultOf ti σ x,resultsOf ti σ r with
  | some v,some l=>some (v::l)
  | _,_=>none
def finish (env:Env) (s:Sig) (fn:Func) (σ:St):T:=match resultsOf env.ti σ fn.results.toList with
 | some vs=>(match mtch s.inO.length env.ti (s.outS.map .v) s.outO s.nOut (vs.map .v) σ.objs with
  | some (th,_,_)=>.ret th
  | none=>.fail 150)
 | none=>.fail 151
def sxFun (env:Env) (i:Nat):T:=match env.sigs[i]? with
 | some s=>(match env.funcs s.f with
  | some fn=>(match fn.body with
   | some c=>sx { env with deepT:=(env.deepF.filter fun p=>p.1 == s.f).map (·.2),ren:=(s.outO.take s.inO.length).zipIdx.filterMap fun (x,o)=>if x=.dead then some o else none } i s.inO.length ((env.dat.filter fun p=>p.1 == s.f).map (·.2)) (exposed c++resultTmps fn) 99 c (enter s fn) fun ex σ=>match ex with
    | .exit _=>.fail 160
    | _=>finish env s fn σ
   | none=>.fail 161)
  | none=>.fail 162)
 | none=>.fail 163
def strip:T→T
 | .br c t f=>.br c (strip t) (strip f)
 | .am c t f=>.am c (strip t) (strip f)
 | .ck c t=>.ck c (strip t)
 | .call g n as t=>.call g n as (strip t)
 | .loop l as _=>.jump l as
 | t=>t
def loops:T→List (Nat × T)
 | .br _ t f=>loops t++loops f
 | .am _ t f=>loops t++loops f
 | .ck _ t=>loops t
 | .call _ _ _ t=>loops t
 | .loop l _ b=>(l,strip b)::loops b
 | _=>[]
def fails:T→List Nat
 | .fail n=>[n]
 | .br _ t f=>fails t++fails f
 | .am _ t f=>fails t++fails f
 | .ck _ t=>fails t
 | .call _ _ _ t=>fails t
 | .loop _ _ b=>fails b
 | _=>[]
end Go.SX
