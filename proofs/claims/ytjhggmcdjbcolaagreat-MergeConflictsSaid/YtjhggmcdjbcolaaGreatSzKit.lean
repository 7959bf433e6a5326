/-
Words for what trees compute on plain data: how a tree's steps are written out; numbers that do not wrap; elements of lists.
-/
import Derived.Test.YtjhggmcdjbcolaaGreatSzGo
import Derived.WalkKit
set_option linter.unusedVariables false
set_option linter.unusedSimpArgs false
set_option linter.unusedSectionVars false
namespace Go.SX
def callK (o:Option (List D)) (n:Nat) (k:List D→Option (List D)):Option (List D):=match o with
 | some rs=>if rs.length=n then k rs else none
 | none=>none
section
variable {a b c d e f g:D} {k:List D→Option (List D)}
@[go_sem] theorem callK1:callK (some [a]) 1 k=k [a]:=rfl
@[go_sem] theorem callK2:callK (some [a,b]) 2 k=k [a,b]:=rfl
@[go_sem] theorem callK3:callK (some [a,b,c]) 3 k=k [a,b,c]:=rfl
@[go_sem] theorem callK4:callK (some [a,b,c,d]) 4 k=k [a,b,c,d]:=rfl
@[go_sem] theorem callK5:callK (some [a,b,c,d,e]) 5 k=k [a,b,c,d,e]:=rfl
@[go_sem] theorem callK6:callK (some [a,b,c,d,e,f]) 6 k=k [a,b,c,d,e,f]:=rfl
@[go_sem] theorem callK7:callK (some [a,b,c,d,e,f,g]) 7 k=k [a,b,c,d,e,f,g]:=rfl
end
section
variable {ev:Nat→List D→Option (List D)} {ν:List D}
@[go_sem] theorem go_fail (n:Nat):(T.fail n).go ev ν=none:=rfl
@[go_sem] theorem go_br (c:E) (t f:T):(T.br c t f).go ev ν=cond (c.den ν).toBool (t.go ev ν) (f.go ev ν):=by
 show (if (c.den ν).toBool=true then _ else _)=_
 cases (c.den ν).toBool <;> rfl
@[go_sem] theorem go_am (c:E) (t f:T):(T.am c t f).go ev ν=if (c.den ν).toList=[] then (open Classical in if t.go ev ν=f.go ev ν then f.go ev ν else none) else f.go ev ν:=rfl
theorem go_am_eq (c:E) (t f:T) (h:(c.den ν).toList=[]→t.go ev ν=f.go ev ν):(T.am c t f).go ev ν=f.go ev ν:=by
 rw [T.go]
 split
 · rename_i hc
   rw [if_pos (h hc)]
 · rfl
@[go_sem] theorem go_ck (c:E) (t:T):(T.ck c t).go ev ν=cond (c.den ν).toBool (t.go ev ν) none:=by
 show (if (c.den ν).toBool=true then _ else _)=_
 cases (c.den ν).toBool <;> rfl
@[go_sem] theorem go_call (g n:Nat) (as:List E) (t:T):(T.call g n as t).go ev ν=callK (ev g (as.map (E.den ν))) n fun rs=>t.go ev (ν++rs):=rfl
@[go_sem] theorem go_jump (l:Nat) (as:List E):(T.jump l as).go ev ν=ev l (as.map (E.den ν)):=rfl
@[go_sem] theorem go_ret (xs:List E):(T.ret xs).go ev ν=some (xs.map (E.den ν)):=rfl
@[go_sem] theorem den_v (j:Nat):(E.v j).den ν=ν.getD j default:=rfl
@[go_sem] theorem den_i (n:Int):(E.i n).den ν=.int n:=rfl
@[go_sem] theorem den_b (x:Bool):(E.b x).den ν=.bool x:=rfl
@[go_sem] theorem den_s (x:List UInt8):(E.s x).den ν=.str ⟨x.toArray⟩:=rfl
@[go_sem] theorem den_nil:E.nil.den ν=.list []:=rfl
@[go_sem] theorem den_anil:E.anil.den ν=.agg []:=rfl
@[go_sem] theorem den_o1 (o:O1) (x:E):(E.o1 o x).den ν=o.den (x.den ν):=rfl
@[go_sem] theorem den_o2 (o:O2) (x y:E):(E.o2 o x y).den ν=o.den (x.den ν) (y.den ν):=rfl
@[go_sem] theorem den_o3 (o:O3) (x y z:E):(E.o3 o x y z).den ν=o.den (x.den ν) (y.den ν) (z.den ν):=rfl
end
@[go_sem] theorem toInt_int (n:Int):(D.int n).toInt=n:=rfl
@[go_sem] theorem toBool_bool (b:Bool):(D.bool b).toBool=b:=rfl
@[go_sem] theorem toStr_str (s:ByteArray):(D.str s).toStr=s:=rfl
@[go_sem] theorem toList_list (l:List D):(D.list l).toList=l:=rfl
@[go_sem] theorem cells_agg (l:List D):(D.agg l).cells=l:=rfl
def ltI (a b:Int):Bool:=decide (a < b)
def leI (a b:Int):Bool:=decide (a≤b)
def eqI (a b:Int):Bool:=decide (a=b)
def eqS (a b:ByteArray):Bool:=decide (a=b)
@[go_sem] theorem ltI_iff (a b:Int):(ltI a b=true)=(a < b):=by simp [ltI]
@[go_sem] theorem leI_iff (a b:Int):(leI a b=true)=(a≤b):=by simp [leI]
@[go_sem] theorem eqI_iff (a b:Int):(eqI a b=true)=(a=b):=by simp [eqI]
@[go_sem] theorem eqS_iff (a b:ByteArray):(eqS a b=true)=(a=b):=by simp [eqS]
theorem ltI_false (a b:Int):(ltI a b=false)=(b≤a):=by simp [ltI]
theorem leI_false (a b:Int):(leI a b=false)=(b < a):=by simp [leI]
theorem eqI_false (a b:Int):(eqI a b=false)=(¬ a=b):=by simp [eqI]
theorem eqS_false (a b:ByteArray):(eqS a b=false)=(¬ a=b):=by simp [eqS]
@[go_sem] theorem and_iff (a b:Bool):((a&&b)=true)=(a=true∧b=true):=by simp
section
variable (a b c:D) (k:IntKind)
@[go_sem] theorem o_not:O1.not.den a=.bool (!a.toBool):=rfl
@[go_sem] theorem o_len:O1.len.den a=.int a.toList.length:=rfl
@[go_sem] theorem o_slen:O1.slen.den a=.int a.toStr.size:=rfl
@[go_sem] theorem o_wrap:(O1.wrap k).den a=.int (k.wrap a.toInt):=rfl
@[go_sem] theorem o_cell (j:Nat):(O1.cell j).den a=a.cells.getD j default:=rfl
@[go_sem] theorem o_one:O1.one.den a=.list [a]:=rfl
@[go_sem] theorem o_isnil:O1.isnil.den a=.bool a.toList.isEmpty:=rfl
@[go_sem] theorem o_add:(O2.add k).den a b=.int (k.wrap (a.toInt+b.toInt)):=rfl
@[go_sem] theorem o_sub:(O2.sub k).den a b=.int (k.wrap (a.toInt - b.toInt)):=rfl
@[go_sem] theorem o_mul:(O2.mul k).den a b=.int (k.wrap (a.toInt * b.toInt)):=rfl
@[go_sem] theorem o_lt:O2.lt.den a b=.bool (ltI a.toInt b.toInt):=rfl
@[go_sem] theorem o_le:O2.le.den a b=.bool (leI a.toInt b.toInt):=rfl
@[go_sem] theorem o_eqi:O2.eqi.den a b=.bool (eqI a.toInt b.toInt):=rfl
@[go_sem] theorem o_eqb:O2.eqb.den a b=.bool (a.toBool == b.toBool):=rfl
@[go_sem] theorem o_eqs:O2.eqs.den a b=.bool (eqS a.toStr b.toStr):=by
 unfold eqS
 show D.bool (a.toStr.toList == b.toStr.toList)=_
 congr 1
 rw [Bool.eq_iff_iff,beq_iff_eq,decide_eq_true_eq,ByteArray.toList_eq,ByteArray.toList_eq,Array.toList_inj]
 constructor
 · intro h
   cases ha:a.toStr
   cases hb:b.toStr
   rw [ha,hb] at h
   simp only at h
   rw [h]
 · intro h; rw [h]
@[go_sem] theorem o_idx:O2.idx.den a b=a.toList.getD b.toInt.toNat default:=rfl
@[go_sem] theorem o_sidx:O2.sidx.den a b=.int (byteAt a.toStr b.toInt.toNat):=rfl
@[go_sem] theorem o_app:O2.app.den a b=.list (a.toList++b.toList):=rfl
@[go_sem] theorem o_acons:O2.acons.den a b=.agg (a::b.cells):=rfl
@[go_sem] theorem o_cat:O2.cat.den a b=.str (a.toStr++b.toStr):=rfl
@[go_sem] theorem o_take:O2.take.den a b=.list (a.toList.take b.toInt.toNat):=rfl
@[go_sem] theorem o_drop:O2.drop.den a b=.list (a.toList.drop b.toInt.toNat):=rfl
@[go_sem] theorem o_land:O2.land.den a b=.bool (a.toBool&&b.toBool):=rfl
@[go_sem] theorem o_set:O3.set.den a b c=.list (a.toList.set b.toInt.toNat c):=rfl
@[go_sem] theorem o_ssub:O3.ssub.den a b c=.str (a.toStr.extract b.toInt.toNat c.toInt.toNat):=rfl
end
@[go_sem] theorem getD_zero {α:Type} (a:α) (l:List α) (d:α):(a::l).getD 0 d=a:=rfl
@[go_sem] theorem getD_succ {α:Type} (a:α) (l:List α) (n:Nat) (d:α):(a::l).getD (n+1) d=l.getD n d:=rfl
@[go_sem] theorem map_nil' {α β:Type} (f:α→β):[].map f=[]:=rfl
@[go_sem] theorem map_cons' {α β:Type} (f:α→β) (a:α) (l:List α):(a::l).map f=f a::l.map f:=rfl
@[go_sem] theorem app_nil' {α:Type} (l:List α):[]++l=l:=rfl
@[go_sem] theorem app_cons' {α:Type} (a:α) (l m:List α):(a::l)++m=a::(l++m):=rfl
attribute [go_sem] Int.toNat_natCast
@[go_sem] theorem toNat0:(0:Int).toNat=0:=rfl
@[go_sem] theorem toNat1:(1:Int).toNat=1:=rfl
@[go_sem] theorem toNat2:(2:Int).toNat=2:=rfl
section
variable {α:Type} {x y r:α} {b c:Bool} {i n:Int}
@[go_sem] theorem cond_t:cond true x y=x:=rfl
@[go_sem] theorem cond_f:cond false x y=y:=rfl
theorem cond_pos (h:b=true):cond b x y=x:=by rw [h]; rfl
theorem cond_neg (h:b=false):cond b x y=y:=by rw [h]; rfl
theorem cond_lt (h:i < n):cond (ltI i n) x y=x:=cond_pos (by rw [ltI_iff]; exact h)
theorem cond_nlt (h:n≤i):cond (ltI i n) x y=y:=cond_neg (by rw [ltI_false]; exact h)
theorem cond_le (h:i≤n):cond (leI i n) x y=x:=cond_pos (by rw [leI_iff]; exact h)
theorem cond_nle (h:n < i):cond (leI i n) x y=y:=cond_neg (by rw [leI_false]; exact h)
theorem cond_eq (h:i=n):cond (eqI i n) x y=x:=cond_pos (by rw [eqI_iff]; exact h)
theorem cond_ne (h:i≠n):cond (eqI i n) x y=y:=cond_neg (by rw [eqI_false]; exact h)
theorem cond_in (h1:0≤i) (h2:i < n):cond (leI 0 i&&ltI i n) x y=x:=cond_pos (by rw [and_iff,leI_iff,ltI_iff]; exact ⟨h1,h2⟩)
theorem ltI_irr (n:Int):ltI n n=false:=by rw [ltI_false]; exact Int.le_refl n
theorem cond_split (h1:b=true→x=r) (h2:b=false→y=r):cond b x y=r:=by
 cases b
 · exact h2 rfl
 · exact h1 rfl
theorem cond_ex {p:α→Prop} (h1:b=true→p x) (h2:b=false→p y):p (cond b x y):=by
 cases b
 · exact h2 rfl
 · exact h1 rfl
end
theorem nowrap {n:Int} (h1 : -9223372036854775808≤n) (h2:n≤9223372036854775807):IntKind.i64.wrap n=n:=by
 simp only [IntKind.wrap,IntKind.signed,IntKind.bits]
 simp
 omega
theorem wrapS (i:Nat) (h:i≤4611686018427387904):IntKind.i64.wrap ((i:Int)+1)=((i+1:Nat):Int):=by
 rw [nowrap (by omega) (by omega)]
 rfl
theorem idx_map {α:Type} [Inhabited α] (f:α→D) (l:List α) (i:Nat) (h:i < l.length):(l.map f).getD i default=f (l.getD i default):=by
 simp [List.getD_eq_getElem?_getD,h]
theorem byteAt_nn (s:ByteArray) (i:Nat):0≤byteAt s i:=by
 unfold byteAt
 split
 · exact Int.natCast_nonneg _
 · exact Int.le_refl _
def scan (f:Nat→Int):Nat→Nat→Int
 | 0,_=>0
 | k+1,i=>if f i=0 then scan f k (i+1) else f i
theorem scan_end (f:Nat→Int) (n:Nat):scan f (n - n) n=0:=by rw [Nat.sub_self]; rfl
theorem scan_step (f:Nat→Int) {n i:Nat} (h:i < n):scan f (n - i) i=if f i=0 then scan f (n - (i+1)) (i+1) else f i:=by
 rw [show n - i=(n - (i+1))+1 by omega]
 rfl
theorem scan_congr {f g:Nat→Int}:∀ (k i:Nat),(∀ j,i≤j→j < i+k→(∀ q,i≤q→q < j→f q=0)→f j=g j)→scan f k i=scan g k i
 | 0,_,_=>rfl
 | k+1,i,h=>by
  rw [scan,scan,←h i (Nat.le_refl _) (by omega) (fun q h1 h2=>by omega)]
  split
  · rename_i h0
    refine scan_congr k (i+1) fun j h1 h2 hq=>h j (by omega) (by omega) fun q h3 h4=>?_
    by_cases hqi:q=i
    · rw [hqi]; exact h0
    · exact hq q (by omega) h4
  · rfl
theorem scan_zero {f:Nat→Int}:∀ (k i:Nat),scan f k i=0→∀ j,i≤j→j < i+k→f j=0
 | 0,i,_,j,h1,h2=>by omega
 | k+1,i,h,j,h1,h2=>by
  rw [scan] at h
  split at h
  · rename_i h0
    by_cases hji:j=i
    · rw [hji]; exact h0
    · exact scan_zero k (i+1) h j (by omega) (by omega)
  · rename_i h0; exact absurd h h0
def allK (p:Nat→Bool):Nat→Nat→Bool
 | 0,_=>true
 | k+1,i=>p i&&allK p k (i+1)
theorem allK_end (p:Nat→Bool) (n:Nat):allK p (n - n) n=true:=by rw [Nat.sub_self]; rfl
theorem allK_step (p:Nat→Bool) {n i:Nat} (h:i < n):allK p (n - i) i=(p i&&allK p (n - (i+1)) (i+1)):=by
 rw [show n - i=(n - (i+1))+1 by omega]
 rfl
theorem allK_iff {p:Nat→Bool}:∀ (k i:Nat),allK p k i=true ↔ ∀ j,i≤j→j < i+k→p j=true
 | 0,i=>by
  constructor
  · intro _ j h1 h2; omega
  · intro _; rfl
 | k+1,i=>by
  rw [allK,Bool.and_eq_true,allK_iff k (i+1)]
  constructor
  · intro ⟨h1,h2⟩ j h3 h4
    by_cases hji:j=i
    · rw [hji]; exact h1
    · exact h2 j (by omega) (by omega)
  · intro h
    exact ⟨h i (Nat.le_refl _) (by omega),fun j h1 h2=>h j (by omega) (by omega)⟩
def findK (p:Nat→Bool):Nat→Nat→Int
 | 0,_ => -1
 | k+1,i=>if p i then i else findK p k (i+1)
theorem findK_end (p:Nat→Bool) (n:Nat):findK p (n - n) n = -1:=by rw [Nat.sub_self]; rfl
theorem findK_step (p:Nat→Bool) {n i:Nat} (h:i < n):findK p (n - i) i=if p i then (i:Int) else findK p (n - (i+1)) (i+1):=by
 rw [show n - i=(n - (i+1))+1 by omega]
 rfl
def anyK (p:Nat→Bool):Nat→Nat→Bool
 | 0,_=>false
 | k+1,i=>p i || anyK p k (i+1)
theorem findK_any (p:Nat→Bool):∀ (k i:Nat),decide (0≤findK p k i)=anyK p k i
 | 0,i=>rfl
 | k+1,i=>by
  rw [findK,anyK,←findK_any p k (i+1)]
  cases p i <;> simp
theorem anyK_end (p:Nat→Bool) (n:Nat):anyK p (n - n) n=false:=by rw [Nat.sub_self]; rfl
theorem anyK_step (p:Nat→Bool) {n i:Nat} (h:i < n):anyK p (n - i) i=(p i || anyK p (n - (i+1)) (i+1)):=by
 rw [show n - i=(n - (i+1))+1 by omega]
 rfl
theorem anyK_congr {p q:Nat→Bool}:∀ (k i:Nat),(∀ j,i≤j→j < i+k→p j=q j)→anyK p k i=anyK q k i
 | 0,_,_=>rfl
 | k+1,i,h=>by
  rw [anyK,anyK,h i (Nat.le_refl _) (by omega),anyK_congr k (i+1) fun j h1 h2=>h j (by omega) (by omega)]
def runK (p:Nat→Bool):Nat→Nat→Nat
 | 0,i=>i
 | k+1,i=>if p i then runK p k (i+1) else i
theorem runK_end (p:Nat→Bool) (n:Nat):runK p (n - n) n=n:=by rw [Nat.sub_self]; rfl
theorem runK_step (p:Nat→Bool) {n i:Nat} (h:i < n):runK p (n - i) i=if p i then runK p (n - (i+1)) (i+1) else i:=by
 rw [show n - i=(n - (i+1))+1 by omega]
 rfl
theorem runK_le (p:Nat→Bool):∀ (k i:Nat),i≤runK p k i∧runK p k i≤i+k
 | 0,i=>⟨Nat.le_refl _,Nat.le_refl _⟩
 | k+1,i=>by
  rw [runK]
  split
  · have:=runK_le p k (i+1); omega
  · omega
theorem lm {α β:Type} {f:α→β} {l:List α}:(l.map f).length=l.length:=List.length_map f
end Go.SX
