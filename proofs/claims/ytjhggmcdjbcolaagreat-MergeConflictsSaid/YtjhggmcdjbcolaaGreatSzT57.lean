/-
The table of types and the shapes of the functions that chapter 57 reaches: printed by a program of this repo.
-/
import Derived.Test.YtjhggmcdjbcolaaGreatSzEqTy
import Derived.Test.YtjhggmcdjbcolaaGreatProg
import Derived.KernelRfl
set_option linter.unusedVariables false
set_option linter.unusedSimpArgs false
set_option linter.unusedSectionVars false
namespace Go.SX.T57
open Go.SX Go.Proofs
abbrev es (a b:Nat):SV1:=.e (.sl a) (.v b)
abbrev ei (b:Nat):SV1:=.e (.int .i64) (.v b)
def tyTab:List TI:=[
 .bad,
 .other,
 .one (.int .i64),
 .one (.int .i64),
 .one .bool,
 .one (.int .u8),
 .one (.int .u8),
 .ag true [some (.int .i64),some (.int .i64),some .bool,some (.int .u8)] [(0,1,false),(1,1,false),(2,1,false),(3,1,false)],
 .ag true [some (.int .i64),some (.int .i64),some .bool,some (.int .u8)] [(0,1,false),(1,1,false),(2,1,false),(3,1,false)],
 .one .str,
 .one .str,
 .one .str,
 .one (.int .u64),
 .ag true [some .str,some (.int .u64)] [(0,1,false),(1,1,false)],
 .ag true [some .str,some (.int .u64)] [(0,1,false),(1,1,false)],
 .other,
 .other,
 .other,
 .ag true [none] [(0,1,false)],
 .ag true [none] [(0,1,false)],
 .other,
 .one (.int .i32),
 .sl 129 true [.str,(.int .i64),.bool,(.sl 127)],
 .sl 131 true [.str,(.int .i64),(.int .i64),(.int .i64),(.int .i64),(.int .i64),(.int .i64)],
 .ag true [some (.sl 22),some (.sl 23)] [(0,1,false),(1,1,false)],
 .ag true [some (.sl 22),some (.sl 23)] [(0,1,false),(1,1,false)],
 .sl 3 false [(.int .i64)],
 .sl 133 true [(.int .i64),(.int .i64),(.int .i64)],
 .ag true [some (.sl 26),some (.sl 27)] [(0,1,false),(1,1,false)],
 .ag true [some (.sl 26),some (.sl 27)] [(0,1,false),(1,1,false)],
 .sl 26 false [(.sl 26)],
 .ag true [some (.sl 26),some (.sl 27),some (.sl 30)] [(0,2,true),(2,1,false)],
 .ag true [some (.sl 26),some (.sl 27),some (.sl 30)] [(0,2,true),(2,1,false)],
 .ag true [some (.sl 26),some (.sl 27),some (.sl 30),some (.sl 26),some (.sl 26),some (.int .i64)] [(0,3,true),(3,1,false),(4,1,false),(5,1,false)],
 .ag true [some (.sl 26),some (.sl 27),some (.sl 30),some (.sl 26),some (.sl 26),some (.int .i64)] [(0,3,true),(3,1,false),(4,1,false),(5,1,false)],
 .sl 79 true [(.int .i64),(.int .i64),(.sl 26)],
 .sl 84 true [(.int .i64),(.int .i64),(.int .i64),(.int .i64)],
 .sl 87 true [(.int .i64),(.int .i64),(.int .i64),(.int .i64)],
 .ag false [some (.int .i64),some (.int .i64)] [(0,1,false),(1,1,false)],
 .ag true [some (.sl 35),some (.sl 36),some (.sl 35),some (.sl 36),some (.sl 37),some (.int .i64),some (.int .i64)] [(0,1,false),(1,1,false),(2,1,false),(3,1,false),(4,1,false),(5,2,true)],
 .ag true [some (.sl 35),some (.sl 36),some (.sl 35),some (.sl 36),some (.sl 37),some (.int .i64),some (.int .i64)] [(0,1,false),(1,1,false),(2,1,false),(3,1,false),(4,1,false),(5,2,true)],
 .ag true [some (.sl 26),some (.sl 27),some (.sl 30),some (.sl 26),some (.sl 26),some (.int .i64),some (.sl 35),some (.sl 36),some (.sl 35),some (.sl 36),some (.sl 37),some (.int .i64),some (.int .i64),some (.sl 35),some (.sl 36),some (.sl 35),some (.sl 36),some (.sl 37),some (.int .i64),some (.int .i64)] [(0,6,true),(6,7,true),(13,7,true)],
 .ag true [some (.sl 26),some (.sl 27),some (.sl 30),some (.sl 26),some (.sl 26),some (.int .i64),some (.sl 35),some (.sl 36),some (.sl 35),some (.sl 36),some (.sl 37),some (.int .i64),some (.int .i64),some (.sl 35),some (.sl 36),some (.sl 35),some (.sl 36),some (.sl 37),some (.int .i64),some (.int .i64)] [(0,6,true),(6,7,true),(13,7,true)],
 .other,
 .other,
 .sl 53 true [(.int .i64),(.int .i64),(.int .i64)],
 .one (.int .i64),
 .bad,
 .other,
 .other,
 .other,
 .other,
 .ag true [some (.int .i64),some (.int .i64),some (.int .i64)] [(0,1,false),(1,1,false),(2,1,false)],
 .ag true [some (.int .i64),some (.int .i64),some (.int .i64)] [(0,1,false),(1,1,false),(2,1,false)],
 .other,
 .bad,
 .other,
 .other,
 .sl 158 true [(.int .u8),(.int .u8)],
 .sl 165 true [(.int .u8),(.int .u8),(.int .u8)],
 .ag true [some (.sl 58),some (.sl 59)] [(0,1,false),(1,1,false)],
 .ag true [some (.sl 58),some (.sl 59)] [(0,1,false),(1,1,false)],
 .ag true [some (.sl 58),some (.sl 58),some (.sl 58),some (.sl 59),some (.sl 59),some (.sl 59),some (.sl 59)] [(0,1,false),(1,1,false),(2,2,true),(4,1,false),(5,1,false),(6,1,false)],
 .ag true [some (.sl 58),some (.sl 58),some (.sl 58),some (.sl 59),some (.sl 59),some (.sl 59),some (.sl 59)] [(0,1,false),(1,1,false),(2,2,true),(4,1,false),(5,1,false),(6,1,false)],
 .bad,
 .other,
 .ag true [some (.sl 26),some (.sl 26)] [(0,1,false),(1,1,false)],
 .ag true [some (.sl 26),some (.sl 26)] [(0,1,false),(1,1,false)],
 .bad,
 .other,
 .other,
 .bad,
 .other,
 .other,
 .other,
 .other,
 .other,
 .other,
 .ag true [some (.int .i64),some (.int .i64),some (.sl 26)] [(0,1,false),(1,1,false),(2,1,false)],
 .ag true [some (.int .i64),some (.int .i64),some (.sl 26)] [(0,1,false),(1,1,false),(2,1,false)],
 .other,
 .other,
 .other,
 .ag true [some (.int .i64),some (.int .i64),some (.int .i64),some (.int .i64)] [(0,1,false),(1,1,false),(2,1,false),(3,1,false)],
 .ag true [some (.int .i64),some (.int .i64),some (.int .i64),some (.int .i64)] [(0,1,false),(1,1,false),(2,1,false),(3,1,false)],
 .other,
 .ag true [some (.int .i64),some (.int .i64),some (.int .i64),some (.int .i64)] [(0,1,false),(1,1,false),(2,1,false),(3,1,false)],
 .ag true [some (.int .i64),some (.int .i64),some (.int .i64),some (.int .i64)] [(0,1,false),(1,1,false),(2,1,false),(3,1,false)],
 .other,
 .other,
 .other,
 .other,
 .other,
 .bad,
 .other,
 .other,
 .other,
 .other,
 .other,
 .other,
 .other,
 .other,
 .other,
 .other,
 .other,
 .other,
 .bad,
 .other,
 .bad,
 .other,
 .other,
 .other,
 .other,
 .other,
 .other,
 .one (.int .u64),
 .bad,
 .other,
 .other,
 .other,
 .ag false [some (.sl 35),some (.sl 36),some (.sl 35),some (.sl 36),some (.sl 37),some (.int .i64),some (.int .i64),some (.sl 35),some (.sl 36),some (.sl 35),some (.sl 36),some (.sl 37),some (.int .i64),some (.int .i64)] [(0,7,true),(7,7,true)],
 .bad,
 .other,
 .other,
 .sl 9 false [.str],
 .ag true [some .str,some (.int .i64),some (.int .i64),some (.sl 124)] [(0,1,false),(1,1,false),(2,1,false),(3,1,false)],
 .ag true [some .str,some (.int .i64),some (.int .i64),some (.sl 124)] [(0,1,false),(1,1,false),(2,1,false),(3,1,false)],
 .sl 126 true [.str,(.int .i64),(.int .i64),(.sl 124)],
 .ag true [some .str,some (.int .i64),some .bool,some (.sl 127)] [(0,1,false),(1,1,false),(2,1,false),(3,1,false)],
 .ag true [some .str,some (.int .i64),some .bool,some (.sl 127)] [(0,1,false),(1,1,false),(2,1,false),(3,1,false)],
 .ag true [some .str,some (.int .i64),some (.int .i64),some (.int .i64),some (.int .i64),some (.int .i64),some (.int .i64)] [(0,1,false),(1,1,false),(2,1,false),(3,1,false),(4,1,false),(5,1,false),(6,1,false)],
 .ag true [some .str,some (.int .i64),some (.int .i64),some (.int .i64),some (.int .i64),some (.int .i64),some (.int .i64)] [(0,1,false),(1,1,false),(2,1,false),(3,1,false),(4,1,false),(5,1,false),(6,1,false)],
 .ag true [some (.int .i64),some (.int .i64),some (.int .i64)] [(0,1,false),(1,1,false),(2,1,false)],
 .ag true [some (.int .i64),some (.int .i64),some (.int .i64)] [(0,1,false),(1,1,false),(2,1,false)],
 .other,
 .sl 40 true [(.sl 35),(.sl 36),(.sl 35),(.sl 36),(.sl 37),(.int .i64),(.int .i64)],
 .sl 120 true [(.sl 35),(.sl 36),(.sl 35),(.sl 36),(.sl 37),(.int .i64),(.int .i64),(.sl 35),(.sl 36),(.sl 35),(.sl 36),(.sl 37),(.int .i64),(.int .i64)],
 .other,
 .other,
 .other,
 .other,
 .sl 144 true [(.int .i64),(.int .i64),.bool],
 .other,
 .ag true [some (.int .i64),some (.int .i64),some .bool] [(0,1,false),(1,1,false),(2,1,false)],
 .ag true [some (.int .i64),some (.int .i64),some .bool] [(0,1,false),(1,1,false),(2,1,false)],
 .other,
 .other,
 .other,
 .bad,
 .other,
 .other,
 .sl 154 true [(.int .i64),(.int .i64),.bool],
 .other,
 .ag true [some (.int .i64),some (.int .i64),some .bool] [(0,1,false),(1,1,false),(2,1,false)],
 .ag true [some (.int .i64),some (.int .i64),some .bool] [(0,1,false),(1,1,false),(2,1,false)],
 .other,
 .other,
 .other,
 .ag false [some (.int .u8),some (.int .u8)] [(0,1,false),(1,1,false)],
 .bad,
 .other,
 .other,
 .other,
 .bad,
 .other,
 .ag false [some (.int .u8),some (.int .u8),some (.int .u8)] [(0,1,false),(1,1,false),(2,1,false)],
 .other,
 .other,
 .bad,
 .other,
 .other,
 .other,
 .other,
 .other,
 .other,
 .other,
 .ag true [some (.sl 35),some (.sl 36)] [(0,1,false),(1,1,false)],
 .ag true [some (.sl 35),some (.sl 36)] [(0,1,false),(1,1,false)],
 .bad,
 .other,
 .other,
 .other,
 .one (.int .u32),
 .bad,
 .other,
 .one (.int .u64),
 .bad,
 .other,
 .other,
 .other,
 .other,
 .other,
 .other,
 .other,
 .other,
 .other,
 .sl 45 false [(.sl 45)],
 .other,
 .other,
 .other,
 .other,
 .other,
 .other,
 .other,
 .other,
 .other,
 .other,
 .other,
 .sl 141 false [(.sl 141)],
 .other,
 .sl 214 true [(.int .i64),(.int .i64),(.int .i64),.bool],
 .bad,
 .other,
 .ag true [some (.int .i64),some (.int .i64),some (.int .i64),some .bool] [(0,1,false),(1,1,false),(2,1,false),(3,1,false)],
 .ag true [some (.int .i64),some (.int .i64),some (.int .i64),some .bool] [(0,1,false),(1,1,false),(2,1,false),(3,1,false)],
 .other,
 .other,
 .other,
 .other,
 .other,
 .other,
 .other,
 .other,
 .bad,
 .other,
 .other,
 .other,
 .other,
 .other,
 .other,
 .other,
 .other,
 .other,
 .other,
 .other,
 .other,
 .other,
 .other,
 .ag true [some (.sl 35),some (.sl 36)] [(0,1,false),(1,1,false)],
 .ag true [some (.sl 35),some (.sl 36)] [(0,1,false),(1,1,false)],
 .bad,
 .other,
 .other,
 .other,
 .other,
 .other,
 .other,
 .other,
 .other,
 .other,
 .other,
 .other,
 .other,
 .other,
 .other,
 .other,
 .other,
 .other,
 .other,
 .other,
 .other,
 .other,
 .other,
 .other,
 .other,
 .other,
 .other,
 .one (.int .i64),
 .bad,
 .other,
 .other,
 .other,
 .bad,
 .other,
 .other,
 .other,
 .other,
 .ag true [some (.int .i64),some .str,some (.int .i64)] [(0,1,false),(1,1,false),(2,1,false)],
 .ag true [some (.int .i64),some .str,some (.int .i64)] [(0,1,false),(1,1,false),(2,1,false)],
 .other,
 .other,
 .other,
 .other,
 .other,
 .other,
 .other,
 .one (.int .u64),
 .other,
 .other,
 .other,
 .other,
 .other,
 .other,
 .bad,
 .other,
 .other,
 .other,
 .other,
 .other,
 .other,
 .other,
 .other,
 .other,
 .other,
 .other,
 .other,
 .other,
 .other,
 .other,
 .other,
 .other,
 .other,
 .other,
 .other,
 .bad,
 .other,
 .other,
 .other,
 .other,
 .other,
 .bad,
 .other,
 .other,
 .other,
 .other,
 .other,
 .other,
 .other,
 .other,
 .other,
 .other,
 .bad,
 .other,
 .other,
 .other,
 .other,
 .other,
 .other,
 .other,
 .other,
 .other,
 .other,
 .ag true [none,none,none,some .str] [(0,1,false),(1,1,false),(2,1,false),(3,1,false)],
 .ag true [none,none,none,some .str] [(0,1,false),(1,1,false),(2,1,false),(3,1,false)],
 .ag false [] [],
 .bad,
 .bad,
 .other,
 .one (.int .u8),
 .one (.int .u8),
 .other,
 .other,
 .one (.int .i32),
 .one (.int .i32),
 .ag true [some (.int .u64),some (.int .u64),some (.int .u32),some (.int .u8),some (.int .u8),some (.int .u8),some (.int .u8),none,none,some (.int .i32),some (.int .i32)] [(0,1,false),(1,1,false),(2,1,false),(3,1,false),(4,1,false),(5,1,false),(6,1,false),(7,1,false),(8,1,false),(9,1,false),(10,1,false)],
 .ag true [some (.int .u64),some (.int .u64),some (.int .u32),some (.int .u8),some (.int .u8),some (.int .u8),some (.int .u8),none,none,some (.int .i32),some (.int .i32)] [(0,1,false),(1,1,false),(2,1,false),(3,1,false),(4,1,false),(5,1,false),(6,1,false),(7,1,false),(8,1,false),(9,1,false),(10,1,false)],
 .bad]
def tyOf (t:TypeId):TI:=(tyTab[t]?).getD .bad
def s0:Sig:={ f:=3,inS:=[.v (.ag [es 22 0,es 23 1]),.v (.ag [es 26 2,es 27 3,es 30 4,es 26 5,es 26 6,ei 7,es 35 8,es 36 9,es 35 10,es 36 11,es 37 12,ei 13,ei 14,es 35 15,es 36 16,es 35 17,es 36 18,es 37 19,ei 20,ei 21])],inO:=[],nIn:=22,outS:=[.c (.e .bool (.v 0))],outO:=[],nOut:=1,flat:=true }
def s1:Sig:={ f:=10,inS:=[],inO:=[],nIn:=0,outS:=[.c (.e .bool (.v 0))],outO:=[],nOut:=1,flat:=true }
def s2:Sig:={ f:=30,inS:=[],inO:=[],nIn:=0,outS:=[.ag [.own 0,.own 1]],outO:=[.row 22 (.v 0),.row 23 (.v 1)],nOut:=2,flat:=false }
def s3:Sig:={ f:=31,inS:=[],inO:=[],nIn:=0,outS:=[.ag [.own 0,.own 1,.own 2,.own 3,.own 4,ei 5]],outO:=[.row 26 (.v 0),.row 27 (.v 1),.row 30 (.v 2),.row 26 (.v 3),.row 26 (.v 4)],nOut:=6,flat:=false }
def s4:Sig:={ f:=12,inS:=[.v (.ag [es 22 0,es 23 1]),.v (.ag [es 26 2,es 27 3,es 30 4,es 26 5,es 26 6,ei 7]),.v (.ag [es 35 8,es 36 9,es 35 10,es 36 11,es 37 12,ei 13,ei 14]),.v (.ag [es 35 15,es 36 16,es 35 17,es 36 18,es 37 19,ei 20,ei 21])],inO:=[],nIn:=22,outS:=[.c (.own 0),.c (ei 1)],outO:=[.row 45 (.v 0)],nOut:=2,flat:=true }
def s5:Sig:={ f:=36,inS:=[.v (.ag [es 22 0,es 23 1]),.v (.ag [es 26 2,es 27 3,es 30 4,es 26 5,es 26 6,ei 7]),.v (.ag [es 35 8,es 36 9,es 35 10,es 36 11,es 37 12,ei 13,ei 14]),.v (.ag [es 35 15,es 36 16,es 35 17,es 36 18,es 37 19,ei 20,ei 21])],inO:=[],nIn:=22,outS:=[.c (ei 0)],outO:=[],nOut:=1,flat:=true }
def s6:Sig:={ f:=70,inS:=[.v (.ag [es 22 0,es 23 1]),.v (.ag [es 26 2,es 27 3,es 30 4,es 26 5,es 26 6,ei 7]),.v (.ag [es 35 8,es 36 9,es 35 10,es 36 11,es 37 12,ei 13,ei 14])],inO:=[],nIn:=15,outS:=[.ag [.own 0,.own 1,.own 2,.own 3,.own 4,ei 5],.c (ei 6)],outO:=[.row 26 (.v 0),.row 27 (.v 1),.row 30 (.v 2),.row 26 (.v 3),.row 26 (.v 4)],nOut:=7,flat:=false }
def s7:Sig:={ f:=104,inS:=[.v (.ag [es 22 0,es 23 1]),.v (.ag [es 26 2,es 27 3,es 30 4,es 26 5,es 26 6,ei 7])],inO:=[],nIn:=8,outS:=[.c (ei 0)],outO:=[],nOut:=1,flat:=true }
def s8:Sig:={ f:=160,inS:=[.v (.ag [es 22 0,es 23 1]),.v (.ag [es 26 2,es 27 3,es 30 4])],inO:=[],nIn:=5,outS:=[.c (ei 0),.c (ei 1)],outO:=[],nOut:=2,flat:=true }
def s9:Sig:={ f:=196,inS:=[.v (.ag [es 22 0,es 23 1])],inO:=[],nIn:=2,outS:=[.c (.e .str (.v 0)),.c (ei 1)],outO:=[],nOut:=2,flat:=true }
def s10:Sig:={ f:=230,inS:=[.v (.ag [es 22 0,es 23 1]),.v (.c (ei 2))],inO:=[],nIn:=3,outS:=[.c (ei 0)],outO:=[],nOut:=1,flat:=true }
def s11:Sig:={ f:=250,inS:=[.v (.c (.e .str (.v 0)))],inO:=[],nIn:=1,outS:=[.c (.e .bool (.v 0))],outO:=[],nOut:=1,flat:=true }
def s12:Sig:={ f:=286,inS:=[.v (.ag [ei 0,.e .str (.v 1),ei 2])],inO:=[],nIn:=3,outS:=[.c (.e .str (.v 0)),.c (.e .bool (.v 1))],outO:=[],nOut:=2,flat:=true }
def s13:Sig:={ f:=299,inS:=[.v (.c (.e .str (.v 0)))],inO:=[],nIn:=1,outS:=[.c (ei 0),.c (ei 1),.c (ei 2)],outO:=[],nOut:=3,flat:=true }
def s14:Sig:={ f:=304,inS:=[.v (.c (.e (.int .u8) (.v 0)))],inO:=[],nIn:=1,outS:=[.c (.e .bool (.v 0))],outO:=[],nOut:=1,flat:=true }
def s15:Sig:={ f:=305,inS:=[.v (.c (.e .str (.v 0))),.v (.c (.fn 306 []))],inO:=[],nIn:=1,outS:=[.c (ei 0)],outO:=[],nOut:=1,flat:=true }
def s16:Sig:={ f:=306,inS:=[.v (.c (.e (.int .u8) (.v 0)))],inO:=[],nIn:=1,outS:=[.c (.e .bool (.v 0))],outO:=[],nOut:=1,flat:=true }
def s17:Sig:={ f:=307,inS:=[.v (.c (.e (.int .u8) (.v 0)))],inO:=[],nIn:=1,outS:=[.c (.e .bool (.v 0))],outO:=[],nOut:=1,flat:=true }
def s18:Sig:={ f:=305,inS:=[.v (.c (.e .str (.v 0))),.v (.c (.fn 307 []))],inO:=[],nIn:=1,outS:=[.c (ei 0)],outO:=[],nOut:=1,flat:=true }
def s19:Sig:={ f:=308,inS:=[.v (.c (.e .str (.v 0)))],inO:=[],nIn:=1,outS:=[.c (ei 0),.c (ei 1)],outO:=[],nOut:=2,flat:=true }
def s20:Sig:={ f:=305,inS:=[.v (.c (.e .str (.v 0))),.v (.c (.fn 312 []))],inO:=[],nIn:=1,outS:=[.c (ei 0)],outO:=[],nOut:=1,flat:=true }
def s21:Sig:={ f:=312,inS:=[.v (.c (.e (.int .u8) (.v 0)))],inO:=[],nIn:=1,outS:=[.c (.e .bool (.v 0))],outO:=[],nOut:=1,flat:=true }
def s22:Sig:={ f:=309,inS:=[.v (.c (.e .str (.v 0)))],inO:=[],nIn:=1,outS:=[.c (.e .bool (.v 0))],outO:=[],nOut:=1,flat:=true }
def s23:Sig:={ f:=301,inS:=[.v (.c (es 124 0)),.v (.c (.e .str (.v 1)))],inO:=[],nIn:=2,outS:=[.c (.e .bool (.v 0))],outO:=[],nOut:=1,flat:=true }
def s24:Sig:={ f:=311,inS:=[.v (.c (es 124 0)),.v (.c (.e .str (.v 1)))],inO:=[],nIn:=2,outS:=[.c (ei 0)],outO:=[],nOut:=1,flat:=true }
def s25:Sig:={ f:=310,inS:=[.v (.c (.e .str (.v 0))),.v (.c (.e (.int .u8) (.v 1)))],inO:=[],nIn:=2,outS:=[.c (ei 0)],outO:=[],nOut:=1,flat:=true }
def s26:Sig:={ f:=313,inS:=[.v (.c (.e .str (.v 0))),.v (.c (.e (.int .u8) (.v 1)))],inO:=[],nIn:=2,outS:=[.c (ei 0)],outO:=[],nOut:=1,flat:=true }
def s27:Sig:={ f:=314,inS:=[.v (.c (.e .str (.v 0))),.v (.c (.e (.int .u8) (.v 1)))],inO:=[],nIn:=2,outS:=[.c (ei 0)],outO:=[],nOut:=1,flat:=true }
def s28:Sig:={ f:=251,inS:=[.v (.c (es 22 0)),.v (.c (.fn 252 [.r [(.str,(.v 1)),((.int .i64),(.v 2)),(.bool,(.v 3)),((.sl 127),(.v 4))]]))],inO:=[],nIn:=5,outS:=[.c (.e .bool (.v 0))],outO:=[],nOut:=1,flat:=true }
def s29:Sig:={ f:=287,inS:=[.v (.c (es 22 0)),.v (.c (.fn 252 [.r [(.str,(.v 1)),((.int .i64),(.v 2)),(.bool,(.v 3)),((.sl 127),(.v 4))]]))],inO:=[],nIn:=5,outS:=[.c (ei 0)],outO:=[],nOut:=1,flat:=true }
def s30:Sig:={ f:=252,inS:=[.v (.ag [.e .str (.v 0),ei 1,.e .bool (.v 2),es 127 3]),.v (.c (.r [(.str,(.v 4)),((.int .i64),(.v 5)),(.bool,(.v 6)),((.sl 127),(.v 7))]))],inO:=[],nIn:=8,outS:=[.c (.e .bool (.v 0))],outO:=[],nOut:=1,flat:=true }
def s31:Sig:={ f:=253,inS:=[.v (.ag [es 22 0,es 23 1]),.v (.c (ei 2))],inO:=[],nIn:=3,outS:=[.c (.own 0)],outO:=[.row 127 (.v 0)],nOut:=1,flat:=false }
def s32:Sig:={ f:=254,inS:=[.v (.ag [.e .str (.v 0),ei 1,ei 2,es 124 3]),.v (.c (es 127 4))],inO:=[],nIn:=5,outS:=[.c (ei 0)],outO:=[],nOut:=1,flat:=true }
def s33:Sig:={ f:=288,inS:=[.v (.c (es 127 0)),.v (.c (.fn 289 [.r [(.str,(.v 1)),((.int .i64),(.v 2)),((.int .i64),(.v 3)),((.sl 124),(.v 4))]]))],inO:=[],nIn:=5,outS:=[.c (.e .bool (.v 0))],outO:=[],nOut:=1,flat:=true }
def s34:Sig:={ f:=300,inS:=[.v (.c (es 127 0)),.v (.c (.fn 289 [.r [(.str,(.v 1)),((.int .i64),(.v 2)),((.int .i64),(.v 3)),((.sl 124),(.v 4))]]))],inO:=[],nIn:=5,outS:=[.c (ei 0)],outO:=[],nOut:=1,flat:=true }
def s35:Sig:={ f:=289,inS:=[.v (.ag [.e .str (.v 0),ei 1,ei 2,es 124 3]),.v (.c (.r [(.str,(.v 4)),((.int .i64),(.v 5)),((.int .i64),(.v 6)),((.sl 124),(.v 7))]))],inO:=[],nIn:=8,outS:=[.c (.e .bool (.v 0))],outO:=[],nOut:=1,flat:=true }
def s36:Sig:={ f:=290,inS:=[.v (.c (es 124 0))],inO:=[],nIn:=1,outS:=[.c (ei 0)],outO:=[],nOut:=1,flat:=true }
def s37:Sig:={ f:=231,inS:=[.v (.ag [es 22 0,es 23 1]),.v (.c (ei 2))],inO:=[],nIn:=3,outS:=[.c (ei 0)],outO:=[],nOut:=1,flat:=true }
def s38:Sig:={ f:=256,inS:=[.v (.c (es 23 0)),.v (.c (.fn 257 [.r [(.str,(.v 1)),((.int .i64),(.v 2)),((.int .i64),(.v 3)),((.int .i64),(.v 4)),((.int .i64),(.v 5)),((.int .i64),(.v 6)),((.int .i64),(.v 7))]]))],inO:=[],nIn:=8,outS:=[.c (.e .bool (.v 0))],outO:=[],nOut:=1,flat:=true }
def s39:Sig:={ f:=291,inS:=[.v (.c (es 23 0)),.v (.c (.fn 257 [.r [(.str,(.v 1)),((.int .i64),(.v 2)),((.int .i64),(.v 3)),((.int .i64),(.v 4)),((.int .i64),(.v 5)),((.int .i64),(.v 6)),((.int .i64),(.v 7))]]))],inO:=[],nIn:=8,outS:=[.c (ei 0)],outO:=[],nOut:=1,flat:=true }
def s40:Sig:={ f:=257,inS:=[.v (.ag [.e .str (.v 0),ei 1,ei 2,ei 3,ei 4,ei 5,ei 6]),.v (.c (.r [(.str,(.v 7)),((.int .i64),(.v 8)),((.int .i64),(.v 9)),((.int .i64),(.v 10)),((.int .i64),(.v 11)),((.int .i64),(.v 12)),((.int .i64),(.v 13))]))],inO:=[],nIn:=14,outS:=[.c (.e .bool (.v 0))],outO:=[],nOut:=1,flat:=true }
def s41:Sig:={ f:=255,inS:=[.v (.c (ei 0)),.v (.c (.r [((.sl 22),(.v 1)),((.sl 23),(.v 2))]))],inO:=[],nIn:=3,outS:=[.c (.e .bool (.v 0))],outO:=[],nOut:=1,flat:=true }
def s42:Sig:={ f:=258,inS:=[.v (.c (ei 0)),.v (.c (ei 1))],inO:=[],nIn:=2,outS:=[.c (.e .bool (.v 0))],outO:=[],nOut:=1,flat:=true }
def s43:Sig:={ f:=197,inS:=[.v (.ag [es 26 0,es 27 1])],inO:=[],nIn:=2,outS:=[.c (ei 0)],outO:=[],nOut:=1,flat:=true }
def s44:Sig:={ f:=65,inS:=[.v (.c (es 26 0)),.v (.c (.fn 232 []))],inO:=[],nIn:=1,outS:=[.c (.e .bool (.v 0))],outO:=[],nOut:=1,flat:=true }
def s45:Sig:={ f:=116,inS:=[.v (.c (es 26 0)),.v (.c (.fn 232 []))],inO:=[],nIn:=1,outS:=[.c (ei 0)],outO:=[],nOut:=1,flat:=true }
def s46:Sig:={ f:=232,inS:=[.v (.c (ei 0))],inO:=[],nIn:=1,outS:=[.c (.e .bool (.v 0))],outO:=[],nOut:=1,flat:=true }
def s47:Sig:={ f:=233,inS:=[.v (.c (ei 0)),.v (.c (ei 1))],inO:=[],nIn:=2,outS:=[.c (.e .bool (.v 0))],outO:=[],nOut:=1,flat:=true }
def s48:Sig:={ f:=234,inS:=[.v (.c (es 27 0)),.v (.c (.fn 235 [.r [((.sl 26),(.v 1)),((.sl 27),(.v 2))]]))],inO:=[],nIn:=3,outS:=[.c (.e .bool (.v 0))],outO:=[],nOut:=1,flat:=true }
def s49:Sig:={ f:=259,inS:=[.v (.c (es 27 0)),.v (.c (.fn 235 [.r [((.sl 26),(.v 1)),((.sl 27),(.v 2))]]))],inO:=[],nIn:=3,outS:=[.c (ei 0)],outO:=[],nOut:=1,flat:=true }
def s50:Sig:={ f:=235,inS:=[.v (.ag [ei 0,ei 1,ei 2]),.v (.c (.r [((.sl 26),(.v 3)),((.sl 27),(.v 4))]))],inO:=[],nIn:=5,outS:=[.c (.e .bool (.v 0))],outO:=[],nOut:=1,flat:=true }
def s51:Sig:={ f:=236,inS:=[.v (.ag [ei 0,ei 1,ei 2]),.v (.c (ei 3))],inO:=[],nIn:=4,outS:=[.c (.e .bool (.v 0))],outO:=[],nOut:=1,flat:=true }
def s52:Sig:={ f:=198,inS:=[.v (.ag [es 22 0,es 23 1]),.v (.c (ei 2)),.v (.c (es 26 3))],inO:=[],nIn:=4,outS:=[.c (ei 0)],outO:=[],nOut:=1,flat:=true }
def s53:Sig:={ f:=237,inS:=[.v (.ag [es 22 0,es 23 1]),.v (.c (ei 2))],inO:=[],nIn:=3,outS:=[.c (.own 0),.c (ei 1)],outO:=[.row 127 (.v 0)],nOut:=2,flat:=false }
def s54:Sig:={ f:=238,inS:=[.v (.ag [es 22 0,es 23 1]),.v (.c (es 26 2))],inO:=[],nIn:=3,outS:=[.c (ei 0)],outO:=[],nOut:=1,flat:=true }
def s55:Sig:={ f:=65,inS:=[.v (.c (es 26 0)),.v (.c (.fn 261 [.r [((.sl 22),(.v 1)),((.sl 23),(.v 2))]]))],inO:=[],nIn:=3,outS:=[.c (.e .bool (.v 0))],outO:=[],nOut:=1,flat:=true }
def s56:Sig:={ f:=116,inS:=[.v (.c (es 26 0)),.v (.c (.fn 261 [.r [((.sl 22),(.v 1)),((.sl 23),(.v 2))]]))],inO:=[],nIn:=3,outS:=[.c (ei 0)],outO:=[],nOut:=1,flat:=true }
def s57:Sig:={ f:=261,inS:=[.v (.c (ei 0)),.v (.c (.r [((.sl 22),(.v 1)),((.sl 23),(.v 2))]))],inO:=[],nIn:=3,outS:=[.c (.e .bool (.v 0))],outO:=[],nOut:=1,flat:=true }
def s58:Sig:={ f:=260,inS:=[.v (.c (es 124 0))],inO:=[],nIn:=1,outS:=[.c (.own 0)],outO:=[.row 124 (.v 0)],nOut:=1,flat:=true }
def s59:Sig:={ f:=199,inS:=[.v (.ag [es 22 0,es 23 1]),.v (.c (ei 2)),.v (.c (ei 3)),.v (.c (ei 4))],inO:=[],nIn:=5,outS:=[.c (.e .bool (.v 0))],outO:=[],nOut:=1,flat:=true }
def s60:Sig:={ f:=239,inS:=[.v (.ag [es 22 0,es 23 1]),.v (.c (ei 2)),.v (.c (ei 3))],inO:=[],nIn:=4,outS:=[.c (.e .bool (.v 0))],outO:=[],nOut:=1,flat:=true }
def s61:Sig:={ f:=262,inS:=[.v (.ag [es 22 0,es 23 1]),.v (.c (ei 2))],inO:=[],nIn:=3,outS:=[.c (.own 0)],outO:=[.row 26 (.v 0)],nOut:=1,flat:=true }
def s62:Sig:={ f:=292,inS:=[.v (.c (.own 0))],inO:=[.row 26 (.v 0)],nIn:=1,outS:=[],outO:=[.row 26 (.v 0)],nOut:=1,flat:=true }
def s63:Sig:={ f:=29,inS:=[.v (.c (es 26 0)),.v (.c (ei 1))],inO:=[],nIn:=2,outS:=[.c (.e .bool (.v 0))],outO:=[],nOut:=1,flat:=true }
def s64:Sig:={ f:=63,inS:=[.v (.c (es 26 0)),.v (.c (ei 1))],inO:=[],nIn:=2,outS:=[.c (ei 0)],outO:=[],nOut:=1,flat:=true }
def s65:Sig:={ f:=161,inS:=[.v (.c (es 26 0)),.v (.c (ei 1))],inO:=[],nIn:=2,outS:=[.c (ei 0)],outO:=[],nOut:=1,flat:=true }
def s66:Sig:={ f:=65,inS:=[.v (.c (es 26 0)),.v (.c (.fn 162 [.r [((.sl 26),(.v 1)),((.sl 27),(.v 2)),((.sl 30),(.v 3)),((.sl 26),(.v 4)),((.sl 26),(.v 5)),((.int .i64),(.v 6))]]))],inO:=[],nIn:=7,outS:=[.c (.e .bool (.v 0))],outO:=[],nOut:=1,flat:=true }
def s67:Sig:={ f:=116,inS:=[.v (.c (es 26 0)),.v (.c (.fn 162 [.r [((.sl 26),(.v 1)),((.sl 27),(.v 2)),((.sl 30),(.v 3)),((.sl 26),(.v 4)),((.sl 26),(.v 5)),((.int .i64),(.v 6))]]))],inO:=[],nIn:=7,outS:=[.c (ei 0)],outO:=[],nOut:=1,flat:=true }
def s68:Sig:={ f:=162,inS:=[.v (.c (ei 0)),.v (.c (.r [((.sl 26),(.v 1)),((.sl 27),(.v 2)),((.sl 30),(.v 3)),((.sl 26),(.v 4)),((.sl 26),(.v 5)),((.int .i64),(.v 6))]))],inO:=[],nIn:=7,outS:=[.c (.e .bool (.v 0))],outO:=[],nOut:=1,flat:=true }
def s69:Sig:={ f:=120,inS:=[.v (.ag [es 22 0,es 23 1]),.v (.ag [es 26 2,es 27 3,es 30 4,es 26 5,es 26 6,ei 7]),.v (.ag [es 35 8,es 36 9,es 35 10,es 36 11,es 37 12,ei 13,ei 14])],inO:=[],nIn:=15,outS:=[.ag [.own 0,.own 1,.own 2,.own 3,.own 4,ei 5],.c (ei 6)],outO:=[.row 26 (.v 0),.row 27 (.v 1),.row 30 (.v 2),.row 26 (.v 3),.row 26 (.v 4)],nOut:=7,flat:=false }
def s70:Sig:={ f:=179,inS:=[.v (.ag [es 35 0,es 36 1,es 35 2,es 36 3,es 37 4,ei 5,ei 6])],inO:=[],nIn:=7,outS:=[.c (ei 0)],outO:=[],nOut:=1,flat:=true }
def s71:Sig:={ f:=203,inS:=[.v (.c (es 35 0)),.v (.c (.fn 204 []))],inO:=[],nIn:=1,outS:=[.c (.e .bool (.v 0))],outO:=[],nOut:=1,flat:=true }
def s72:Sig:={ f:=204,inS:=[.v (.ag [ei 0,ei 1,es 26 2]),.v (.ag [ei 3,ei 4,es 26 5])],inO:=[],nIn:=6,outS:=[.c (ei 0)],outO:=[],nOut:=1,flat:=true }
def s73:Sig:={ f:=240,inS:=[.v (.c (ei 0)),.v (.c (ei 1))],inO:=[],nIn:=2,outS:=[.c (ei 0)],outO:=[],nOut:=1,flat:=true }
def s74:Sig:={ f:=263,inS:=[.v (.c (ei 0))],inO:=[],nIn:=1,outS:=[.c (.e .bool (.v 0))],outO:=[],nOut:=1,flat:=true }
def s75:Sig:={ f:=205,inS:=[.v (.c (es 36 0)),.v (.c (.fn 206 []))],inO:=[],nIn:=1,outS:=[.c (.e .bool (.v 0))],outO:=[],nOut:=1,flat:=true }
def s76:Sig:={ f:=206,inS:=[.v (.ag [ei 0,ei 1,ei 2,ei 3]),.v (.ag [ei 4,ei 5,ei 6,ei 7])],inO:=[],nIn:=8,outS:=[.c (ei 0)],outO:=[],nOut:=1,flat:=true }
def s77:Sig:={ f:=207,inS:=[.v (.c (es 37 0)),.v (.c (.fn 208 []))],inO:=[],nIn:=1,outS:=[.c (.e .bool (.v 0))],outO:=[],nOut:=1,flat:=true }
def s78:Sig:={ f:=208,inS:=[.v (.ag [ei 0,ei 1,ei 2,ei 3]),.v (.ag [ei 4,ei 5,ei 6,ei 7])],inO:=[],nIn:=8,outS:=[.c (ei 0)],outO:=[],nOut:=1,flat:=true }
def s79:Sig:={ f:=188,inS:=[.v (.c (es 26 0))],inO:=[],nIn:=1,outS:=[.c (ei 0)],outO:=[],nOut:=1,flat:=true }
def s80:Sig:={ f:=163,inS:=[.v (.ag [es 26 0,es 27 1,es 30 2,es 26 3,es 26 4,ei 5])],inO:=[],nIn:=6,outS:=[.c (.dp 0)],outO:=[.deep 35 (.v 0)],nOut:=1,flat:=true }
def s81:Sig:={ f:=200,inS:=[.v (.c (es 26 0))],inO:=[],nIn:=1,outS:=[.c (.own 0)],outO:=[.row 26 (.v 0)],nOut:=1,flat:=true }
def s82:Sig:={ f:=164,inS:=[.v (.ag [es 26 0,es 27 1,es 30 2,es 26 3,es 26 4,ei 5])],inO:=[],nIn:=6,outS:=[.c (.own 0)],outO:=[.row 36 (.v 0)],nOut:=1,flat:=true }
def s83:Sig:={ f:=180,inS:=[.v (.c (.p 0 0)),.v (.ag [es 35 2,es 36 3,es 35 4,es 36 5,es 37 6,ei 7,ei 8])],inO:=[.box [.dp 1,.own 2],.deep 35 (.v 0),.row 36 (.v 1)],nIn:=9,outS:=[.c (.e .bool (.v 2))],outO:=[.box [.dp 3,.own 4],.dead,.dead,.deep 35 (.v 0),.row 36 (.v 1)],nOut:=3,flat:=true }
def s84:Sig:={ f:=165,inS:=[.v (.c (es 35 0)),.v (.c (ei 1))],inO:=[],nIn:=2,outS:=[.c (ei 0)],outO:=[],nOut:=1,flat:=true }
def s85:Sig:={ f:=184,inS:=[.v (.c (es 35 0)),.v (.c (.fn 201 [.r [((.int .i64),(.v 1))]]))],inO:=[],nIn:=2,outS:=[.c (ei 0)],outO:=[],nOut:=1,flat:=true }
def s86:Sig:={ f:=201,inS:=[.v (.ag [ei 0,ei 1,es 26 2]),.v (.c (.r [((.int .i64),(.v 3))]))],inO:=[],nIn:=4,outS:=[.c (.e .bool (.v 0))],outO:=[],nOut:=1,flat:=true }
def s87:Sig:={ f:=209,inS:=[.v (.ag [ei 0,ei 1,es 26 2]),.v (.ag [ei 3,ei 4,es 26 5])],inO:=[],nIn:=6,outS:=[.c (.e .bool (.v 0))],outO:=[],nOut:=1,flat:=true }
def s88:Sig:={ f:=32,inS:=[.v (.c (es 26 0)),.v (.c (es 26 1))],inO:=[],nIn:=2,outS:=[.c (.e .bool (.v 0))],outO:=[],nOut:=1,flat:=true }
def s89:Sig:={ f:=210,inS:=[.v (.c (.dp 0)),.v (.c (ei 1)),.v (.c (ei 2))],inO:=[.deep 35 (.v 0)],nIn:=3,outS:=[.c (.dp 1)],outO:=[.dead,.deep 35 (.v 0)],nOut:=1,flat:=true }
def s90:Sig:={ f:=166,inS:=[.v (.c (es 36 0)),.v (.c (ei 1))],inO:=[],nIn:=2,outS:=[.c (ei 0)],outO:=[],nOut:=1,flat:=true }
def s91:Sig:={ f:=185,inS:=[.v (.c (es 36 0)),.v (.c (.fn 202 [.r [((.int .i64),(.v 1))]]))],inO:=[],nIn:=2,outS:=[.c (ei 0)],outO:=[],nOut:=1,flat:=true }
def s92:Sig:={ f:=202,inS:=[.v (.ag [ei 0,ei 1,ei 2,ei 3]),.v (.c (.r [((.int .i64),(.v 4))]))],inO:=[],nIn:=5,outS:=[.c (.e .bool (.v 0))],outO:=[],nOut:=1,flat:=true }
def s93:Sig:={ f:=211,inS:=[.v (.c (.own 0)),.v (.c (ei 1)),.v (.c (ei 2))],inO:=[.row 36 (.v 0)],nIn:=3,outS:=[.c (.own 1)],outO:=[.dead,.row 36 (.v 0)],nOut:=1,flat:=true }
def s94:Sig:={ f:=181,inS:=[.v (.c (.p 0 0)),.v (.ag [es 35 2,es 36 3,es 35 4,es 36 5,es 37 6,ei 7,ei 8])],inO:=[.box [.dp 1,.own 2],.deep 35 (.v 0),.row 36 (.v 1)],nIn:=9,outS:=[.c (.e .bool (.v 2))],outO:=[.box [.own 3,.own 4],.dead,.dead,.row 35 (.v 0),.row 36 (.v 1)],nOut:=3,flat:=false }
def s95:Sig:={ f:=181,inS:=[.v (.c (.p 0 0)),.v (.ag [es 35 2,es 36 3,es 35 4,es 36 5,es 37 6,ei 7,ei 8])],inO:=[.box [.dp 1,.own 2],.deep 35 (.v 0),.row 36 (.v 1)],nIn:=9,outS:=[.c (.e .bool (.v 2))],outO:=[.box [.dp 3,.own 4],.dead,.dead,.deep 35 (.v 0),.row 36 (.v 1)],nOut:=3,flat:=true }
def s96:Sig:={ f:=182,inS:=[.v (.c (.p 0 0)),.v (.ag [es 35 2,es 36 3,es 35 4,es 36 5,es 37 6,ei 7,ei 8])],inO:=[.box [.own 1,.own 2],.row 35 (.v 0),.row 36 (.v 1)],nIn:=9,outS:=[.c (.e .bool (.v 2))],outO:=[.box [.own 3,.own 4],.dead,.dead,.row 35 (.v 0),.row 36 (.v 1)],nOut:=3,flat:=false }
def s97:Sig:={ f:=121,inS:=[.v (.c (es 35 0)),.v (.c (.fn 212 [.p 0]))],inO:=[.box [.p 1 0],.box [.own 2,.own 3],.row 35 (.v 1),.row 36 (.v 2)],nIn:=3,outS:=[.c (.e .bool (.v 2))],outO:=[.box [.p 1 0],.box [.own 4,.own 5],.dead,.dead,.row 35 (.v 0),.row 36 (.v 1)],nOut:=3,flat:=false }
def s98:Sig:={ f:=184,inS:=[.v (.c (es 35 0)),.v (.c (.fn 212 [.p 0]))],inO:=[.box [.p 1 0],.box [.own 2,.own 3],.row 35 (.v 1),.row 36 (.v 2)],nIn:=3,outS:=[.c (ei 2)],outO:=[.box [.p 1 0],.box [.own 4,.own 5],.dead,.dead,.row 35 (.v 0),.row 36 (.v 1)],nOut:=3,flat:=false }
def s99:Sig:={ f:=212,inS:=[.v (.ag [ei 0,ei 1,es 26 2]),.v (.c (.p 0 0))],inO:=[.box [.p 1 0],.box [.own 2,.own 3],.row 35 (.v 3),.row 36 (.v 4)],nIn:=5,outS:=[.c (.e .bool (.v 2))],outO:=[.box [.p 1 0],.box [.own 4,.own 5],.dead,.dead,.row 35 (.v 0),.row 36 (.v 1)],nOut:=3,flat:=false }
def s100:Sig:={ f:=213,inS:=[.v (.c (.p 0 0)),.v (.c (ei 2))],inO:=[.box [.own 1,.own 2],.row 35 (.v 0),.row 36 (.v 1)],nIn:=3,outS:=[.c (.e .bool (.v 2))],outO:=[.box [.own 3,.own 4],.dead,.dead,.row 35 (.v 0),.row 36 (.v 1)],nOut:=3,flat:=false }
def s101:Sig:={ f:=123,inS:=[.v (.c (es 36 0)),.v (.c (.fn 214 [.p 0]))],inO:=[.box [.p 1 0],.box [.own 2,.own 3],.row 35 (.v 1),.row 36 (.v 2)],nIn:=3,outS:=[.c (.e .bool (.v 2))],outO:=[.box [.p 1 0],.box [.own 4,.own 5],.dead,.dead,.row 35 (.v 0),.row 36 (.v 1)],nOut:=3,flat:=false }
def s102:Sig:={ f:=185,inS:=[.v (.c (es 36 0)),.v (.c (.fn 214 [.p 0]))],inO:=[.box [.p 1 0],.box [.own 2,.own 3],.row 35 (.v 1),.row 36 (.v 2)],nIn:=3,outS:=[.c (ei 2)],outO:=[.box [.p 1 0],.box [.own 4,.own 5],.dead,.dead,.row 35 (.v 0),.row 36 (.v 1)],nOut:=3,flat:=false }
def s103:Sig:={ f:=214,inS:=[.v (.ag [ei 0,ei 1,ei 2,ei 3]),.v (.c (.p 0 0))],inO:=[.box [.p 1 0],.box [.own 2,.own 3],.row 35 (.v 4),.row 36 (.v 5)],nIn:=6,outS:=[.c (.e .bool (.v 2))],outO:=[.box [.p 1 0],.box [.own 4,.own 5],.dead,.dead,.row 35 (.v 0),.row 36 (.v 1)],nOut:=3,flat:=false }
def s104:Sig:={ f:=215,inS:=[.v (.c (.own 0)),.v (.c (.fn 204 []))],inO:=[.row 35 (.v 0)],nIn:=1,outS:=[],outO:=[.row 35 (.v 0)],nOut:=1,flat:=false }
def s105:Sig:={ f:=216,inS:=[.v (.c (.own 0)),.v (.c (.fn 206 []))],inO:=[.row 36 (.v 0)],nIn:=1,outS:=[],outO:=[.row 36 (.v 0)],nOut:=1,flat:=true }
def s106:Sig:={ f:=183,inS:=[.v (.c (es 35 0)),.v (.c (es 36 1)),.v (.c (ei 2))],inO:=[],nIn:=3,outS:=[.ag [.own 0,.own 1,.own 2,.own 3,.own 4,ei 5],.c (.e .bool (.v 6))],outO:=[.row 26 (.v 0),.row 27 (.v 1),.row 30 (.v 2),.row 26 (.v 3),.row 26 (.v 4)],nOut:=7,flat:=false }
def s107:Sig:={ f:=71,inS:=[.v (.ag [es 35 0,es 36 1,es 35 2,es 36 3,es 37 4,ei 5,ei 6])],inO:=[],nIn:=7,outS:=[.c (.e .bool (.v 0))],outO:=[],nOut:=1,flat:=true }
def s108:Sig:={ f:=121,inS:=[.v (.c (es 35 0)),.v (.c (.fn 122 [.r [((.sl 35),(.v 1)),((.sl 36),(.v 2)),((.sl 35),(.v 3)),((.sl 36),(.v 4)),((.sl 37),(.v 5)),((.int .i64),(.v 6)),((.int .i64),(.v 7))]]))],inO:=[],nIn:=8,outS:=[.c (.e .bool (.v 0))],outO:=[],nOut:=1,flat:=true }
def s109:Sig:={ f:=184,inS:=[.v (.c (es 35 0)),.v (.c (.fn 122 [.r [((.sl 35),(.v 1)),((.sl 36),(.v 2)),((.sl 35),(.v 3)),((.sl 36),(.v 4)),((.sl 37),(.v 5)),((.int .i64),(.v 6)),((.int .i64),(.v 7))]]))],inO:=[],nIn:=8,outS:=[.c (ei 0)],outO:=[],nOut:=1,flat:=true }
def s110:Sig:={ f:=122,inS:=[.v (.ag [ei 0,ei 1,es 26 2]),.v (.c (.r [((.sl 35),(.v 3)),((.sl 36),(.v 4)),((.sl 35),(.v 5)),((.sl 36),(.v 6)),((.sl 37),(.v 7)),((.int .i64),(.v 8)),((.int .i64),(.v 9))]))],inO:=[],nIn:=10,outS:=[.c (.e .bool (.v 0))],outO:=[],nOut:=1,flat:=true }
def s111:Sig:={ f:=123,inS:=[.v (.c (es 36 0)),.v (.c (.fn 124 [.r [((.sl 35),(.v 1)),((.sl 36),(.v 2)),((.sl 35),(.v 3)),((.sl 36),(.v 4)),((.sl 37),(.v 5)),((.int .i64),(.v 6)),((.int .i64),(.v 7))]]))],inO:=[],nIn:=8,outS:=[.c (.e .bool (.v 0))],outO:=[],nOut:=1,flat:=true }
def s112:Sig:={ f:=185,inS:=[.v (.c (es 36 0)),.v (.c (.fn 124 [.r [((.sl 35),(.v 1)),((.sl 36),(.v 2)),((.sl 35),(.v 3)),((.sl 36),(.v 4)),((.sl 37),(.v 5)),((.int .i64),(.v 6)),((.int .i64),(.v 7))]]))],inO:=[],nIn:=8,outS:=[.c (ei 0)],outO:=[],nOut:=1,flat:=true }
def s113:Sig:={ f:=124,inS:=[.v (.ag [ei 0,ei 1,ei 2,ei 3]),.v (.c (.r [((.sl 35),(.v 4)),((.sl 36),(.v 5)),((.sl 35),(.v 6)),((.sl 36),(.v 7)),((.sl 37),(.v 8)),((.int .i64),(.v 9)),((.int .i64),(.v 10))]))],inO:=[],nIn:=11,outS:=[.c (.e .bool (.v 0))],outO:=[],nOut:=1,flat:=true }
def s114:Sig:={ f:=37,inS:=[.v (.ag [es 35 0,es 36 1,es 35 2,es 36 3,es 37 4,ei 5,ei 6]),.v (.ag [es 35 7,es 36 8,es 35 9,es 36 10,es 37 11,ei 12,ei 13])],inO:=[],nIn:=14,outS:=[.c (.own 0)],outO:=[.row 45 (.v 0)],nOut:=1,flat:=true }
def s115:Sig:={ f:=72,inS:=[.v (.ag [es 35 0,es 36 1,es 35 2,es 36 3,es 37 4,ei 5,ei 6]),.v (.c (ei 7))],inO:=[],nIn:=8,outS:=[.c (.e .bool (.v 0))],outO:=[],nOut:=1,flat:=true }
def s116:Sig:={ f:=121,inS:=[.v (.c (es 35 0)),.v (.c (.fn 125 [.r [((.int .i64),(.v 1))]]))],inO:=[],nIn:=2,outS:=[.c (.e .bool (.v 0))],outO:=[],nOut:=1,flat:=true }
def s117:Sig:={ f:=184,inS:=[.v (.c (es 35 0)),.v (.c (.fn 125 [.r [((.int .i64),(.v 1))]]))],inO:=[],nIn:=2,outS:=[.c (ei 0)],outO:=[],nOut:=1,flat:=true }
def s118:Sig:={ f:=125,inS:=[.v (.ag [ei 0,ei 1,es 26 2]),.v (.c (.r [((.int .i64),(.v 3))]))],inO:=[],nIn:=4,outS:=[.c (.e .bool (.v 0))],outO:=[],nOut:=1,flat:=true }
def s119:Sig:={ f:=74,inS:=[.v (.c (.own 0))],inO:=[.row 45 (.v 0)],nIn:=1,outS:=[.c (.own 1)],outO:=[.dead,.row 45 (.v 0)],nOut:=1,flat:=true }
def s120:Sig:={ f:=127,inS:=[.v (.c (.own 0)),.v (.c (.fn 128 []))],inO:=[.row 45 (.v 0)],nIn:=1,outS:=[],outO:=[.row 45 (.v 0)],nOut:=1,flat:=true }
def s121:Sig:={ f:=129,inS:=[.v (.c (.own 0))],inO:=[.row 45 (.v 0)],nIn:=1,outS:=[.c (.own 1)],outO:=[.dead,.row 45 (.v 0)],nOut:=1,flat:=true }
def s122:Sig:={ f:=73,inS:=[.v (.c (es 196 0))],inO:=[],nIn:=1,outS:=[.c (.own 0)],outO:=[.row 45 (.v 0)],nOut:=1,flat:=true }
def s123:Sig:={ f:=126,inS:=[.v (.c (.nil 45)),.v (.c (ei 0))],inO:=[],nIn:=1,outS:=[.c (.own 0)],outO:=[.row 45 (.v 0)],nOut:=1,flat:=true }
def s124:Sig:={ f:=38,inS:=[.v (.ag [es 22 0,es 23 1]),.v (.ag [es 26 2,es 27 3,es 30 4,es 26 5,es 26 6,ei 7]),.v (.ag [es 35 8,es 36 9,es 35 10,es 36 11,es 37 12,ei 13,ei 14]),.v (.ag [es 35 15,es 36 16,es 35 17,es 36 18,es 37 19,ei 20,ei 21])],inO:=[],nIn:=22,outS:=[.ag [es 26 0,es 27 1,es 30 2,es 26 3,es 26 4,ei 5],.ag [es 26 6,es 27 7,es 30 8,es 26 9,es 26 10,ei 11],.c (ei 12)],outO:=[],nOut:=13,flat:=false }
def s125:Sig:={ f:=76,inS:=[.v (.ag [es 35 0,es 36 1,es 35 2,es 36 3,es 37 4,ei 5,ei 6]),.v (.ag [es 35 7,es 36 8,es 35 9,es 36 10,es 37 11,ei 12,ei 13])],inO:=[],nIn:=14,outS:=[.ag [es 35 0,es 36 1,es 35 2,es 36 3,es 37 4,ei 5,ei 6]],outO:=[],nOut:=7,flat:=false }
def s126:Sig:={ f:=142,inS:=[.v (.c (ei 0)),.v (.c (.r [((.sl 35),(.v 1)),((.sl 36),(.v 2)),((.sl 35),(.v 3)),((.sl 36),(.v 4)),((.sl 37),(.v 5)),((.int .i64),(.v 6)),((.int .i64),(.v 7))])),.v (.c (.r [((.int .i64),(.v 8))]))],inO:=[],nIn:=9,outS:=[.c (ei 0)],outO:=[],nOut:=1,flat:=true }
def s127:Sig:={ f:=75,inS:=[.v (.ag [es 35 0,es 36 1,es 35 2,es 36 3,es 37 4,ei 5,ei 6]),.v (.ag [es 35 7,es 36 8,es 35 9,es 36 10,es 37 11,ei 12,ei 13])],inO:=[],nIn:=14,outS:=[.ag [es 35 0,es 36 1,es 35 2,es 36 3,es 37 4,ei 5,ei 6]],outO:=[],nOut:=7,flat:=false }
def s128:Sig:={ f:=131,inS:=[.v (.c (es 35 0))],inO:=[],nIn:=1,outS:=[.c (.own 0)],outO:=[.row 35 (.v 0)],nOut:=1,flat:=false }
def s129:Sig:={ f:=130,inS:=[.v (.c (.own 0)),.v (.c (.fn 132 [.r [((.sl 35),(.v 1)),((.sl 36),(.v 2)),((.sl 35),(.v 3)),((.sl 36),(.v 4)),((.sl 37),(.v 5)),((.int .i64),(.v 6)),((.int .i64),(.v 7))]]))],inO:=[.row 35 (.v 0)],nIn:=8,outS:=[.c (.own 1)],outO:=[.dead,.row 35 (.v 0)],nOut:=1,flat:=false }
def s130:Sig:={ f:=184,inS:=[.v (.c (es 35 0)),.v (.c (.fn 132 [.r [((.sl 35),(.v 1)),((.sl 36),(.v 2)),((.sl 35),(.v 3)),((.sl 36),(.v 4)),((.sl 37),(.v 5)),((.int .i64),(.v 6)),((.int .i64),(.v 7))]]))],inO:=[],nIn:=8,outS:=[.c (ei 0)],outO:=[],nOut:=1,flat:=true }
def s131:Sig:={ f:=132,inS:=[.v (.ag [ei 0,ei 1,es 26 2]),.v (.c (.r [((.sl 35),(.v 3)),((.sl 36),(.v 4)),((.sl 35),(.v 5)),((.sl 36),(.v 6)),((.sl 37),(.v 7)),((.int .i64),(.v 8)),((.int .i64),(.v 9))]))],inO:=[],nIn:=10,outS:=[.c (.e .bool (.v 0))],outO:=[],nOut:=1,flat:=true }
def s132:Sig:={ f:=134,inS:=[.v (.c (es 36 0))],inO:=[],nIn:=1,outS:=[.c (.own 0)],outO:=[.row 36 (.v 0)],nOut:=1,flat:=true }
def s133:Sig:={ f:=133,inS:=[.v (.c (.own 0)),.v (.c (.fn 135 [.r [((.sl 35),(.v 1)),((.sl 36),(.v 2)),((.sl 35),(.v 3)),((.sl 36),(.v 4)),((.sl 37),(.v 5)),((.int .i64),(.v 6)),((.int .i64),(.v 7))]]))],inO:=[.row 36 (.v 0)],nIn:=8,outS:=[.c (.own 1)],outO:=[.dead,.row 36 (.v 0)],nOut:=1,flat:=true }
def s134:Sig:={ f:=185,inS:=[.v (.c (es 36 0)),.v (.c (.fn 135 [.r [((.sl 35),(.v 1)),((.sl 36),(.v 2)),((.sl 35),(.v 3)),((.sl 36),(.v 4)),((.sl 37),(.v 5)),((.int .i64),(.v 6)),((.int .i64),(.v 7))]]))],inO:=[],nIn:=8,outS:=[.c (ei 0)],outO:=[],nOut:=1,flat:=true }
def s135:Sig:={ f:=135,inS:=[.v (.ag [ei 0,ei 1,ei 2,ei 3]),.v (.c (.r [((.sl 35),(.v 4)),((.sl 36),(.v 5)),((.sl 35),(.v 6)),((.sl 36),(.v 7)),((.sl 37),(.v 8)),((.int .i64),(.v 9)),((.int .i64),(.v 10))]))],inO:=[],nIn:=11,outS:=[.c (.e .bool (.v 0))],outO:=[],nOut:=1,flat:=true }
def s136:Sig:={ f:=123,inS:=[.v (.c (es 36 0)),.v (.c (.fn 136 [.r [((.int .i64),(.v 1)),((.int .i64),(.v 2)),((.int .i64),(.v 3)),((.int .i64),(.v 4))]]))],inO:=[],nIn:=5,outS:=[.c (.e .bool (.v 0))],outO:=[],nOut:=1,flat:=true }
def s137:Sig:={ f:=185,inS:=[.v (.c (es 36 0)),.v (.c (.fn 136 [.r [((.int .i64),(.v 1)),((.int .i64),(.v 2)),((.int .i64),(.v 3)),((.int .i64),(.v 4))]]))],inO:=[],nIn:=5,outS:=[.c (ei 0)],outO:=[],nOut:=1,flat:=true }
def s138:Sig:={ f:=136,inS:=[.v (.ag [ei 0,ei 1,ei 2,ei 3]),.v (.c (.r [((.int .i64),(.v 4)),((.int .i64),(.v 5)),((.int .i64),(.v 6)),((.int .i64),(.v 7))]))],inO:=[],nIn:=8,outS:=[.c (.e .bool (.v 0))],outO:=[],nOut:=1,flat:=true }
def s139:Sig:={ f:=138,inS:=[.v (.c (es 37 0))],inO:=[],nIn:=1,outS:=[.c (.own 0)],outO:=[.row 37 (.v 0)],nOut:=1,flat:=true }
def s140:Sig:={ f:=137,inS:=[.v (.c (.own 0)),.v (.c (.fn 139 [.r [((.sl 35),(.v 1)),((.sl 36),(.v 2)),((.sl 35),(.v 3)),((.sl 36),(.v 4)),((.sl 37),(.v 5)),((.int .i64),(.v 6)),((.int .i64),(.v 7))]]))],inO:=[.row 37 (.v 0)],nIn:=8,outS:=[.c (.own 1)],outO:=[.dead,.row 37 (.v 0)],nOut:=1,flat:=true }
def s141:Sig:={ f:=189,inS:=[.v (.c (es 37 0)),.v (.c (.fn 139 [.r [((.sl 35),(.v 1)),((.sl 36),(.v 2)),((.sl 35),(.v 3)),((.sl 36),(.v 4)),((.sl 37),(.v 5)),((.int .i64),(.v 6)),((.int .i64),(.v 7))]]))],inO:=[],nIn:=8,outS:=[.c (ei 0)],outO:=[],nOut:=1,flat:=true }
def s142:Sig:={ f:=139,inS:=[.v (.ag [ei 0,ei 1,ei 2,ei 3]),.v (.c (.r [((.sl 35),(.v 4)),((.sl 36),(.v 5)),((.sl 35),(.v 6)),((.sl 36),(.v 7)),((.sl 37),(.v 8)),((.int .i64),(.v 9)),((.int .i64),(.v 10))]))],inO:=[],nIn:=11,outS:=[.c (.e .bool (.v 0))],outO:=[],nOut:=1,flat:=true }
def s143:Sig:={ f:=140,inS:=[.v (.c (es 37 0)),.v (.c (.fn 141 [.r [((.int .i64),(.v 1)),((.int .i64),(.v 2)),((.int .i64),(.v 3)),((.int .i64),(.v 4))]]))],inO:=[],nIn:=5,outS:=[.c (.e .bool (.v 0))],outO:=[],nOut:=1,flat:=true }
def s144:Sig:={ f:=189,inS:=[.v (.c (es 37 0)),.v (.c (.fn 141 [.r [((.int .i64),(.v 1)),((.int .i64),(.v 2)),((.int .i64),(.v 3)),((.int .i64),(.v 4))]]))],inO:=[],nIn:=5,outS:=[.c (ei 0)],outO:=[],nOut:=1,flat:=true }
def s145:Sig:={ f:=141,inS:=[.v (.ag [ei 0,ei 1,ei 2,ei 3]),.v (.c (.r [((.int .i64),(.v 4)),((.int .i64),(.v 5)),((.int .i64),(.v 6)),((.int .i64),(.v 7))]))],inO:=[],nIn:=8,outS:=[.c (.e .bool (.v 0))],outO:=[],nOut:=1,flat:=true }
def s146:Sig:={ f:=39,inS:=[.v (.ag [es 22 0,es 23 1]),.v (.ag [es 26 2,es 27 3,es 30 4,es 26 5,es 26 6,ei 7]),.v (.ag [es 35 8,es 36 9,es 35 10,es 36 11,es 37 12,ei 13,ei 14]),.v (.ag [es 35 15,es 36 16,es 35 17,es 36 18,es 37 19,ei 20,ei 21]),.v (.ag [es 26 22,es 27 23,es 30 24,es 26 25,es 26 26,ei 27]),.v (.ag [es 26 28,es 27 29,es 30 30,es 26 31,es 26 32,ei 33])],inO:=[],nIn:=34,outS:=[.c (.own 0),.c (ei 1)],outO:=[.row 45 (.v 0)],nOut:=2,flat:=true }
def s147:Sig:={ f:=77,inS:=[.v (.ag [es 22 0,es 23 1]),.v (.ag [es 26 2,es 27 3,es 30 4,es 26 5,es 26 6,ei 7]),.v (.ag [es 35 8,es 36 9,es 35 10,es 36 11,es 37 12,ei 13,ei 14]),.v (.ag [es 35 15,es 36 16,es 35 17,es 36 18,es 37 19,ei 20,ei 21])],inO:=[],nIn:=22,outS:=[.ag [.own 0,.own 1,.own 2,.own 3,.own 4,ei 5],.c (ei 6)],outO:=[.row 26 (.v 0),.row 27 (.v 1),.row 30 (.v 2),.row 26 (.v 3),.row 26 (.v 4)],nOut:=7,flat:=false }
def s148:Sig:={ f:=79,inS:=[.v (.ag [es 22 0,es 23 1]),.v (.ag [es 26 2,es 27 3,es 30 4,es 26 5,es 26 6,ei 7])],inO:=[],nIn:=8,outS:=[.c (.own 0)],outO:=[.row 141 (.v 0)],nOut:=1,flat:=true }
def s149:Sig:={ f:=144,inS:=[.v (.ag [es 22 0,es 23 1]),.v (.ag [es 26 2,es 27 3,es 30 4])],inO:=[],nIn:=5,outS:=[.c (.own 0),.c (ei 1)],outO:=[.row 210 (.v 0)],nOut:=2,flat:=true }
def s150:Sig:={ f:=190,inS:=[.v (.ag [es 22 0,es 23 1]),.v (.ag [es 26 2,es 27 3,es 30 4])],inO:=[],nIn:=5,outS:=[.c (ei 0)],outO:=[],nOut:=1,flat:=true }
def s151:Sig:={ f:=191,inS:=[.v (.ag [es 22 0,es 23 1]),.v (.ag [es 26 2,es 27 3,es 30 4]),.v (.c (ei 5)),.v (.c (.e .bool (.v 6))),.v (.c (ei 7)),.v (.c (ei 8)),.v (.c (ei 9))],inO:=[],nIn:=10,outS:=[.c (.own 0)],outO:=[.row 210 (.v 0)],nOut:=1,flat:=true }
def s152:Sig:={ f:=227,inS:=[.v (.ag [es 22 0,es 23 1]),.v (.c (ei 2)),.v (.c (ei 3))],inO:=[],nIn:=4,outS:=[.c (.e .bool (.v 0))],outO:=[],nOut:=1,flat:=true }
def s153:Sig:={ f:=78,inS:=[.v (.c (es 208 0))],inO:=[],nIn:=1,outS:=[.c (.own 0)],outO:=[.row 141 (.v 0)],nOut:=1,flat:=true }
def s154:Sig:={ f:=143,inS:=[.v (.c (.nil 141)),.v (.c (ei 0))],inO:=[],nIn:=1,outS:=[.c (.own 0)],outO:=[.row 141 (.v 0)],nOut:=1,flat:=true }
def s155:Sig:={ f:=80,inS:=[.v (.c (es 141 0)),.v (.ag [ei 1,ei 2,.e .bool (.v 3)])],inO:=[],nIn:=4,outS:=[.c (.e .bool (.v 0))],outO:=[],nOut:=1,flat:=true }
def s156:Sig:={ f:=145,inS:=[.v (.c (es 141 0)),.v (.ag [ei 1,ei 2,.e .bool (.v 3)])],inO:=[],nIn:=4,outS:=[.c (ei 0)],outO:=[],nOut:=1,flat:=true }
def s157:Sig:={ f:=17,inS:=[.v (.ag [es 22 0,es 23 1]),.v (.ag [es 26 2,es 27 3,es 30 4,es 26 5,es 26 6,ei 7]),.v (.ag [es 35 8,es 36 9,es 35 10,es 36 11,es 37 12,ei 13,ei 14]),.v (.ag [es 35 15,es 36 16,es 35 17,es 36 18,es 37 19,ei 20,ei 21])],inO:=[],nIn:=22,outS:=[.ag [es 26 0,es 27 1,es 30 2,es 26 3,es 26 4,ei 5],.c (ei 6)],outO:=[],nOut:=7,flat:=false }
def s158:Sig:={ f:=46,inS:=[.v (.ag [es 22 0,es 23 1]),.v (.ag [es 26 2,es 27 3,es 30 4,es 26 5,es 26 6,ei 7]),.v (.ag [es 35 8,es 36 9,es 35 10,es 36 11,es 37 12,ei 13,ei 14]),.v (.ag [es 35 15,es 36 16,es 35 17,es 36 18,es 37 19,ei 20,ei 21])],inO:=[],nIn:=22,outS:=[.ag [es 26 0,es 27 1,es 30 2,es 26 3,es 26 4,ei 5],.c (ei 6)],outO:=[],nOut:=7,flat:=false }
def s159:Sig:={ f:=16,inS:=[.v (.c (es 45 0)),.v (.c (es 45 1))],inO:=[],nIn:=2,outS:=[.c (.e .bool (.v 0))],outO:=[],nOut:=1,flat:=true }
def s160:Sig:={ f:=11,inS:=[.v (.ag [es 26 0,es 27 1,es 30 2,es 26 3,es 26 4,ei 5,es 35 6,es 36 7,es 35 8,es 36 9,es 37 10,ei 11,ei 12,es 35 13,es 36 14,es 35 15,es 36 16,es 37 17,ei 18,ei 19]),.v (.ag [es 22 20,es 23 21])],inO:=[],nIn:=22,outS:=[.c (.e .bool (.v 0))],outO:=[],nOut:=1,flat:=true }
def s161:Sig:={ f:=33,inS:=[.v (.ag [es 22 0,es 23 1])],inO:=[],nIn:=2,outS:=[.c (.e .bool (.v 0))],outO:=[],nOut:=1,flat:=true }
def s162:Sig:={ f:=34,inS:=[.v (.ag [es 26 0,es 27 1,es 30 2,es 26 3,es 26 4,ei 5])],inO:=[],nIn:=6,outS:=[.c (.e .bool (.v 0))],outO:=[],nOut:=1,flat:=true }
def s163:Sig:={ f:=69,inS:=[.v (.ag [es 26 0,es 27 1,es 30 2])],inO:=[],nIn:=3,outS:=[.c (.e .bool (.v 0))],outO:=[],nOut:=1,flat:=true }
def s164:Sig:={ f:=119,inS:=[.v (.ag [es 26 0,es 27 1])],inO:=[],nIn:=2,outS:=[.c (.e .bool (.v 0))],outO:=[],nOut:=1,flat:=true }
def s165:Sig:={ f:=35,inS:=[.v (.ag [es 35 0,es 36 1,es 35 2,es 36 3,es 37 4,ei 5,ei 6])],inO:=[],nIn:=7,outS:=[.c (.e .bool (.v 0))],outO:=[],nOut:=1,flat:=true }
def s166:Sig:={ f:=13,inS:=[.v (.ag [es 26 0,es 27 1,es 30 2,es 26 3,es 26 4,ei 5])],inO:=[],nIn:=6,outS:=[.ag [.own 0,.own 1,.own 2,.own 3,.own 4,ei 5]],outO:=[.row 26 (.v 0),.row 27 (.v 1),.row 30 (.v 2),.row 26 (.v 3),.row 26 (.v 4)],nOut:=6,flat:=false }
def s167:Sig:={ f:=40,inS:=[.v (.ag [es 26 0,es 27 1,es 30 2])],inO:=[],nIn:=3,outS:=[.ag [.own 0,.own 1,.own 2]],outO:=[.row 26 (.v 0),.row 27 (.v 1),.row 30 (.v 2)],nOut:=3,flat:=false }
def s168:Sig:={ f:=81,inS:=[.v (.ag [es 26 0,es 27 1])],inO:=[],nIn:=2,outS:=[.ag [.own 0,.own 1]],outO:=[.row 26 (.v 0),.row 27 (.v 1)],nOut:=2,flat:=true }
def s169:Sig:={ f:=14,inS:=[.v (.ag [es 35 0,es 36 1,es 35 2,es 36 3,es 37 4,ei 5,ei 6])],inO:=[],nIn:=7,outS:=[.ag [.own 0,.own 1,.own 2,.own 3,.own 4,ei 5,ei 6]],outO:=[.row 35 (.v 0),.row 36 (.v 1),.row 35 (.v 2),.row 36 (.v 3),.row 37 (.v 4)],nOut:=7,flat:=false }
def s170:Sig:={ f:=41,inS:=[.v (.c (es 35 0))],inO:=[],nIn:=1,outS:=[.c (.own 0)],outO:=[.row 35 (.v 0)],nOut:=1,flat:=false }
def s171:Sig:={ f:=15,inS:=[.v (.ag [es 22 0,es 23 1]),.v (.ag [es 26 2,es 27 3,es 30 4,es 26 5,es 26 6,ei 7]),.v (.ag [es 35 8,es 36 9,es 35 10,es 36 11,es 37 12,ei 13,ei 14]),.v (.ag [es 35 15,es 36 16,es 35 17,es 36 18,es 37 19,ei 20,ei 21])],inO:=[],nIn:=22,outS:=[.c (.own 0),.c (ei 1)],outO:=[.row 45 (.v 0)],nOut:=2,flat:=true }
def s172:Sig:={ f:=42,inS:=[.v (.ag [es 22 0,es 23 1]),.v (.ag [es 26 2,es 27 3,es 30 4,es 26 5,es 26 6,ei 7]),.v (.ag [es 35 8,es 36 9,es 35 10,es 36 11,es 37 12,ei 13,ei 14]),.v (.ag [es 35 15,es 36 16,es 35 17,es 36 18,es 37 19,ei 20,ei 21])],inO:=[],nIn:=22,outS:=[.c (ei 0)],outO:=[],nOut:=1,flat:=true }
def s173:Sig:={ f:=25,inS:=[.v (.ag [es 22 0,es 23 1]),.v (.ag [es 26 2,es 27 3,es 30 4,es 26 5,es 26 6,ei 7]),.v (.ag [es 35 8,es 36 9,es 35 10,es 36 11,es 37 12,ei 13,ei 14])],inO:=[],nIn:=15,outS:=[.ag [.own 0,.own 1,.own 2,.own 3,.own 4,ei 5],.c (ei 6)],outO:=[.row 26 (.v 0),.row 27 (.v 1),.row 30 (.v 2),.row 26 (.v 3),.row 26 (.v 4)],nOut:=7,flat:=false }
def s174:Sig:={ f:=61,inS:=[.v (.ag [es 22 0,es 23 1]),.v (.ag [es 26 2,es 27 3,es 30 4,es 26 5,es 26 6,ei 7])],inO:=[],nIn:=8,outS:=[.c (ei 0)],outO:=[],nOut:=1,flat:=true }
def s175:Sig:={ f:=93,inS:=[.v (.ag [es 22 0,es 23 1])],inO:=[],nIn:=2,outS:=[.c (.e .str (.v 0)),.c (ei 1)],outO:=[],nOut:=2,flat:=true }
def s176:Sig:={ f:=149,inS:=[.v (.ag [es 22 0,es 23 1]),.v (.c (ei 2))],inO:=[],nIn:=3,outS:=[.c (ei 0)],outO:=[],nOut:=1,flat:=true }
def s177:Sig:={ f:=193,inS:=[.v (.c (.e .str (.v 0)))],inO:=[],nIn:=1,outS:=[.c (.e .bool (.v 0))],outO:=[],nOut:=1,flat:=true }
def s178:Sig:={ f:=228,inS:=[.v (.ag [ei 0,.e .str (.v 1),ei 2])],inO:=[],nIn:=3,outS:=[.c (.e .bool (.v 0))],outO:=[],nOut:=1,flat:=true }
def s179:Sig:={ f:=248,inS:=[.v (.ag [ei 0,.e .str (.v 1),ei 2])],inO:=[],nIn:=3,outS:=[.c (.e .str (.v 0))],outO:=[],nOut:=1,flat:=true }
def s180:Sig:={ f:=249,inS:=[.v (.c (.e .str (.v 0))),.v (.c (ei 1))],inO:=[],nIn:=2,outS:=[.ag [ei 0,.e .str (.v 1),ei 2],.c (ei 3),.c (ei 4)],outO:=[],nOut:=5,flat:=true }
def s181:Sig:={ f:=281,inS:=[.v (.c (.e (.int .u8) (.v 0)))],inO:=[],nIn:=1,outS:=[.c (.e .bool (.v 0))],outO:=[],nOut:=1,flat:=true }
def s182:Sig:={ f:=282,inS:=[.v (.c (.e (.int .u8) (.v 0)))],inO:=[],nIn:=1,outS:=[.c (.e .bool (.v 0))],outO:=[],nOut:=1,flat:=true }
def s183:Sig:={ f:=283,inS:=[.v (.c (.e .str (.v 0))),.v (.c (ei 1)),.v (.c (.e .bool (.v 2)))],inO:=[],nIn:=3,outS:=[.c (ei 0)],outO:=[],nOut:=1,flat:=true }
def s184:Sig:={ f:=284,inS:=[.v (.c (.e .str (.v 0))),.v (.c (ei 1))],inO:=[],nIn:=2,outS:=[.c (ei 0)],outO:=[],nOut:=1,flat:=true }
def s185:Sig:={ f:=285,inS:=[],inO:=[],nIn:=0,outS:=[.c (.own 0)],outO:=[.row 124 (.v 0)],nOut:=1,flat:=true }
def s186:Sig:={ f:=153,inS:=[.v (.c (ei 0)),.v (.c (ei 1)),.v (.c (ei 2))],inO:=[],nIn:=3,outS:=[.c (.e .bool (.v 0))],outO:=[],nOut:=1,flat:=true }
def s187:Sig:={ f:=152,inS:=[.v (.ag [es 22 0,es 23 1]),.v (.c (ei 2))],inO:=[],nIn:=3,outS:=[.c (.own 0)],outO:=[.row 127 (.v 0)],nOut:=1,flat:=false }
def s188:Sig:={ f:=194,inS:=[.v (.ag [.e .str (.v 0),ei 1,ei 2,es 124 3])],inO:=[],nIn:=4,outS:=[.c (ei 0)],outO:=[],nOut:=1,flat:=true }
def s189:Sig:={ f:=229,inS:=[.v (.c (es 124 0))],inO:=[],nIn:=1,outS:=[.c (ei 0)],outO:=[],nOut:=1,flat:=true }
def s190:Sig:={ f:=150,inS:=[.v (.ag [es 22 0,es 23 1]),.v (.c (ei 2))],inO:=[],nIn:=3,outS:=[.c (ei 0)],outO:=[],nOut:=1,flat:=true }
def s191:Sig:={ f:=195,inS:=[.v (.c (ei 0)),.v (.c (ei 1))],inO:=[],nIn:=2,outS:=[.c (.e .bool (.v 0))],outO:=[],nOut:=1,flat:=true }
def s192:Sig:={ f:=55,inS:=[.v (.ag [es 22 0,es 23 1]),.v (.ag [es 26 2,es 27 3,es 30 4])],inO:=[],nIn:=5,outS:=[.c (ei 0),.c (ei 1)],outO:=[],nOut:=2,flat:=true }
def s193:Sig:={ f:=100,inS:=[.v (.ag [es 26 0,es 27 1])],inO:=[],nIn:=2,outS:=[.c (ei 0)],outO:=[],nOut:=1,flat:=true }
def s194:Sig:={ f:=158,inS:=[.v (.c (ei 0))],inO:=[],nIn:=1,outS:=[.c (.e .bool (.v 0))],outO:=[],nOut:=1,flat:=true }
def s195:Sig:={ f:=159,inS:=[.v (.ag [ei 0,ei 1,ei 2]),.v (.c (ei 3))],inO:=[],nIn:=4,outS:=[.c (.e .bool (.v 0))],outO:=[],nOut:=1,flat:=true }
def s196:Sig:={ f:=101,inS:=[.v (.ag [es 22 0,es 23 1]),.v (.c (ei 2)),.v (.c (es 26 3))],inO:=[],nIn:=4,outS:=[.c (ei 0)],outO:=[],nOut:=1,flat:=true }
def s197:Sig:={ f:=96,inS:=[.v (.ag [es 22 0,es 23 1]),.v (.c (ei 2))],inO:=[],nIn:=3,outS:=[.c (.own 0),.c (ei 1)],outO:=[.row 127 (.v 0)],nOut:=2,flat:=false }
def s198:Sig:={ f:=151,inS:=[.v (.ag [es 22 0,es 23 1]),.v (.c (ei 2)),.v (.c (ei 3))],inO:=[],nIn:=4,outS:=[.c (ei 0)],outO:=[],nOut:=1,flat:=true }
def s199:Sig:={ f:=97,inS:=[.v (.ag [es 22 0,es 23 1]),.v (.c (ei 2)),.v (.c (ei 3)),.v (.c (ei 4))],inO:=[],nIn:=5,outS:=[.c (.e .bool (.v 0))],outO:=[],nOut:=1,flat:=true }
def s200:Sig:={ f:=154,inS:=[.v (.ag [es 22 0,es 23 1]),.v (.c (ei 2)),.v (.c (ei 3))],inO:=[],nIn:=4,outS:=[.c (.e .bool (.v 0))],outO:=[],nOut:=1,flat:=true }
def s201:Sig:={ f:=107,inS:=[.v (.c (es 26 0)),.v (.c (ei 1))],inO:=[],nIn:=2,outS:=[.c (ei 0)],outO:=[],nOut:=1,flat:=true }
def s202:Sig:={ f:=108,inS:=[.v (.c (es 26 0)),.v (.c (ei 1))],inO:=[],nIn:=2,outS:=[.c (ei 0)],outO:=[],nOut:=1,flat:=true }
def s203:Sig:={ f:=62,inS:=[.v (.ag [es 22 0,es 23 1]),.v (.ag [es 26 2,es 27 3,es 30 4,es 26 5,es 26 6,ei 7]),.v (.ag [es 35 8,es 36 9,es 35 10,es 36 11,es 37 12,ei 13,ei 14])],inO:=[],nIn:=15,outS:=[.ag [.own 0,.own 1,.own 2,.own 3,.own 4,ei 5],.c (ei 6)],outO:=[.row 26 (.v 0),.row 27 (.v 1),.row 30 (.v 2),.row 26 (.v 3),.row 26 (.v 4)],nOut:=7,flat:=false }
def s204:Sig:={ f:=109,inS:=[.v (.ag [es 35 0,es 36 1,es 35 2,es 36 3,es 37 4,ei 5,ei 6])],inO:=[],nIn:=7,outS:=[.c (ei 0)],outO:=[],nOut:=1,flat:=true }
def s205:Sig:={ f:=167,inS:=[.v (.c (es 35 0))],inO:=[],nIn:=1,outS:=[.c (.e .bool (.v 0))],outO:=[],nOut:=1,flat:=true }
def s206:Sig:={ f:=168,inS:=[.v (.c (es 36 0))],inO:=[],nIn:=1,outS:=[.c (.e .bool (.v 0))],outO:=[],nOut:=1,flat:=true }
def s207:Sig:={ f:=169,inS:=[.v (.c (es 37 0))],inO:=[],nIn:=1,outS:=[.c (.e .bool (.v 0))],outO:=[],nOut:=1,flat:=true }
def s208:Sig:={ f:=110,inS:=[.v (.ag [es 26 0,es 27 1,es 30 2,es 26 3,es 26 4,ei 5])],inO:=[],nIn:=6,outS:=[.ag [.own 0,.own 1]],outO:=[.row 35 (.v 0),.row 36 (.v 1)],nOut:=2,flat:=false }
def s209:Sig:={ f:=170,inS:=[.v (.ag [es 26 0,es 27 1,es 30 2,es 26 3,es 26 4,ei 5]),.v (.c (ei 6))],inO:=[],nIn:=7,outS:=[.ag [ei 0,ei 1,.own 0]],outO:=[.row 26 (.v 2)],nOut:=3,flat:=true }
def s210:Sig:={ f:=171,inS:=[.v (.ag [es 26 0,es 27 1,es 30 2,es 26 3,es 26 4,ei 5]),.v (.c (ei 6))],inO:=[],nIn:=7,outS:=[.ag [ei 0,ei 1,ei 2,ei 3]],outO:=[],nOut:=4,flat:=true }
def s211:Sig:={ f:=111,inS:=[.v (.ag [es 35 0,es 36 1]),.v (.ag [es 35 2,es 36 3,es 35 4,es 36 5,es 37 6,ei 7,ei 8])],inO:=[],nIn:=9,outS:=[.ag [es 35 0,es 36 1],.c (.e .bool (.v 2))],outO:=[],nOut:=3,flat:=false }
def s212:Sig:={ f:=172,inS:=[.v (.ag [es 35 0,es 36 1]),.v (.ag [ei 2,ei 3,ei 4,ei 5])],inO:=[],nIn:=6,outS:=[.ag [es 35 0,es 36 1],.c (.e .bool (.v 2))],outO:=[],nOut:=3,flat:=false }
def s213:Sig:={ f:=173,inS:=[.v (.ag [es 35 0,es 36 1]),.v (.ag [ei 2,ei 3,es 26 4])],inO:=[],nIn:=5,outS:=[.ag [es 35 0,es 36 1],.c (.e .bool (.v 2))],outO:=[],nOut:=3,flat:=false }
def s214:Sig:={ f:=106,inS:=[.v (.ag [ei 0,ei 1,es 26 2]),.v (.ag [ei 3,ei 4,es 26 5])],inO:=[],nIn:=6,outS:=[.c (.e .bool (.v 0))],outO:=[],nOut:=1,flat:=true }
def s215:Sig:={ f:=49,inS:=[.v (.c (es 26 0)),.v (.c (es 26 1))],inO:=[],nIn:=2,outS:=[.c (.e .bool (.v 0))],outO:=[],nOut:=1,flat:=true }
def s216:Sig:={ f:=174,inS:=[.v (.ag [es 35 0,es 36 1]),.v (.ag [ei 2,ei 3,ei 4,ei 5])],inO:=[],nIn:=6,outS:=[.ag [es 35 0,es 36 1],.c (.e .bool (.v 2))],outO:=[],nOut:=3,flat:=false }
def s217:Sig:={ f:=112,inS:=[.v (.ag [es 35 0,es 36 1]),.v (.ag [es 35 2,es 36 3,es 35 4,es 36 5,es 37 6,ei 7,ei 8])],inO:=[],nIn:=9,outS:=[.ag [es 35 0,es 36 1],.c (.e .bool (.v 2))],outO:=[],nOut:=3,flat:=false }
def s218:Sig:={ f:=175,inS:=[.v (.ag [es 35 0,es 36 1]),.v (.c (ei 2))],inO:=[],nIn:=3,outS:=[.c (.e .bool (.v 0))],outO:=[],nOut:=1,flat:=true }
def s219:Sig:={ f:=113,inS:=[.v (.ag [es 35 0,es 36 1]),.v (.c (ei 2))],inO:=[],nIn:=3,outS:=[.ag [.own 0,.own 1,.own 2,.own 3,.own 4,ei 5]],outO:=[.row 26 (.v 0),.row 27 (.v 1),.row 30 (.v 2),.row 26 (.v 3),.row 26 (.v 4)],nOut:=6,flat:=false }
def s220:Sig:={ f:=82,inS:=[.v (.ag [es 35 0,es 36 1,es 35 2,es 36 3,es 37 4,ei 5,ei 6])],inO:=[],nIn:=7,outS:=[.c (.e .bool (.v 0))],outO:=[],nOut:=1,flat:=true }
def s221:Sig:={ f:=43,inS:=[.v (.ag [es 26 0,es 27 1,es 30 2,es 26 3,es 26 4,ei 5]),.v (.ag [es 35 6,es 36 7,es 35 8,es 36 9,es 37 10,ei 11,ei 12]),.v (.ag [es 35 13,es 36 14,es 35 15,es 36 16,es 37 17,ei 18,ei 19])],inO:=[],nIn:=20,outS:=[.c (.own 0)],outO:=[.row 45 (.v 0)],nOut:=1,flat:=true }
def s222:Sig:={ f:=83,inS:=[.v (.ag [es 35 0,es 36 1,es 35 2,es 36 3,es 37 4,ei 5,ei 6]),.v (.c (ei 7))],inO:=[],nIn:=8,outS:=[.c (.e .bool (.v 0))],outO:=[],nOut:=1,flat:=true }
def s223:Sig:={ f:=84,inS:=[.v (.ag [es 35 0,es 36 1,es 35 2,es 36 3,es 37 4,ei 5,ei 6]),.v (.c (ei 7))],inO:=[],nIn:=8,outS:=[.c (.e .bool (.v 0))],outO:=[],nOut:=1,flat:=true }
def s224:Sig:={ f:=85,inS:=[.v (.ag [es 35 0,es 36 1,es 35 2,es 36 3,es 37 4,ei 5,ei 6]),.v (.c (ei 7)),.v (.c (ei 8))],inO:=[],nIn:=9,outS:=[.ag [ei 0,ei 1,ei 2,ei 3],.c (.e .bool (.v 4))],outO:=[],nOut:=5,flat:=true }
def s225:Sig:={ f:=44,inS:=[.v (.ag [es 22 0,es 23 1]),.v (.ag [es 26 2,es 27 3,es 30 4,es 26 5,es 26 6,ei 7]),.v (.ag [es 35 8,es 36 9,es 35 10,es 36 11,es 37 12,ei 13,ei 14]),.v (.ag [es 35 15,es 36 16,es 35 17,es 36 18,es 37 19,ei 20,ei 21])],inO:=[],nIn:=22,outS:=[.ag [.own 0,.own 1,.own 2,.own 3,.own 4,ei 5],.c (ei 6)],outO:=[.row 26 (.v 0),.row 27 (.v 1),.row 30 (.v 2),.row 26 (.v 3),.row 26 (.v 4)],nOut:=7,flat:=false }
def s226:Sig:={ f:=88,inS:=[.v (.ag [es 35 0,es 36 1,es 35 2,es 36 3,es 37 4,ei 5,ei 6]),.v (.ag [es 35 7,es 36 8,es 35 9,es 36 10,es 37 11,ei 12,ei 13])],inO:=[],nIn:=14,outS:=[.ag [.own 0,.own 1,.own 2,.own 3,.own 4,ei 5,ei 6]],outO:=[.row 35 (.v 0),.row 36 (.v 1),.row 35 (.v 2),.row 36 (.v 3),.row 37 (.v 4)],nOut:=7,flat:=false }
def s227:Sig:={ f:=147,inS:=[.v (.c (ei 0)),.v (.c (ei 1)),.v (.c (ei 2))],inO:=[],nIn:=3,outS:=[.c (ei 0)],outO:=[],nOut:=1,flat:=true }
def s228:Sig:={ f:=87,inS:=[.v (.ag [es 35 0,es 36 1,es 35 2,es 36 3,es 37 4,ei 5,ei 6]),.v (.ag [es 35 7,es 36 8,es 35 9,es 36 10,es 37 11,ei 12,ei 13])],inO:=[],nIn:=14,outS:=[.ag [.own 0,.own 1,.own 2,.own 3,.own 4,ei 5,ei 6]],outO:=[.row 35 (.v 0),.row 36 (.v 1),.row 35 (.v 2),.row 36 (.v 3),.row 37 (.v 4)],nOut:=7,flat:=false }
def s229:Sig:={ f:=146,inS:=[.v (.ag [es 35 0,es 36 1,es 35 2,es 36 3,es 37 4,ei 5,ei 6]),.v (.c (ei 7))],inO:=[],nIn:=8,outS:=[.c (.e .bool (.v 0))],outO:=[],nOut:=1,flat:=true }
def s230:Sig:={ f:=86,inS:=[.v (.ag [es 35 0,es 36 1,es 35 2,es 36 3,es 37 4,ei 5,ei 6]),.v (.ag [es 26 7,es 27 8,es 30 9,es 26 10,es 26 11,ei 12])],inO:=[],nIn:=13,outS:=[.ag [.own 0,.own 1,.own 2,.own 3,.own 4,ei 5,ei 6]],outO:=[.row 35 (.v 0),.row 36 (.v 1),.row 35 (.v 2),.row 36 (.v 3),.row 37 (.v 4)],nOut:=7,flat:=false }
def s231:Sig:={ f:=45,inS:=[.v (.ag [es 22 0,es 23 1]),.v (.ag [es 26 2,es 27 3,es 30 4,es 26 5,es 26 6,ei 7]),.v (.ag [es 35 8,es 36 9,es 35 10,es 36 11,es 37 12,ei 13,ei 14]),.v (.ag [es 35 15,es 36 16,es 35 17,es 36 18,es 37 19,ei 20,ei 21]),.v (.ag [es 26 22,es 27 23,es 30 24,es 26 25,es 26 26,ei 27])],inO:=[],nIn:=28,outS:=[.c (.own 0)],outO:=[.row 45 (.v 0)],nOut:=1,flat:=true }
def s232:Sig:={ f:=89,inS:=[.v (.ag [es 22 0,es 23 1]),.v (.ag [es 26 2,es 27 3,es 30 4,es 26 5,es 26 6,ei 7])],inO:=[],nIn:=8,outS:=[.c (.own 0)],outO:=[.row 151 (.v 0)],nOut:=1,flat:=true }
def s233:Sig:={ f:=148,inS:=[.v (.ag [es 22 0,es 23 1]),.v (.ag [es 26 2,es 27 3,es 30 4])],inO:=[],nIn:=5,outS:=[.c (.own 0),.c (ei 1)],outO:=[.row 210 (.v 0)],nOut:=2,flat:=true }
def s234:Sig:={ f:=192,inS:=[.v (.ag [es 26 0,es 27 1]),.v (.c (ei 2)),.v (.c (ei 3)),.v (.c (.e .bool (.v 4)))],inO:=[],nIn:=5,outS:=[.c (ei 0)],outO:=[],nOut:=1,flat:=true }
def s235:Sig:={ f:=90,inS:=[.v (.c (es 151 0)),.v (.ag [ei 1,ei 2,.e .bool (.v 3)])],inO:=[],nIn:=4,outS:=[.c (.e .bool (.v 0))],outO:=[],nOut:=1,flat:=true }
def s236:Sig:={ f:=4,inS:=[.v (.ag [es 22 0,es 23 1]),.v (.ag [es 26 2,es 27 3,es 30 4,es 26 5,es 26 6,ei 7,es 35 8,es 36 9,es 35 10,es 36 11,es 37 12,ei 13,ei 14,es 35 15,es 36 16,es 35 17,es 36 18,es 37 19,ei 20,ei 21])],inO:=[],nIn:=22,outS:=[.c (.e .bool (.v 0))],outO:=[],nOut:=1,flat:=true }
def s237:Sig:={ f:=18,inS:=[.v (.ag [es 22 0,es 23 1]),.v (.ag [es 26 2,es 27 3,es 30 4,es 26 5,es 26 6,ei 7]),.v (.ag [es 35 8,es 36 9,es 35 10,es 36 11,es 37 12,ei 13,ei 14]),.v (.ag [es 35 15,es 36 16,es 35 17,es 36 18,es 37 19,ei 20,ei 21])],inO:=[],nIn:=22,outS:=[.ag [.own 0,.own 1,.own 2,.own 3,.own 4,ei 5],.c (ei 6)],outO:=[.row 26 (.v 0),.row 27 (.v 1),.row 30 (.v 2),.row 26 (.v 3),.row 26 (.v 4)],nOut:=7,flat:=false }
def s238:Sig:={ f:=47,inS:=[.v (.ag [es 22 0,es 23 1]),.v (.ag [es 26 2,es 27 3,es 30 4,es 26 5,es 26 6,ei 7]),.v (.ag [es 35 8,es 36 9,es 35 10,es 36 11,es 37 12,ei 13,ei 14]),.v (.ag [es 35 15,es 36 16,es 35 17,es 36 18,es 37 19,ei 20,ei 21])],inO:=[],nIn:=22,outS:=[.ag [.own 0,.own 1,.own 2,.own 3,.own 4,ei 5],.c (ei 6)],outO:=[.row 26 (.v 0),.row 27 (.v 1),.row 30 (.v 2),.row 26 (.v 3),.row 26 (.v 4)],nOut:=7,flat:=false }
def s239:Sig:={ f:=19,inS:=[.v (.ag [es 26 0,es 27 1,es 30 2,es 26 3,es 26 4,ei 5]),.v (.ag [es 26 6,es 27 7,es 30 8,es 26 9,es 26 10,ei 11])],inO:=[],nIn:=12,outS:=[.c (.e .bool (.v 0))],outO:=[],nOut:=1,flat:=true }
def s240:Sig:={ f:=48,inS:=[.v (.ag [es 26 0,es 27 1,es 30 2]),.v (.ag [es 26 3,es 27 4,es 30 5])],inO:=[],nIn:=6,outS:=[.c (.e .bool (.v 0))],outO:=[],nOut:=1,flat:=true }
def s241:Sig:={ f:=91,inS:=[.v (.ag [es 26 0,es 27 1]),.v (.ag [es 26 2,es 27 3])],inO:=[],nIn:=4,outS:=[.c (.e .bool (.v 0))],outO:=[],nOut:=1,flat:=true }
def s242:Sig:={ f:=92,inS:=[.v (.c (es 26 0)),.v (.c (es 26 1))],inO:=[],nIn:=2,outS:=[.c (ei 0)],outO:=[],nOut:=1,flat:=true }
def s243:Sig:={ f:=6,inS:=[.v (.ag [es 22 0,es 23 1]),.v (.ag [es 26 2,es 27 3,es 30 4,es 26 5,es 26 6,ei 7,es 35 8,es 36 9,es 35 10,es 36 11,es 37 12,ei 13,ei 14,es 35 15,es 36 16,es 35 17,es 36 18,es 37 19,ei 20,ei 21])],inO:=[],nIn:=22,outS:=[.c (.e .bool (.v 0))],outO:=[],nOut:=1,flat:=true }
def s244:Sig:={ f:=22,inS:=[.v (.ag [es 22 0,es 23 1]),.v (.ag [es 26 2,es 27 3,es 30 4,es 26 5,es 26 6,ei 7]),.v (.ag [es 35 8,es 36 9,es 35 10,es 36 11,es 37 12,ei 13,ei 14]),.v (.ag [es 35 15,es 36 16,es 35 17,es 36 18,es 37 19,ei 20,ei 21])],inO:=[],nIn:=22,outS:=[.ag [.own 0,.own 1,.own 2,.own 3,.own 4,ei 5,ei 6],.c (ei 7)],outO:=[.row 35 (.v 0),.row 36 (.v 1),.row 35 (.v 2),.row 36 (.v 3),.row 37 (.v 4)],nOut:=8,flat:=false }
def s245:Sig:={ f:=58,inS:=[.v (.ag [es 22 0,es 23 1]),.v (.ag [es 26 2,es 27 3,es 30 4,es 26 5,es 26 6,ei 7]),.v (.ag [es 26 8,es 27 9,es 30 10,es 26 11,es 26 12,ei 13])],inO:=[],nIn:=14,outS:=[.ag [.own 0,.own 1,.own 2,.own 3,.own 4,ei 5,ei 6],.c (ei 7)],outO:=[.row 35 (.v 0),.row 36 (.v 1),.row 35 (.v 2),.row 36 (.v 3),.row 37 (.v 4)],nOut:=8,flat:=false }
def s246:Sig:={ f:=105,inS:=[.v (.ag [es 26 0,es 27 1,es 30 2,es 26 3,es 26 4,ei 5]),.v (.ag [es 26 6,es 27 7,es 30 8,es 26 9,es 26 10,ei 11])],inO:=[],nIn:=12,outS:=[.ag [.own 0,.own 1,.own 2,.own 3,.own 4,ei 5,ei 6],.c (.e .bool (.v 7))],outO:=[.row 35 (.v 0),.row 36 (.v 1),.row 35 (.v 2),.row 36 (.v 3),.row 37 (.v 4)],nOut:=8,flat:=false }
def s247:Sig:={ f:=23,inS:=[.v (.ag [es 22 0,es 23 1]),.v (.ag [es 26 2,es 27 3,es 30 4,es 26 5,es 26 6,ei 7]),.v (.ag [es 35 8,es 36 9,es 35 10,es 36 11,es 37 12,ei 13,ei 14]),.v (.ag [es 35 15,es 36 16,es 35 17,es 36 18,es 37 19,ei 20,ei 21])],inO:=[],nIn:=22,outS:=[.ag [.own 0,.own 1,.own 2,.own 3,.own 4,ei 5,ei 6],.c (ei 7)],outO:=[.row 35 (.v 0),.row 36 (.v 1),.row 35 (.v 2),.row 36 (.v 3),.row 37 (.v 4)],nOut:=8,flat:=false }
def s248:Sig:={ f:=54,inS:=[.v (.ag [es 22 0,es 23 1]),.v (.ag [es 26 2,es 27 3,es 30 4,es 26 5,es 26 6,ei 7]),.v (.ag [es 26 8,es 27 9,es 30 10,es 26 11,es 26 12,ei 13])],inO:=[],nIn:=14,outS:=[.ag [.own 0,.own 1,.own 2,.own 3,.own 4,ei 5,ei 6],.c (ei 7)],outO:=[.row 35 (.v 0),.row 36 (.v 1),.row 35 (.v 2),.row 36 (.v 3),.row 37 (.v 4)],nOut:=8,flat:=false }
def s249:Sig:={ f:=99,inS:=[.v (.ag [es 26 0,es 27 1,es 30 2,es 26 3,es 26 4,ei 5]),.v (.ag [es 26 6,es 27 7,es 30 8,es 26 9,es 26 10,ei 11])],inO:=[],nIn:=12,outS:=[.ag [.own 0,.own 1,.own 2,.own 3,.own 4,ei 5,ei 6],.c (.e .bool (.v 7))],outO:=[.row 35 (.v 0),.row 36 (.v 1),.row 35 (.v 2),.row 36 (.v 3),.row 37 (.v 4)],nOut:=8,flat:=false }
def s250:Sig:={ f:=156,inS:=[.v (.ag [es 26 0,es 27 1,es 30 2,es 26 3,es 26 4,ei 5]),.v (.ag [es 26 6,es 27 7,es 30 8,es 26 9,es 26 10,ei 11])],inO:=[],nIn:=12,outS:=[.c (.e .bool (.v 0))],outO:=[],nOut:=1,flat:=true }
def s251:Sig:={ f:=157,inS:=[.v (.ag [es 26 0,es 27 1,es 30 2,es 26 3,es 26 4,ei 5]),.v (.ag [es 26 6,es 27 7,es 30 8,es 26 9,es 26 10,ei 11])],inO:=[],nIn:=12,outS:=[.c (.own 0),.c (.own 1)],outO:=[.row 35 (.v 0),.row 36 (.v 1)],nOut:=2,flat:=false }
def s252:Sig:={ f:=24,inS:=[.v (.ag [es 35 0,es 36 1,es 35 2,es 36 3,es 37 4,ei 5,ei 6]),.v (.ag [es 35 7,es 36 8,es 35 9,es 36 10,es 37 11,ei 12,ei 13])],inO:=[],nIn:=14,outS:=[.c (.e .bool (.v 0))],outO:=[],nOut:=1,flat:=true }
def s253:Sig:={ f:=59,inS:=[.v (.c (es 35 0)),.v (.c (es 35 1))],inO:=[],nIn:=2,outS:=[.c (.e .bool (.v 0))],outO:=[],nOut:=1,flat:=true }
def s254:Sig:={ f:=60,inS:=[.v (.c (es 36 0)),.v (.c (es 36 1))],inO:=[],nIn:=2,outS:=[.c (.e .bool (.v 0))],outO:=[],nOut:=1,flat:=true }
def sigs:List Sig:=[s0,s1,s2,s3,s4,s5,s6,s7,s8,s9,s10,s11,s12,s13,s14,s15,s16,s17,s18,s19,s20,s21,s22,s23,s24,s25,s26,s27,s28,s29,s30,s31,s32,s33,s34,s35,s36,s37,s38,s39,s40,s41,s42,s43,s44,s45,s46,s47,s48,s49,s50,s51,s52,s53,s54,s55,s56,s57,s58,s59,s60,s61,s62,s63,s64,s65,s66,s67,s68,s69,s70,s71,s72,s73,s74,s75,s76,s77,s78,s79,s80,s81,s82,s83,s84,s85,s86,s87,s88,s89,s90,s91,s92,s93,s94,s95,s96,s97,s98,s99,s100,s101,s102,s103,s104,s105,s106,s107,s108,s109,s110,s111,s112,s113,s114,s115,s116,s117,s118,s119,s120,s121,s122,s123,s124,s125,s126,s127,s128,s129,s130,s131,s132,s133,s134,s135,s136,s137,s138,s139,s140,s141,s142,s143,s144,s145,s146,s147,s148,s149,s150,s151,s152,s153,s154,s155,s156,s157,s158,s159,s160,s161,s162,s163,s164,s165,s166,s167,s168,s169,s170,s171,s172,s173,s174,s175,s176,s177,s178,s179,s180,s181,s182,s183,s184,s185,s186,s187,s188,s189,s190,s191,s192,s193,s194,s195,s196,s197,s198,s199,s200,s201,s202,s203,s204,s205,s206,s207,s208,s209,s210,s211,s212,s213,s214,s215,s216,s217,s218,s219,s220,s221,s222,s223,s224,s225,s226,s227,s228,s229,s230,s231,s232,s233,s234,s235,s236,s237,s238,s239,s240,s241,s242,s243,s244,s245,s246,s247,s248,s249,s250,s251,s252,s253,s254]
noncomputable def env:Env:={ ti:=tyOf,eqt:=[7,8,38,52,53,83,84,86,87,132,133,143,144,153,154,158,165,213,214],dat:=[(230,6),(105,7),(105,9),(105,38),(148,1012),(148,1013),(148,1014)],deepF:=[(163,35),(180,35),(181,35)],deepT:=[],ren:=[],sigs:=sigs,funcs:=fun f=>Tryz.prog.funcs[f]? }
end Go.SX.T57
