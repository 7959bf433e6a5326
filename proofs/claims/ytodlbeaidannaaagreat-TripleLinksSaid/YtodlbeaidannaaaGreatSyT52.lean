/-
The table of types and the shapes of the functions that chapter 52 reaches: printed by a program of this repo.
-/
import Derived.Test.YtodlbeaidannaaaGreatSxEqTy
import Derived.Test.YtodlbeaidannaaaGreatProg
import Derived.KernelRfl
namespace Go.SX.T52
open Go.SX Go.Proofs

def tyTab : List TI := [
  .bad,
  .other,
  .one (.int .i64),
  .one (.int .i64),
  .one .bool,
  .one (.int .u8),
  .one (.int .u8),
  .ag true [some (.int .i64), some (.int .i64), some .bool, some (.int .u8)] [(0, 1, false), (1, 1, false), (2, 1, false), (3, 1, false)],
  .ag true [some (.int .i64), some (.int .i64), some .bool, some (.int .u8)] [(0, 1, false), (1, 1, false), (2, 1, false), (3, 1, false)],
  .one .str,
  .one .str,
  .one .str,
  .one (.int .u64),
  .ag true [some .str, some (.int .u64)] [(0, 1, false), (1, 1, false)],
  .ag true [some .str, some (.int .u64)] [(0, 1, false), (1, 1, false)],
  .other,
  .other,
  .other,
  .ag true [none] [(0, 1, false)],
  .ag true [none] [(0, 1, false)],
  .other,
  .one (.int .i32),
  .sl 97 true [.str, (.int .i64), .bool, (.sl 95)],
  .sl 99 true [.str, (.int .i64), (.int .i64), (.int .i64), (.int .i64), (.int .i64), (.int .i64)],
  .ag true [some (.sl 22), some (.sl 23)] [(0, 1, false), (1, 1, false)],
  .ag true [some (.sl 22), some (.sl 23)] [(0, 1, false), (1, 1, false)],
  .sl 3 false [(.int .i64)],
  .ag true [some (.sl 26), some (.sl 26)] [(0, 1, false), (1, 1, false)],
  .ag true [some (.sl 26), some (.sl 26)] [(0, 1, false), (1, 1, false)],
  .ag true [some (.sl 22), some (.sl 23), some (.sl 26), some (.sl 26)] [(0, 2, true), (2, 2, true)],
  .ag true [some (.sl 22), some (.sl 23), some (.sl 26), some (.sl 26)] [(0, 2, true), (2, 2, true)],
  .sl 73 true [(.int .i64), (.int .i64), (.int .i64)],
  .ag true [some (.sl 26), some (.sl 31)] [(0, 1, false), (1, 1, false)],
  .ag true [some (.sl 26), some (.sl 31)] [(0, 1, false), (1, 1, false)],
  .sl 26 false [(.sl 26)],
  .ag true [some (.sl 26), some (.sl 31), some (.sl 34)] [(0, 2, true), (2, 1, false)],
  .ag true [some (.sl 26), some (.sl 31), some (.sl 34)] [(0, 2, true), (2, 1, false)],
  .other,
  .other,
  .sl 45 true [(.int .i64), (.int .i64)],
  .one (.int .i64),
  .bad,
  .other,
  .other,
  .ag true [some (.int .i64), some (.int .i64)] [(0, 1, false), (1, 1, false)],
  .ag true [some (.int .i64), some (.int .i64)] [(0, 1, false), (1, 1, false)],
  .other,
  .bad,
  .other,
  .other,
  .other,
  .bad,
  .other,
  .other,
  .other,
  .ag true [some (.sl 26), some (.sl 26)] [(0, 1, false), (1, 1, false)],
  .bad,
  .other,
  .other,
  .other,
  .other,
  .sl 102 true [(.int .u8), (.int .u8)],
  .sl 108 true [(.int .u8), (.int .u8), (.int .u8)],
  .ag true [some (.sl 61), some (.sl 62)] [(0, 1, false), (1, 1, false)],
  .ag true [some (.sl 61), some (.sl 62)] [(0, 1, false), (1, 1, false)],
  .bad,
  .other,
  .other,
  .other,
  .other,
  .other,
  .other,
  .ag true [some (.int .i64), some (.int .i64), some (.int .i64)] [(0, 1, false), (1, 1, false), (2, 1, false)],
  .ag true [some (.int .i64), some (.int .i64), some (.int .i64)] [(0, 1, false), (1, 1, false), (2, 1, false)],
  .other,
  .other,
  .other,
  .other,
  .other,
  .other,
  .other,
  .other,
  .other,
  .other,
  .other,
  .other,
  .other,
  .other,
  .other,
  .other,
  .other,
  .other,
  .other,
  .bad,
  .other,
  .sl 107 true [.str, (.int .i64), (.int .i64), (.sl 105)],
  .ag true [some .str, some (.int .i64), some .bool, some (.sl 95)] [(0, 1, false), (1, 1, false), (2, 1, false), (3, 1, false)],
  .ag true [some .str, some (.int .i64), some .bool, some (.sl 95)] [(0, 1, false), (1, 1, false), (2, 1, false), (3, 1, false)],
  .ag true [some .str, some (.int .i64), some (.int .i64), some (.int .i64), some (.int .i64), some (.int .i64), some (.int .i64)] [(0, 1, false), (1, 1, false), (2, 1, false), (3, 1, false), (4, 1, false), (5, 1, false), (6, 1, false)],
  .ag true [some .str, some (.int .i64), some (.int .i64), some (.int .i64), some (.int .i64), some (.int .i64), some (.int .i64)] [(0, 1, false), (1, 1, false), (2, 1, false), (3, 1, false), (4, 1, false), (5, 1, false), (6, 1, false)],
  .other,
  .other,
  .ag false [some (.int .u8), some (.int .u8)] [(0, 1, false), (1, 1, false)],
  .bad,
  .other,
  .sl 9 false [.str],
  .ag true [some .str, some (.int .i64), some (.int .i64), some (.sl 105)] [(0, 1, false), (1, 1, false), (2, 1, false), (3, 1, false)],
  .ag true [some .str, some (.int .i64), some (.int .i64), some (.sl 105)] [(0, 1, false), (1, 1, false), (2, 1, false), (3, 1, false)],
  .ag false [some (.int .u8), some (.int .u8), some (.int .u8)] [(0, 1, false), (1, 1, false), (2, 1, false)],
  .other,
  .other,
  .other,
  .other,
  .other,
  .one (.int .u64),
  .bad,
  .other,
  .other,
  .other,
  .other,
  .sl 34 false [(.sl 34)],
  .other,
  .other,
  .other,
  .ag true [some (.sl 26), some (.sl 26)] [(0, 1, false), (1, 1, false)],
  .bad,
  .other,
  .other,
  .other,
  .other,
  .other,
  .other,
  .other,
  .other,
  .one (.int .i64),
  .bad,
  .other,
  .other,
  .other,
  .bad,
  .other,
  .other,
  .one (.int .u32),
  .other,
  .one (.int .u64),
  .other,
  .other,
  .other,
  .other,
  .other,
  .other,
  .other,
  .other,
  .other,
  .other,
  .one (.int .u64),
  .other,
  .other,
  .other,
  .other,
  .other,
  .other,
  .other,
  .other,
  .other,
  .other,
  .other,
  .other,
  .other,
  .other,
  .other,
  .other,
  .other,
  .other,
  .bad,
  .other,
  .bad,
  .other,
  .ag true [some (.int .i64), some .str, some (.int .i64)] [(0, 1, false), (1, 1, false), (2, 1, false)],
  .ag true [some (.int .i64), some .str, some (.int .i64)] [(0, 1, false), (1, 1, false), (2, 1, false)],
  .other,
  .other,
  .other,
  .other,
  .other,
  .other,
  .other,
  .other,
  .bad,
  .other,
  .other,
  .other,
  .other,
  .bad,
  .other,
  .other,
  .other,
  .other,
  .other,
  .other,
  .other,
  .other,
  .other,
  .other,
  .ag true [none, none, none, some .str] [(0, 1, false), (1, 1, false), (2, 1, false), (3, 1, false)],
  .ag true [none, none, none, some .str] [(0, 1, false), (1, 1, false), (2, 1, false), (3, 1, false)],
  .ag false [] [],
  .bad,
  .bad,
  .other,
  .one (.int .u8),
  .one (.int .u8),
  .other,
  .other,
  .one (.int .i32),
  .one (.int .i32),
  .ag true [some (.int .u64), some (.int .u64), some (.int .u32), some (.int .u8), some (.int .u8), some (.int .u8), some (.int .u8), none, none, some (.int .i32), some (.int .i32)] [(0, 1, false), (1, 1, false), (2, 1, false), (3, 1, false), (4, 1, false), (5, 1, false), (6, 1, false), (7, 1, false), (8, 1, false), (9, 1, false), (10, 1, false)],
  .ag true [some (.int .u64), some (.int .u64), some (.int .u32), some (.int .u8), some (.int .u8), some (.int .u8), some (.int .u8), none, none, some (.int .i32), some (.int .i32)] [(0, 1, false), (1, 1, false), (2, 1, false), (3, 1, false), (4, 1, false), (5, 1, false), (6, 1, false), (7, 1, false), (8, 1, false), (9, 1, false), (10, 1, false)],
  .bad]
def tyOf (t : TypeId) : TI := (tyTab[t]?).getD .bad
/-- scarfjoint/scarfjointlaw52.TripleLinks -/
def s0 : Sig := { f := 3, inS := [.v (.ag [.e (.sl 22) (.v 0), .e (.sl 23) (.v 1), .e (.sl 26) (.v 2), .e (.sl 26) (.v 3)]), .v (.ag [.e (.sl 26) (.v 4), .e (.sl 31) (.v 5), .e (.sl 34) (.v 6)])], inO := [], nIn := 7, outS := [.c (.e .bool (.v 0))], outO := [], nOut := 1, flat := true }
/-- scarfjoint/scarfjointlaw52.awake -/
def s1 : Sig := { f := 9, inS := [], inO := [], nIn := 0, outS := [.c (.e .bool (.v 0))], outO := [], nOut := 1, flat := true }
/-- scarfjoint/scarfjointref52.Example -/
def s2 : Sig := { f := 25, inS := [], inO := [], nIn := 0, outS := [.ag [.own 0, .own 1], .ag [.own 2, .own 3]], outO := [.row 22 (.v 0), .row 23 (.v 1), .row 26 (.v 2), .row 26 (.v 3)], nOut := 4, flat := false }
/-- scarfjoint/scarfjointref52.edge -/
def s3 : Sig := { f := 56, inS := [.v (.c (.e .str (.v 0))), .v (.c (.e (.int .i64) (.v 1))), .v (.c (.e (.int .i64) (.v 2)))], inO := [], nIn := 3, outS := [.ag [.e .str (.v 0), .e (.int .i64) (.v 1), .e (.int .i64) (.v 2), .e (.int .i64) (.v 3), .e (.int .i64) (.v 4), .e (.int .i64) (.v 5), .e (.int .i64) (.v 6)]], outO := [], nOut := 7, flat := true }
/-- scarfjoint/triple.Links -/
def s4 : Sig := { f := 11, inS := [.v (.ag [.e (.sl 22) (.v 0), .e (.sl 23) (.v 1)]), .v (.ag [.e (.sl 26) (.v 2), .e (.sl 26) (.v 3)]), .v (.ag [.e (.sl 26) (.v 4), .e (.sl 31) (.v 5), .e (.sl 34) (.v 6)])], inO := [], nIn := 7, outS := [.c (.own 0), .c (.e (.int .i64) (.v 1))], outO := [.row 39 (.v 0)], nOut := 2, flat := true }
/-- scarfjoint/triple.Valid -/
def s5 : Sig := { f := 22, inS := [.v (.ag [.e (.sl 22) (.v 0), .e (.sl 23) (.v 1)]), .v (.ag [.e (.sl 26) (.v 2), .e (.sl 26) (.v 3)]), .v (.ag [.e (.sl 26) (.v 4), .e (.sl 31) (.v 5), .e (.sl 34) (.v 6)])], inO := [], nIn := 7, outS := [.c (.e (.int .i64) (.v 0))], outO := [], nOut := 1, flat := true }
/-- scarfjoint/triple.sorts -/
def s6 : Sig := { f := 37, inS := [.v (.ag [.e (.sl 22) (.v 0), .e (.sl 23) (.v 1)]), .v (.ag [.e (.sl 26) (.v 2), .e (.sl 26) (.v 3)])], inO := [], nIn := 4, outS := [.c (.e (.int .i64) (.v 0))], outO := [], nOut := 1, flat := true }
/-- scarfjoint/types.Valid -/
def s7 : Sig := { f := 64, inS := [.v (.ag [.e (.sl 22) (.v 0), .e (.sl 23) (.v 1)])], inO := [], nIn := 2, outS := [.c (.e .str (.v 0)), .c (.e (.int .i64) (.v 1))], outO := [], nOut := 2, flat := true }
/-- scarfjoint/types.node -/
def s8 : Sig := { f := 94, inS := [.v (.ag [.e (.sl 22) (.v 0), .e (.sl 23) (.v 1)]), .v (.c (.e (.int .i64) (.v 2)))], inO := [], nIn := 3, outS := [.c (.e (.int .i64) (.v 0))], outO := [], nOut := 1, flat := true }
/-- scarfjoint/token.IsName -/
def s9 : Sig := { f := 118, inS := [.v (.c (.e .str (.v 0)))], inO := [], nIn := 1, outS := [.c (.e .bool (.v 0))], outO := [], nOut := 1, flat := true }
/-- scarfjoint/token.whole -/
def s10 : Sig := { f := 141, inS := [.v (.ag [.e (.int .i64) (.v 0), .e .str (.v 1), .e (.int .i64) (.v 2)])], inO := [], nIn := 3, outS := [.c (.e .str (.v 0)), .c (.e .bool (.v 1))], outO := [], nOut := 2, flat := true }
/-- scarfjoint/token.next -/
def s11 : Sig := { f := 156, inS := [.v (.c (.e .str (.v 0)))], inO := [], nIn := 1, outS := [.c (.e (.int .i64) (.v 0)), .c (.e (.int .i64) (.v 1)), .c (.e (.int .i64) (.v 2))], outO := [], nOut := 3, flat := true }
/-- scarfjoint/token.letter -/
def s12 : Sig := { f := 161, inS := [.v (.c (.e (.int .u8) (.v 0)))], inO := [], nIn := 1, outS := [.c (.e .bool (.v 0))], outO := [], nOut := 1, flat := true }
/-- scarfjoint/token.run -/
def s13 : Sig := { f := 162, inS := [.v (.c (.e .str (.v 0))), .v (.c (.fn 163 []))], inO := [], nIn := 1, outS := [.c (.e (.int .i64) (.v 0))], outO := [], nOut := 1, flat := true }
/-- scarfjoint/token.part -/
def s14 : Sig := { f := 163, inS := [.v (.c (.e (.int .u8) (.v 0)))], inO := [], nIn := 1, outS := [.c (.e .bool (.v 0))], outO := [], nOut := 1, flat := true }
/-- scarfjoint/token.digit -/
def s15 : Sig := { f := 164, inS := [.v (.c (.e (.int .u8) (.v 0)))], inO := [], nIn := 1, outS := [.c (.e .bool (.v 0))], outO := [], nOut := 1, flat := true }
/-- scarfjoint/token.run -/
def s16 : Sig := { f := 162, inS := [.v (.c (.e .str (.v 0))), .v (.c (.fn 164 []))], inO := [], nIn := 1, outS := [.c (.e (.int .i64) (.v 0))], outO := [], nOut := 1, flat := true }
/-- scarfjoint/token.quoted -/
def s17 : Sig := { f := 165, inS := [.v (.c (.e .str (.v 0)))], inO := [], nIn := 1, outS := [.c (.e (.int .i64) (.v 0)), .c (.e (.int .i64) (.v 1))], outO := [], nOut := 2, flat := true }
/-- scarfjoint/token.run -/
def s18 : Sig := { f := 162, inS := [.v (.c (.e .str (.v 0))), .v (.c (.fn 174 []))], inO := [], nIn := 1, outS := [.c (.e (.int .i64) (.v 0))], outO := [], nOut := 1, flat := true }
/-- scarfjoint/token.quoted$1 -/
def s19 : Sig := { f := 174, inS := [.v (.c (.e (.int .u8) (.v 0)))], inO := [], nIn := 1, outS := [.c (.e .bool (.v 0))], outO := [], nOut := 1, flat := true }
/-- scarfjoint/token.pair -/
def s20 : Sig := { f := 166, inS := [.v (.c (.e .str (.v 0)))], inO := [], nIn := 1, outS := [.c (.e .bool (.v 0))], outO := [], nOut := 1, flat := true }
/-- slices.Contains[[]string,string] -/
def s21 : Sig := { f := 158, inS := [.v (.c (.e (.sl 105) (.v 0))), .v (.c (.e .str (.v 1)))], inO := [], nIn := 2, outS := [.c (.e .bool (.v 0))], outO := [], nOut := 1, flat := true }
/-- slices.Index[[]string,string] -/
def s22 : Sig := { f := 168, inS := [.v (.c (.e (.sl 105) (.v 0))), .v (.c (.e .str (.v 1)))], inO := [], nIn := 2, outS := [.c (.e (.int .i64) (.v 0))], outO := [], nOut := 1, flat := true }
/-- strings.IndexByte -/
def s23 : Sig := { f := 167, inS := [.v (.c (.e .str (.v 0))), .v (.c (.e (.int .u8) (.v 1)))], inO := [], nIn := 2, outS := [.c (.e (.int .i64) (.v 0))], outO := [], nOut := 1, flat := true }
/-- internal/stringslite.IndexByte -/
def s24 : Sig := { f := 175, inS := [.v (.c (.e .str (.v 0))), .v (.c (.e (.int .u8) (.v 1)))], inO := [], nIn := 2, outS := [.c (.e (.int .i64) (.v 0))], outO := [], nOut := 1, flat := true }
/-- internal/bytealg.IndexByteString -/
def s25 : Sig := { f := 176, inS := [.v (.c (.e .str (.v 0))), .v (.c (.e (.int .u8) (.v 1)))], inO := [], nIn := 2, outS := [.c (.e (.int .i64) (.v 0))], outO := [], nOut := 1, flat := true }
/-- slices.ContainsFunc[[]scarfjoint/api.NodeType,scarfjoint/api.NodeType] -/
def s26 : Sig := { f := 119, inS := [.v (.c (.e (.sl 22) (.v 0))), .v (.c (.fn 120 [.r [(.str, (.v 1)), ((.int .i64), (.v 2)), (.bool, (.v 3)), ((.sl 95), (.v 4))]]))], inO := [], nIn := 5, outS := [.c (.e .bool (.v 0))], outO := [], nOut := 1, flat := true }
/-- slices.IndexFunc[[]scarfjoint/api.NodeType,scarfjoint/api.NodeType] -/
def s27 : Sig := { f := 142, inS := [.v (.c (.e (.sl 22) (.v 0))), .v (.c (.fn 120 [.r [(.str, (.v 1)), ((.int .i64), (.v 2)), (.bool, (.v 3)), ((.sl 95), (.v 4))]]))], inO := [], nIn := 5, outS := [.c (.e (.int .i64) (.v 0))], outO := [], nOut := 1, flat := true }
/-- scarfjoint/types.node$1 -/
def s28 : Sig := { f := 120, inS := [.v (.ag [.e .str (.v 0), .e (.int .i64) (.v 1), .e .bool (.v 2), .e (.sl 95) (.v 3)]), .v (.c (.r [(.str, (.v 4)), ((.int .i64), (.v 5)), (.bool, (.v 6)), ((.sl 95), (.v 7))]))], inO := [], nIn := 8, outS := [.c (.e .bool (.v 0))], outO := [], nOut := 1, flat := true }
/-- scarfjoint/types.attrs -/
def s29 : Sig := { f := 121, inS := [.v (.ag [.e (.sl 22) (.v 0), .e (.sl 23) (.v 1)]), .v (.c (.e (.int .i64) (.v 2)))], inO := [], nIn := 3, outS := [.c (.own 0)], outO := [.row 95 (.v 0)], nOut := 1, flat := false }
/-- scarfjoint/types.attribute -/
def s30 : Sig := { f := 122, inS := [.v (.ag [.e .str (.v 0), .e (.int .i64) (.v 1), .e (.int .i64) (.v 2), .e (.sl 105) (.v 3)]), .v (.c (.e (.sl 95) (.v 4)))], inO := [], nIn := 5, outS := [.c (.e (.int .i64) (.v 0))], outO := [], nOut := 1, flat := true }
/-- slices.ContainsFunc[[]scarfjoint/api.Attr,scarfjoint/api.Attr] -/
def s31 : Sig := { f := 143, inS := [.v (.c (.e (.sl 95) (.v 0))), .v (.c (.fn 144 [.r [(.str, (.v 1)), ((.int .i64), (.v 2)), ((.int .i64), (.v 3)), ((.sl 105), (.v 4))]]))], inO := [], nIn := 5, outS := [.c (.e .bool (.v 0))], outO := [], nOut := 1, flat := true }
/-- slices.IndexFunc[[]scarfjoint/api.Attr,scarfjoint/api.Attr] -/
def s32 : Sig := { f := 157, inS := [.v (.c (.e (.sl 95) (.v 0))), .v (.c (.fn 144 [.r [(.str, (.v 1)), ((.int .i64), (.v 2)), ((.int .i64), (.v 3)), ((.sl 105), (.v 4))]]))], inO := [], nIn := 5, outS := [.c (.e (.int .i64) (.v 0))], outO := [], nOut := 1, flat := true }
/-- scarfjoint/types.attribute$1 -/
def s33 : Sig := { f := 144, inS := [.v (.ag [.e .str (.v 0), .e (.int .i64) (.v 1), .e (.int .i64) (.v 2), .e (.sl 105) (.v 3)]), .v (.c (.r [(.str, (.v 4)), ((.int .i64), (.v 5)), ((.int .i64), (.v 6)), ((.sl 105), (.v 7))]))], inO := [], nIn := 8, outS := [.c (.e .bool (.v 0))], outO := [], nOut := 1, flat := true }
/-- scarfjoint/types.names -/
def s34 : Sig := { f := 145, inS := [.v (.c (.e (.sl 105) (.v 0)))], inO := [], nIn := 1, outS := [.c (.e (.int .i64) (.v 0))], outO := [], nOut := 1, flat := true }
/-- scarfjoint/types.edge -/
def s35 : Sig := { f := 95, inS := [.v (.ag [.e (.sl 22) (.v 0), .e (.sl 23) (.v 1)]), .v (.c (.e (.int .i64) (.v 2)))], inO := [], nIn := 3, outS := [.c (.e (.int .i64) (.v 0))], outO := [], nOut := 1, flat := true }
/-- slices.ContainsFunc[[]scarfjoint/api.EdgeType,scarfjoint/api.EdgeType] -/
def s36 : Sig := { f := 124, inS := [.v (.c (.e (.sl 23) (.v 0))), .v (.c (.fn 125 [.r [(.str, (.v 1)), ((.int .i64), (.v 2)), ((.int .i64), (.v 3)), ((.int .i64), (.v 4)), ((.int .i64), (.v 5)), ((.int .i64), (.v 6)), ((.int .i64), (.v 7))]]))], inO := [], nIn := 8, outS := [.c (.e .bool (.v 0))], outO := [], nOut := 1, flat := true }
/-- slices.IndexFunc[[]scarfjoint/api.EdgeType,scarfjoint/api.EdgeType] -/
def s37 : Sig := { f := 146, inS := [.v (.c (.e (.sl 23) (.v 0))), .v (.c (.fn 125 [.r [(.str, (.v 1)), ((.int .i64), (.v 2)), ((.int .i64), (.v 3)), ((.int .i64), (.v 4)), ((.int .i64), (.v 5)), ((.int .i64), (.v 6)), ((.int .i64), (.v 7))]]))], inO := [], nIn := 8, outS := [.c (.e (.int .i64) (.v 0))], outO := [], nOut := 1, flat := true }
/-- scarfjoint/types.edge$2 -/
def s38 : Sig := { f := 125, inS := [.v (.ag [.e .str (.v 0), .e (.int .i64) (.v 1), .e (.int .i64) (.v 2), .e (.int .i64) (.v 3), .e (.int .i64) (.v 4), .e (.int .i64) (.v 5), .e (.int .i64) (.v 6)]), .v (.c (.r [(.str, (.v 7)), ((.int .i64), (.v 8)), ((.int .i64), (.v 9)), ((.int .i64), (.v 10)), ((.int .i64), (.v 11)), ((.int .i64), (.v 12)), ((.int .i64), (.v 13))]))], inO := [], nIn := 14, outS := [.c (.e .bool (.v 0))], outO := [], nOut := 1, flat := true }
/-- scarfjoint/types.edge$1 -/
def s39 : Sig := { f := 123, inS := [.v (.c (.e (.int .i64) (.v 0))), .v (.c (.r [((.sl 22), (.v 1)), ((.sl 23), (.v 2))]))], inO := [], nIn := 3, outS := [.c (.e .bool (.v 0))], outO := [], nOut := 1, flat := true }
/-- scarfjoint/types.bounded -/
def s40 : Sig := { f := 126, inS := [.v (.c (.e (.int .i64) (.v 0))), .v (.c (.e (.int .i64) (.v 1)))], inO := [], nIn := 2, outS := [.c (.e .bool (.v 0))], outO := [], nOut := 1, flat := true }
/-- scarfjoint/triple.is -/
def s41 : Sig := { f := 65, inS := [.v (.c (.e (.int .i64) (.v 0)))], inO := [], nIn := 1, outS := [.c (.e .bool (.v 0))], outO := [], nOut := 1, flat := true }
/-- scarfjoint/triple.edge -/
def s42 : Sig := { f := 66, inS := [.v (.ag [.e (.sl 22) (.v 0), .e (.sl 23) (.v 1)]), .v (.ag [.e (.sl 26) (.v 2), .e (.sl 26) (.v 3)]), .v (.c (.e (.int .i64) (.v 4)))], inO := [], nIn := 5, outS := [.c (.e (.int .i64) (.v 0))], outO := [], nOut := 1, flat := true }
/-- scarfjoint/host.Valid -/
def s43 : Sig := { f := 54, inS := [.v (.ag [.e (.sl 22) (.v 0), .e (.sl 23) (.v 1)]), .v (.ag [.e (.sl 26) (.v 2), .e (.sl 31) (.v 3), .e (.sl 34) (.v 4)])], inO := [], nIn := 5, outS := [.c (.e (.int .i64) (.v 0)), .c (.e (.int .i64) (.v 1))], outO := [], nOut := 2, flat := true }
/-- scarfjoint/graph.Valid -/
def s44 : Sig := { f := 75, inS := [.v (.ag [.e (.sl 26) (.v 0), .e (.sl 31) (.v 1)])], inO := [], nIn := 2, outS := [.c (.e (.int .i64) (.v 0))], outO := [], nOut := 1, flat := true }
/-- slices.ContainsFunc[[]int,int] -/
def s45 : Sig := { f := 102, inS := [.v (.c (.e (.sl 26) (.v 0))), .v (.c (.fn 103 []))], inO := [], nIn := 1, outS := [.c (.e .bool (.v 0))], outO := [], nOut := 1, flat := true }
/-- slices.IndexFunc[[]int,int] -/
def s46 : Sig := { f := 134, inS := [.v (.c (.e (.sl 26) (.v 0))), .v (.c (.fn 103 []))], inO := [], nIn := 1, outS := [.c (.e (.int .i64) (.v 0))], outO := [], nOut := 1, flat := true }
/-- scarfjoint/graph.Valid$1 -/
def s47 : Sig := { f := 103, inS := [.v (.c (.e (.int .i64) (.v 0)))], inO := [], nIn := 1, outS := [.c (.e .bool (.v 0))], outO := [], nOut := 1, flat := true }
/-- scarfjoint/graph.within -/
def s48 : Sig := { f := 104, inS := [.v (.c (.e (.int .i64) (.v 0))), .v (.c (.e (.int .i64) (.v 1)))], inO := [], nIn := 2, outS := [.c (.e .bool (.v 0))], outO := [], nOut := 1, flat := true }
/-- slices.ContainsFunc[[]scarfjoint/api.Edge,scarfjoint/api.Edge] -/
def s49 : Sig := { f := 105, inS := [.v (.c (.e (.sl 31) (.v 0))), .v (.c (.fn 106 [.r [((.sl 26), (.v 1)), ((.sl 31), (.v 2))]]))], inO := [], nIn := 3, outS := [.c (.e .bool (.v 0))], outO := [], nOut := 1, flat := true }
/-- slices.IndexFunc[[]scarfjoint/api.Edge,scarfjoint/api.Edge] -/
def s50 : Sig := { f := 135, inS := [.v (.c (.e (.sl 31) (.v 0))), .v (.c (.fn 106 [.r [((.sl 26), (.v 1)), ((.sl 31), (.v 2))]]))], inO := [], nIn := 3, outS := [.c (.e (.int .i64) (.v 0))], outO := [], nOut := 1, flat := true }
/-- scarfjoint/graph.Valid$2 -/
def s51 : Sig := { f := 106, inS := [.v (.ag [.e (.int .i64) (.v 0), .e (.int .i64) (.v 1), .e (.int .i64) (.v 2)]), .v (.c (.r [((.sl 26), (.v 3)), ((.sl 31), (.v 4))]))], inO := [], nIn := 5, outS := [.c (.e .bool (.v 0))], outO := [], nOut := 1, flat := true }
/-- scarfjoint/graph.fits -/
def s52 : Sig := { f := 107, inS := [.v (.ag [.e (.int .i64) (.v 0), .e (.int .i64) (.v 1), .e (.int .i64) (.v 2)]), .v (.c (.e (.int .i64) (.v 3)))], inO := [], nIn := 4, outS := [.c (.e .bool (.v 0))], outO := [], nOut := 1, flat := true }
/-- scarfjoint/host.node -/
def s53 : Sig := { f := 76, inS := [.v (.ag [.e (.sl 22) (.v 0), .e (.sl 23) (.v 1)]), .v (.c (.e (.int .i64) (.v 2))), .v (.c (.e (.sl 26) (.v 3)))], inO := [], nIn := 4, outS := [.c (.e (.int .i64) (.v 0))], outO := [], nOut := 1, flat := true }
/-- scarfjoint/types.Attrs -/
def s54 : Sig := { f := 108, inS := [.v (.ag [.e (.sl 22) (.v 0), .e (.sl 23) (.v 1)]), .v (.c (.e (.int .i64) (.v 2)))], inO := [], nIn := 3, outS := [.c (.own 0), .c (.e (.int .i64) (.v 1))], outO := [.row 95 (.v 0)], nOut := 2, flat := false }
/-- scarfjoint/types.given -/
def s55 : Sig := { f := 109, inS := [.v (.ag [.e (.sl 22) (.v 0), .e (.sl 23) (.v 1)]), .v (.c (.e (.sl 26) (.v 2)))], inO := [], nIn := 3, outS := [.c (.e (.int .i64) (.v 0))], outO := [], nOut := 1, flat := true }
/-- slices.ContainsFunc[[]int,int] -/
def s56 : Sig := { f := 102, inS := [.v (.c (.e (.sl 26) (.v 0))), .v (.c (.fn 137 [.r [((.sl 22), (.v 1)), ((.sl 23), (.v 2))]]))], inO := [], nIn := 3, outS := [.c (.e .bool (.v 0))], outO := [], nOut := 1, flat := true }
/-- slices.IndexFunc[[]int,int] -/
def s57 : Sig := { f := 134, inS := [.v (.c (.e (.sl 26) (.v 0))), .v (.c (.fn 137 [.r [((.sl 22), (.v 1)), ((.sl 23), (.v 2))]]))], inO := [], nIn := 3, outS := [.c (.e (.int .i64) (.v 0))], outO := [], nOut := 1, flat := true }
/-- scarfjoint/types.given$1 -/
def s58 : Sig := { f := 137, inS := [.v (.c (.e (.int .i64) (.v 0))), .v (.c (.r [((.sl 22), (.v 1)), ((.sl 23), (.v 2))]))], inO := [], nIn := 3, outS := [.c (.e .bool (.v 0))], outO := [], nOut := 1, flat := true }
/-- slices.Clone[[]string,string] -/
def s59 : Sig := { f := 136, inS := [.v (.c (.e (.sl 105) (.v 0)))], inO := [], nIn := 1, outS := [.c (.own 0)], outO := [.row 105 (.v 0)], nOut := 1, flat := true }
/-- scarfjoint/types.Fits -/
def s60 : Sig := { f := 77, inS := [.v (.ag [.e (.sl 22) (.v 0), .e (.sl 23) (.v 1)]), .v (.c (.e (.int .i64) (.v 2))), .v (.c (.e (.int .i64) (.v 3))), .v (.c (.e (.int .i64) (.v 4)))], inO := [], nIn := 5, outS := [.c (.e .bool (.v 0))], outO := [], nOut := 1, flat := true }
/-- scarfjoint/types.is -/
def s61 : Sig := { f := 110, inS := [.v (.ag [.e (.sl 22) (.v 0), .e (.sl 23) (.v 1)]), .v (.c (.e (.int .i64) (.v 2))), .v (.c (.e (.int .i64) (.v 3)))], inO := [], nIn := 4, outS := [.c (.e .bool (.v 0))], outO := [], nOut := 1, flat := true }
/-- scarfjoint/types.line -/
def s62 : Sig := { f := 139, inS := [.v (.ag [.e (.sl 22) (.v 0), .e (.sl 23) (.v 1)]), .v (.c (.e (.int .i64) (.v 2)))], inO := [], nIn := 3, outS := [.c (.own 0)], outO := [.row 26 (.v 0)], nOut := 1, flat := true }
/-- slices.Reverse[[]int,int] -/
def s63 : Sig := { f := 155, inS := [.v (.c (.own 0))], inO := [.row 26 (.v 0)], nIn := 1, outS := [], outO := [.row 26 (.v 0)], nOut := 1, flat := true }
/-- slices.Contains[[]int,int] -/
def s64 : Sig := { f := 138, inS := [.v (.c (.e (.sl 26) (.v 0))), .v (.c (.e (.int .i64) (.v 1)))], inO := [], nIn := 2, outS := [.c (.e .bool (.v 0))], outO := [], nOut := 1, flat := true }
/-- slices.Index[[]int,int] -/
def s65 : Sig := { f := 154, inS := [.v (.c (.e (.sl 26) (.v 0))), .v (.c (.e (.int .i64) (.v 1)))], inO := [], nIn := 2, outS := [.c (.e (.int .i64) (.v 0))], outO := [], nOut := 1, flat := true }
/-- scarfjoint/triple.Links$1 -/
def s66 : Sig := { f := 32, inS := [.v (.c (.e (.int .i64) (.v 0))), .v (.c (.r [((.sl 26), (.v 1)), ((.sl 26), (.v 2))])), .v (.c (.r [((.sl 26), (.v 3)), ((.sl 31), (.v 4))]))], inO := [], nIn := 5, outS := [.c (.e (.int .i64) (.v 0))], outO := [], nOut := 1, flat := true }
/-- slices.Contains[[]scarfjoint/api.Pair,scarfjoint/api.Pair] -/
def s67 : Sig := { f := 27, inS := [.v (.c (.e (.sl 39) (.v 0))), .v (.ag [.e (.int .i64) (.v 1), .e (.int .i64) (.v 2)])], inO := [], nIn := 3, outS := [.c (.e .bool (.v 0))], outO := [], nOut := 1, flat := true }
/-- slices.Index[[]scarfjoint/api.Pair,scarfjoint/api.Pair] -/
def s68 : Sig := { f := 60, inS := [.v (.c (.e (.sl 39) (.v 0))), .v (.ag [.e (.int .i64) (.v 1), .e (.int .i64) (.v 2)])], inO := [], nIn := 3, outS := [.c (.e (.int .i64) (.v 0))], outO := [], nOut := 1, flat := true }
/-- slices.SortFunc[[]scarfjoint/api.Pair,scarfjoint/api.Pair] -/
def s69 : Sig := { f := 33, inS := [.v (.c (.own 0)), .v (.c (.fn 34 []))], inO := [.row 39 (.v 0)], nIn := 1, outS := [], outO := [.row 39 (.v 0)], nOut := 1, flat := true }
/-- slices.Equal[[]scarfjoint/api.Pair,scarfjoint/api.Pair] -/
def s70 : Sig := { f := 13, inS := [.v (.c (.e (.sl 39) (.v 0))), .v (.c (.e (.sl 39) (.v 1)))], inO := [], nIn := 2, outS := [.c (.e .bool (.v 0))], outO := [], nOut := 1, flat := true }
/-- scarfjoint/scarfjointlaw52.few -/
def s71 : Sig := { f := 10, inS := [.v (.ag [.e (.sl 22) (.v 0), .e (.sl 23) (.v 1)]), .v (.ag [.e (.sl 26) (.v 2), .e (.sl 26) (.v 3)]), .v (.ag [.e (.sl 26) (.v 4), .e (.sl 31) (.v 5), .e (.sl 34) (.v 6)])], inO := [], nIn := 7, outS := [.c (.e .bool (.v 0))], outO := [], nOut := 1, flat := true }
/-- scarfjoint/scarfjointref04.Few -/
def s72 : Sig := { f := 29, inS := [.v (.ag [.e (.sl 22) (.v 0), .e (.sl 23) (.v 1)])], inO := [], nIn := 2, outS := [.c (.e .bool (.v 0))], outO := [], nOut := 1, flat := true }
/-- scarfjoint/scarfjointref52.Few -/
def s73 : Sig := { f := 30, inS := [.v (.ag [.e (.sl 26) (.v 0), .e (.sl 26) (.v 1)])], inO := [], nIn := 2, outS := [.c (.e .bool (.v 0))], outO := [], nOut := 1, flat := true }
/-- scarfjoint/scarfjointref15.Few -/
def s74 : Sig := { f := 31, inS := [.v (.ag [.e (.sl 26) (.v 0), .e (.sl 31) (.v 1), .e (.sl 34) (.v 2)])], inO := [], nIn := 3, outS := [.c (.e .bool (.v 0))], outO := [], nOut := 1, flat := true }
/-- scarfjoint/scarfjointref05.Few -/
def s75 : Sig := { f := 61, inS := [.v (.ag [.e (.sl 26) (.v 0), .e (.sl 31) (.v 1)])], inO := [], nIn := 2, outS := [.c (.e .bool (.v 0))], outO := [], nOut := 1, flat := true }
/-- scarfjoint/scarfjointref52.Links -/
def s76 : Sig := { f := 12, inS := [.v (.ag [.e (.sl 22) (.v 0), .e (.sl 23) (.v 1)]), .v (.ag [.e (.sl 26) (.v 2), .e (.sl 26) (.v 3)]), .v (.ag [.e (.sl 26) (.v 4), .e (.sl 31) (.v 5), .e (.sl 34) (.v 6)])], inO := [], nIn := 7, outS := [.c (.own 0), .c (.e (.int .i64) (.v 1))], outO := [.row 39 (.v 0)], nOut := 2, flat := true }
/-- scarfjoint/scarfjointref52.Valid -/
def s77 : Sig := { f := 23, inS := [.v (.ag [.e (.sl 22) (.v 0), .e (.sl 23) (.v 1)]), .v (.ag [.e (.sl 26) (.v 2), .e (.sl 26) (.v 3)]), .v (.ag [.e (.sl 26) (.v 4), .e (.sl 31) (.v 5), .e (.sl 34) (.v 6)])], inO := [], nIn := 7, outS := [.c (.e (.int .i64) (.v 0))], outO := [], nOut := 1, flat := true }
/-- scarfjoint/scarfjointref52.Sorts -/
def s78 : Sig := { f := 39, inS := [.v (.ag [.e (.sl 22) (.v 0), .e (.sl 23) (.v 1)]), .v (.ag [.e (.sl 26) (.v 2), .e (.sl 26) (.v 3)])], inO := [], nIn := 4, outS := [.c (.e (.int .i64) (.v 0))], outO := [], nOut := 1, flat := true }
/-- scarfjoint/scarfjointref04.Valid -/
def s79 : Sig := { f := 67, inS := [.v (.ag [.e (.sl 22) (.v 0), .e (.sl 23) (.v 1)])], inO := [], nIn := 2, outS := [.c (.e .str (.v 0)), .c (.e (.int .i64) (.v 1))], outO := [], nOut := 2, flat := true }
/-- scarfjoint/scarfjointref04.node -/
def s80 : Sig := { f := 96, inS := [.v (.ag [.e (.sl 22) (.v 0), .e (.sl 23) (.v 1)]), .v (.c (.e (.int .i64) (.v 2)))], inO := [], nIn := 3, outS := [.c (.e (.int .i64) (.v 0))], outO := [], nOut := 1, flat := true }
/-- scarfjoint/scarfjointref01.IsName -/
def s81 : Sig := { f := 127, inS := [.v (.c (.e .str (.v 0)))], inO := [], nIn := 1, outS := [.c (.e .bool (.v 0))], outO := [], nOut := 1, flat := true }
/-- scarfjoint/scarfjointref01.Right -/
def s82 : Sig := { f := 147, inS := [.v (.ag [.e (.int .i64) (.v 0), .e .str (.v 1), .e (.int .i64) (.v 2)])], inO := [], nIn := 3, outS := [.c (.e .bool (.v 0))], outO := [], nOut := 1, flat := true }
/-- scarfjoint/scarfjointref01.text -/
def s83 : Sig := { f := 159, inS := [.v (.ag [.e (.int .i64) (.v 0), .e .str (.v 1), .e (.int .i64) (.v 2)])], inO := [], nIn := 3, outS := [.c (.e .str (.v 0))], outO := [], nOut := 1, flat := true }
/-- scarfjoint/scarfjointref01.one -/
def s84 : Sig := { f := 160, inS := [.v (.c (.e .str (.v 0))), .v (.c (.e (.int .i64) (.v 1)))], inO := [], nIn := 2, outS := [.ag [.e (.int .i64) (.v 0), .e .str (.v 1), .e (.int .i64) (.v 2)], .c (.e (.int .i64) (.v 3)), .c (.e (.int .i64) (.v 4))], outO := [], nOut := 5, flat := true }
/-- scarfjoint/scarfjointref01.letter -/
def s85 : Sig := { f := 169, inS := [.v (.c (.e (.int .u8) (.v 0)))], inO := [], nIn := 1, outS := [.c (.e .bool (.v 0))], outO := [], nOut := 1, flat := true }
/-- scarfjoint/scarfjointref01.digit -/
def s86 : Sig := { f := 170, inS := [.v (.c (.e (.int .u8) (.v 0)))], inO := [], nIn := 1, outS := [.c (.e .bool (.v 0))], outO := [], nOut := 1, flat := true }
/-- scarfjoint/scarfjointref01.run -/
def s87 : Sig := { f := 171, inS := [.v (.c (.e .str (.v 0))), .v (.c (.e (.int .i64) (.v 1))), .v (.c (.e .bool (.v 2)))], inO := [], nIn := 3, outS := [.c (.e (.int .i64) (.v 0))], outO := [], nOut := 1, flat := true }
/-- scarfjoint/scarfjointref01.quoted -/
def s88 : Sig := { f := 172, inS := [.v (.c (.e .str (.v 0))), .v (.c (.e (.int .i64) (.v 1)))], inO := [], nIn := 2, outS := [.c (.e (.int .i64) (.v 0))], outO := [], nOut := 1, flat := true }
/-- scarfjoint/scarfjointref01.signs -/
def s89 : Sig := { f := 173, inS := [], inO := [], nIn := 0, outS := [.c (.own 0)], outO := [.row 105 (.v 0)], nOut := 1, flat := true }
/-- scarfjoint/scarfjointref04.in -/
def s90 : Sig := { f := 82, inS := [.v (.c (.e (.int .i64) (.v 0))), .v (.c (.e (.int .i64) (.v 1))), .v (.c (.e (.int .i64) (.v 2)))], inO := [], nIn := 3, outS := [.c (.e .bool (.v 0))], outO := [], nOut := 1, flat := true }
/-- scarfjoint/scarfjointref04.attrs -/
def s91 : Sig := { f := 81, inS := [.v (.ag [.e (.sl 22) (.v 0), .e (.sl 23) (.v 1)]), .v (.c (.e (.int .i64) (.v 2)))], inO := [], nIn := 3, outS := [.c (.own 0)], outO := [.row 95 (.v 0)], nOut := 1, flat := false }
/-- scarfjoint/scarfjointref04.attribute -/
def s92 : Sig := { f := 128, inS := [.v (.ag [.e .str (.v 0), .e (.int .i64) (.v 1), .e (.int .i64) (.v 2), .e (.sl 105) (.v 3)])], inO := [], nIn := 4, outS := [.c (.e (.int .i64) (.v 0))], outO := [], nOut := 1, flat := true }
/-- scarfjoint/scarfjointref04.names -/
def s93 : Sig := { f := 148, inS := [.v (.c (.e (.sl 105) (.v 0)))], inO := [], nIn := 1, outS := [.c (.e (.int .i64) (.v 0))], outO := [], nOut := 1, flat := true }
/-- scarfjoint/scarfjointref04.edge -/
def s94 : Sig := { f := 97, inS := [.v (.ag [.e (.sl 22) (.v 0), .e (.sl 23) (.v 1)]), .v (.c (.e (.int .i64) (.v 2)))], inO := [], nIn := 3, outS := [.c (.e (.int .i64) (.v 0))], outO := [], nOut := 1, flat := true }
/-- scarfjoint/scarfjointref04.bound -/
def s95 : Sig := { f := 129, inS := [.v (.c (.e (.int .i64) (.v 0))), .v (.c (.e (.int .i64) (.v 1)))], inO := [], nIn := 2, outS := [.c (.e .bool (.v 0))], outO := [], nOut := 1, flat := true }
/-- scarfjoint/scarfjointref52.sort -/
def s96 : Sig := { f := 68, inS := [.v (.c (.e (.int .i64) (.v 0)))], inO := [], nIn := 1, outS := [.c (.e .bool (.v 0))], outO := [], nOut := 1, flat := true }
/-- scarfjoint/scarfjointref15.Valid -/
def s97 : Sig := { f := 55, inS := [.v (.ag [.e (.sl 22) (.v 0), .e (.sl 23) (.v 1)]), .v (.ag [.e (.sl 26) (.v 2), .e (.sl 31) (.v 3), .e (.sl 34) (.v 4)])], inO := [], nIn := 5, outS := [.c (.e (.int .i64) (.v 0)), .c (.e (.int .i64) (.v 1))], outO := [], nOut := 2, flat := true }
/-- scarfjoint/scarfjointref05.Valid -/
def s98 : Sig := { f := 78, inS := [.v (.ag [.e (.sl 26) (.v 0), .e (.sl 31) (.v 1)])], inO := [], nIn := 2, outS := [.c (.e (.int .i64) (.v 0))], outO := [], nOut := 1, flat := true }
/-- scarfjoint/scarfjointref05.kind -/
def s99 : Sig := { f := 111, inS := [.v (.c (.e (.int .i64) (.v 0)))], inO := [], nIn := 1, outS := [.c (.e .bool (.v 0))], outO := [], nOut := 1, flat := true }
/-- scarfjoint/scarfjointref05.right -/
def s100 : Sig := { f := 112, inS := [.v (.ag [.e (.int .i64) (.v 0), .e (.int .i64) (.v 1), .e (.int .i64) (.v 2)]), .v (.c (.e (.int .i64) (.v 3)))], inO := [], nIn := 4, outS := [.c (.e .bool (.v 0))], outO := [], nOut := 1, flat := true }
/-- scarfjoint/scarfjointref15.node -/
def s101 : Sig := { f := 79, inS := [.v (.ag [.e (.sl 22) (.v 0), .e (.sl 23) (.v 1)]), .v (.c (.e (.int .i64) (.v 2))), .v (.c (.e (.sl 26) (.v 3)))], inO := [], nIn := 4, outS := [.c (.e (.int .i64) (.v 0))], outO := [], nOut := 1, flat := true }
/-- scarfjoint/scarfjointref04.Attrs -/
def s102 : Sig := { f := 58, inS := [.v (.ag [.e (.sl 22) (.v 0), .e (.sl 23) (.v 1)]), .v (.c (.e (.int .i64) (.v 2)))], inO := [], nIn := 3, outS := [.c (.own 0), .c (.e (.int .i64) (.v 1))], outO := [.row 95 (.v 0)], nOut := 2, flat := false }
/-- scarfjoint/scarfjointref04.given -/
def s103 : Sig := { f := 80, inS := [.v (.ag [.e (.sl 22) (.v 0), .e (.sl 23) (.v 1)]), .v (.c (.e (.int .i64) (.v 2))), .v (.c (.e (.int .i64) (.v 3)))], inO := [], nIn := 4, outS := [.c (.e (.int .i64) (.v 0))], outO := [], nOut := 1, flat := true }
/-- scarfjoint/scarfjointref04.Fits -/
def s104 : Sig := { f := 59, inS := [.v (.ag [.e (.sl 22) (.v 0), .e (.sl 23) (.v 1)]), .v (.c (.e (.int .i64) (.v 2))), .v (.c (.e (.int .i64) (.v 3))), .v (.c (.e (.int .i64) (.v 4)))], inO := [], nIn := 5, outS := [.c (.e .bool (.v 0))], outO := [], nOut := 1, flat := true }
/-- scarfjoint/scarfjointref04.Below1 -/
def s105 : Sig := { f := 83, inS := [.v (.ag [.e (.sl 22) (.v 0), .e (.sl 23) (.v 1)]), .v (.c (.e (.int .i64) (.v 2))), .v (.c (.e (.int .i64) (.v 3)))], inO := [], nIn := 4, outS := [.c (.e .bool (.v 0))], outO := [], nOut := 1, flat := true }
/-- scarfjoint/scarfjointref52.Part -/
def s106 : Sig := { f := 35, inS := [.v (.ag [.e (.sl 26) (.v 0), .e (.sl 26) (.v 1)]), .v (.ag [.e (.sl 26) (.v 2), .e (.sl 31) (.v 3)]), .v (.c (.e (.int .i64) (.v 4)))], inO := [], nIn := 5, outS := [.ag [.own 0, .own 1]], outO := [.row 26 (.v 0), .row 26 (.v 1)], nOut := 2, flat := true }
/-- scarfjoint/scarfjointref52.leads -/
def s107 : Sig := { f := 36, inS := [.v (.ag [.e (.sl 26) (.v 0), .e (.sl 31) (.v 1)]), .v (.c (.e (.int .i64) (.v 2))), .v (.c (.e (.int .i64) (.v 3)))], inO := [], nIn := 4, outS := [.c (.e .bool (.v 0))], outO := [], nOut := 1, flat := true }
/-- scarfjoint/scarfjointlaw52.TripleSwap -/
def s108 : Sig := { f := 4, inS := [.v (.ag [.e (.sl 22) (.v 0), .e (.sl 23) (.v 1), .e (.sl 26) (.v 2), .e (.sl 26) (.v 3)])], inO := [], nIn := 4, outS := [.c (.e .bool (.v 0))], outO := [], nOut := 1, flat := true }
/-- scarfjoint/triple.Swap -/
def s109 : Sig := { f := 14, inS := [.v (.ag [.e (.sl 22) (.v 0), .e (.sl 23) (.v 1)]), .v (.ag [.e (.sl 26) (.v 2), .e (.sl 26) (.v 3)])], inO := [], nIn := 4, outS := [.ag [.own 0, .own 1], .c (.e (.int .i64) (.v 2))], outO := [.row 26 (.v 0), .row 26 (.v 1)], nOut := 3, flat := true }
/-- scarfjoint/triple.swapped -/
def s110 : Sig := { f := 38, inS := [.v (.c (.e (.sl 26) (.v 0)))], inO := [], nIn := 1, outS := [.c (.own 0)], outO := [.row 26 (.v 0)], nOut := 1, flat := true }
/-- slices.Clone[[]int,int] -/
def s111 : Sig := { f := 46, inS := [.v (.c (.e (.sl 26) (.v 0)))], inO := [], nIn := 1, outS := [.c (.own 0)], outO := [.row 26 (.v 0)], nOut := 1, flat := true }
/-- scarfjoint/scarfjointref52.Swap -/
def s112 : Sig := { f := 15, inS := [.v (.ag [.e (.sl 22) (.v 0), .e (.sl 23) (.v 1)]), .v (.ag [.e (.sl 26) (.v 2), .e (.sl 26) (.v 3)])], inO := [], nIn := 4, outS := [.ag [.own 0, .own 1], .c (.e (.int .i64) (.v 2))], outO := [.row 26 (.v 0), .row 26 (.v 1)], nOut := 3, flat := true }
/-- scarfjoint/scarfjointref52.turned -/
def s113 : Sig := { f := 40, inS := [.v (.c (.e (.sl 26) (.v 0)))], inO := [], nIn := 1, outS := [.c (.own 0)], outO := [.row 26 (.v 0)], nOut := 1, flat := true }
/-- scarfjoint/scarfjointref52.Same -/
def s114 : Sig := { f := 16, inS := [.v (.ag [.e (.sl 26) (.v 0), .e (.sl 26) (.v 1)]), .v (.ag [.e (.sl 26) (.v 2), .e (.sl 26) (.v 3)])], inO := [], nIn := 4, outS := [.c (.e .bool (.v 0))], outO := [], nOut := 1, flat := true }
/-- scarfjoint/scarfjointref05.SameInts -/
def s115 : Sig := { f := 41, inS := [.v (.c (.e (.sl 26) (.v 0))), .v (.c (.e (.sl 26) (.v 1)))], inO := [], nIn := 2, outS := [.c (.e .bool (.v 0))], outO := [], nOut := 1, flat := true }
/-- scarfjoint/scarfjointlaw52.TriplePair -/
def s116 : Sig := { f := 5, inS := [.v (.ag [.e (.sl 22) (.v 0), .e (.sl 23) (.v 1), .e (.sl 26) (.v 2), .e (.sl 26) (.v 3)]), .v (.ag [.e (.sl 26) (.v 4), .e (.sl 31) (.v 5), .e (.sl 34) (.v 6)]), .v (.ag [.e (.sl 26) (.v 7), .e (.sl 31) (.v 8), .e (.sl 34) (.v 9)])], inO := [], nIn := 10, outS := [.c (.e .bool (.v 0))], outO := [], nOut := 1, flat := true }
/-- scarfjoint/triple.Pair -/
def s117 : Sig := { f := 17, inS := [.v (.ag [.e (.sl 22) (.v 0), .e (.sl 23) (.v 1)]), .v (.ag [.e (.sl 26) (.v 2), .e (.sl 26) (.v 3)]), .v (.ag [.e (.sl 26) (.v 4), .e (.sl 31) (.v 5), .e (.sl 34) (.v 6)]), .v (.ag [.e (.sl 26) (.v 7), .e (.sl 31) (.v 8), .e (.sl 34) (.v 9)])], inO := [], nIn := 10, outS := [.ag [.own 0, .own 1, .own 2], .c (.e (.int .i64) (.v 3))], outO := [.row 26 (.v 0), .row 31 (.v 1), .row 34 (.v 2)], nOut := 4, flat := false }
/-- scarfjoint/triple.only -/
def s118 : Sig := { f := 42, inS := [.v (.ag [.e (.sl 26) (.v 0), .e (.sl 26) (.v 1)]), .v (.ag [.e (.sl 26) (.v 2), .e (.sl 31) (.v 3)]), .v (.c (.e (.int .i64) (.v 4)))], inO := [], nIn := 5, outS := [.c (.e .bool (.v 0))], outO := [], nOut := 1, flat := true }
/-- scarfjoint/triple.part -/
def s119 : Sig := { f := 51, inS := [.v (.ag [.e (.sl 26) (.v 0), .e (.sl 26) (.v 1)]), .v (.ag [.e (.sl 26) (.v 2), .e (.sl 31) (.v 3)]), .v (.c (.e (.int .i64) (.v 4)))], inO := [], nIn := 5, outS := [.ag [.own 0, .own 1]], outO := [.row 26 (.v 0), .row 26 (.v 1)], nOut := 2, flat := true }
/-- slices.Concat[[]int,int] -/
def s120 : Sig := { f := 43, inS := [.v (.c (.e (.sl 34) (.v 0)))], inO := [], nIn := 1, outS := [.c (.own 0)], outO := [.row 26 (.v 0)], nOut := 1, flat := true }
/-- slices.Grow[[]int,int] -/
def s121 : Sig := { f := 69, inS := [.v (.c (.nil 26)), .v (.c (.e (.int .i64) (.v 0)))], inO := [], nIn := 1, outS := [.c (.own 0)], outO := [.row 26 (.v 0)], nOut := 1, flat := true }
/-- slices.Clone[[]scarfjoint/api.Edge,scarfjoint/api.Edge] -/
def s122 : Sig := { f := 44, inS := [.v (.c (.e (.sl 31) (.v 0)))], inO := [], nIn := 1, outS := [.c (.own 0)], outO := [.row 31 (.v 0)], nOut := 1, flat := true }
/-- slices.Concat[[][]int,[]int] -/
def s123 : Sig := { f := 45, inS := [.v (.c (.e (.sl 120) (.v 0)))], inO := [], nIn := 1, outS := [.c (.own 0)], outO := [.row 34 (.v 0)], nOut := 1, flat := false }
/-- slices.Grow[[][]int,[]int] -/
def s124 : Sig := { f := 70, inS := [.v (.c (.nil 34)), .v (.c (.e (.int .i64) (.v 0)))], inO := [], nIn := 1, outS := [.c (.own 0)], outO := [.row 34 (.v 0)], nOut := 1, flat := false }
/-- scarfjoint/scarfjointref52.Pair -/
def s125 : Sig := { f := 18, inS := [.v (.ag [.e (.sl 22) (.v 0), .e (.sl 23) (.v 1)]), .v (.ag [.e (.sl 26) (.v 2), .e (.sl 26) (.v 3)]), .v (.ag [.e (.sl 26) (.v 4), .e (.sl 31) (.v 5), .e (.sl 34) (.v 6)]), .v (.ag [.e (.sl 26) (.v 7), .e (.sl 31) (.v 8), .e (.sl 34) (.v 9)])], inO := [], nIn := 10, outS := [.ag [.own 0, .own 1, .own 2], .c (.e (.int .i64) (.v 3))], outO := [.row 26 (.v 0), .row 31 (.v 1), .row 34 (.v 2)], nOut := 4, flat := false }
/-- scarfjoint/scarfjointref52.pure -/
def s126 : Sig := { f := 47, inS := [.v (.ag [.e (.sl 26) (.v 0), .e (.sl 26) (.v 1)]), .v (.ag [.e (.sl 26) (.v 2), .e (.sl 31) (.v 3)]), .v (.c (.e (.int .i64) (.v 4)))], inO := [], nIn := 5, outS := [.c (.e .bool (.v 0))], outO := [], nOut := 1, flat := true }
/-- scarfjoint/scarfjointref15.Copied -/
def s127 : Sig := { f := 48, inS := [.v (.ag [.e (.sl 26) (.v 0), .e (.sl 31) (.v 1), .e (.sl 34) (.v 2)])], inO := [], nIn := 3, outS := [.ag [.own 0, .own 1, .own 2]], outO := [.row 26 (.v 0), .row 31 (.v 1), .row 34 (.v 2)], nOut := 3, flat := false }
/-- scarfjoint/scarfjointref05.Copied -/
def s128 : Sig := { f := 71, inS := [.v (.ag [.e (.sl 26) (.v 0), .e (.sl 31) (.v 1)])], inO := [], nIn := 2, outS := [.ag [.own 0, .own 1]], outO := [.row 26 (.v 0), .row 31 (.v 1)], nOut := 2, flat := true }
/-- scarfjoint/scarfjointref15.Same -/
def s129 : Sig := { f := 19, inS := [.v (.ag [.e (.sl 26) (.v 0), .e (.sl 31) (.v 1), .e (.sl 34) (.v 2)]), .v (.ag [.e (.sl 26) (.v 3), .e (.sl 31) (.v 4), .e (.sl 34) (.v 5)])], inO := [], nIn := 6, outS := [.c (.e .bool (.v 0))], outO := [], nOut := 1, flat := true }
/-- scarfjoint/scarfjointref05.Same -/
def s130 : Sig := { f := 49, inS := [.v (.ag [.e (.sl 26) (.v 0), .e (.sl 31) (.v 1)]), .v (.ag [.e (.sl 26) (.v 2), .e (.sl 31) (.v 3)])], inO := [], nIn := 4, outS := [.c (.e .bool (.v 0))], outO := [], nOut := 1, flat := true }
/-- scarfjoint/scarfjointref15.compare -/
def s131 : Sig := { f := 50, inS := [.v (.c (.e (.sl 26) (.v 0))), .v (.c (.e (.sl 26) (.v 1)))], inO := [], nIn := 2, outS := [.c (.e (.int .i64) (.v 0))], outO := [], nOut := 1, flat := true }
/-- scarfjoint/scarfjointlaw52.TripleSide -/
def s132 : Sig := { f := 6, inS := [.v (.ag [.e (.sl 22) (.v 0), .e (.sl 23) (.v 1), .e (.sl 26) (.v 2), .e (.sl 26) (.v 3)]), .v (.ag [.e (.sl 26) (.v 4), .e (.sl 31) (.v 5), .e (.sl 34) (.v 6)]), .v (.c (.e (.int .i64) (.v 7)))], inO := [], nIn := 8, outS := [.c (.e .bool (.v 0))], outO := [], nOut := 1, flat := true }
/-- scarfjoint/triple.Side -/
def s133 : Sig := { f := 20, inS := [.v (.ag [.e (.sl 22) (.v 0), .e (.sl 23) (.v 1)]), .v (.ag [.e (.sl 26) (.v 2), .e (.sl 26) (.v 3)]), .v (.ag [.e (.sl 26) (.v 4), .e (.sl 31) (.v 5), .e (.sl 34) (.v 6)]), .v (.c (.e (.int .i64) (.v 7)))], inO := [], nIn := 8, outS := [.ag [.e (.sl 26) (.v 0), .e (.sl 31) (.v 1), .e (.sl 34) (.v 2)], .ag [.e (.sl 26) (.v 3), .e (.sl 26) (.v 4)], .c (.e (.int .i64) (.v 5))], outO := [], nOut := 6, flat := false }
/-- scarfjoint/host.Extract -/
def s134 : Sig := { f := 52, inS := [.v (.ag [.e (.sl 22) (.v 0), .e (.sl 23) (.v 1)]), .v (.ag [.e (.sl 26) (.v 2), .e (.sl 31) (.v 3), .e (.sl 34) (.v 4)]), .v (.ag [.e (.sl 26) (.v 5), .e (.sl 26) (.v 6)])], inO := [], nIn := 7, outS := [.ag [.own 0, .own 1, .own 2], .c (.e (.int .i64) (.v 3))], outO := [.row 26 (.v 0), .row 31 (.v 1), .row 34 (.v 2)], nOut := 4, flat := false }
/-- scarfjoint/host.valid -/
def s135 : Sig := { f := 72, inS := [.v (.ag [.e (.sl 22) (.v 0), .e (.sl 23) (.v 1)]), .v (.ag [.e (.sl 26) (.v 2), .e (.sl 31) (.v 3), .e (.sl 34) (.v 4)])], inO := [], nIn := 5, outS := [.c (.e (.int .i64) (.v 0))], outO := [], nOut := 1, flat := true }
/-- scarfjoint/subgraph.Extract -/
def s136 : Sig := { f := 73, inS := [.v (.ag [.e (.sl 26) (.v 0), .e (.sl 31) (.v 1)]), .v (.ag [.e (.sl 26) (.v 2), .e (.sl 26) (.v 3)])], inO := [], nIn := 4, outS := [.ag [.own 0, .own 1], .ag [.own 2, .own 3], .c (.e (.int .i64) (.v 4))], outO := [.row 26 (.v 0), .row 31 (.v 1), .row 26 (.v 2), .row 26 (.v 3)], nOut := 5, flat := true }
/-- scarfjoint/subgraph.Valid -/
def s137 : Sig := { f := 98, inS := [.v (.ag [.e (.sl 26) (.v 0), .e (.sl 31) (.v 1)]), .v (.ag [.e (.sl 26) (.v 2), .e (.sl 26) (.v 3)])], inO := [], nIn := 4, outS := [.c (.e (.int .i64) (.v 0))], outO := [], nOut := 1, flat := true }
/-- scarfjoint/subgraph.part -/
def s138 : Sig := { f := 130, inS := [.v (.ag [.e (.sl 26) (.v 0), .e (.sl 31) (.v 1)]), .v (.ag [.e (.sl 26) (.v 2), .e (.sl 26) (.v 3)])], inO := [], nIn := 4, outS := [.c (.e (.int .i64) (.v 0))], outO := [], nOut := 1, flat := true }
/-- scarfjoint/subgraph.list -/
def s139 : Sig := { f := 149, inS := [.v (.c (.e (.sl 26) (.v 0))), .v (.c (.e (.int .i64) (.v 1)))], inO := [], nIn := 2, outS := [.c (.e (.int .i64) (.v 0))], outO := [], nOut := 1, flat := true }
/-- scarfjoint/subgraph.has -/
def s140 : Sig := { f := 150, inS := [.v (.c (.e (.sl 26) (.v 0))), .v (.c (.e (.int .i64) (.v 1)))], inO := [], nIn := 2, outS := [.c (.e .bool (.v 0))], outO := [], nOut := 1, flat := true }
/-- slices.BinarySearch[[]int,int] -/
def s141 : Sig := { f := 99, inS := [.v (.c (.e (.sl 26) (.v 0))), .v (.c (.e (.int .i64) (.v 1)))], inO := [], nIn := 2, outS := [.c (.e (.int .i64) (.v 0)), .c (.e .bool (.v 1))], outO := [], nOut := 2, flat := true }
/-- cmp.Less[int] -/
def s142 : Sig := { f := 131, inS := [.v (.c (.e (.int .i64) (.v 0))), .v (.c (.e (.int .i64) (.v 1)))], inO := [], nIn := 2, outS := [.c (.e .bool (.v 0))], outO := [], nOut := 1, flat := true }
/-- cmp.isNaN[int] -/
def s143 : Sig := { f := 151, inS := [.v (.c (.e (.int .i64) (.v 0)))], inO := [], nIn := 1, outS := [.c (.e .bool (.v 0))], outO := [], nOut := 1, flat := true }
/-- slices.isNaN[int] -/
def s144 : Sig := { f := 132, inS := [.v (.c (.e (.int .i64) (.v 0)))], inO := [], nIn := 1, outS := [.c (.e .bool (.v 0))], outO := [], nOut := 1, flat := true }
/-- scarfjoint/scarfjointref52.Side -/
def s145 : Sig := { f := 21, inS := [.v (.ag [.e (.sl 22) (.v 0), .e (.sl 23) (.v 1)]), .v (.ag [.e (.sl 26) (.v 2), .e (.sl 26) (.v 3)]), .v (.ag [.e (.sl 26) (.v 4), .e (.sl 31) (.v 5), .e (.sl 34) (.v 6)]), .v (.c (.e (.int .i64) (.v 7)))], inO := [], nIn := 8, outS := [.ag [.e (.sl 26) (.v 0), .e (.sl 31) (.v 1), .e (.sl 34) (.v 2)], .ag [.e (.sl 26) (.v 3), .e (.sl 26) (.v 4)], .c (.e (.int .i64) (.v 5))], outO := [], nOut := 6, flat := false }
/-- scarfjoint/scarfjointref15.Extract -/
def s146 : Sig := { f := 53, inS := [.v (.ag [.e (.sl 22) (.v 0), .e (.sl 23) (.v 1)]), .v (.ag [.e (.sl 26) (.v 2), .e (.sl 31) (.v 3), .e (.sl 34) (.v 4)]), .v (.ag [.e (.sl 26) (.v 5), .e (.sl 26) (.v 6)])], inO := [], nIn := 7, outS := [.ag [.own 0, .own 1, .own 2], .c (.e (.int .i64) (.v 3))], outO := [.row 26 (.v 0), .row 31 (.v 1), .row 34 (.v 2)], nOut := 4, flat := false }
/-- scarfjoint/scarfjointref07.Extract -/
def s147 : Sig := { f := 74, inS := [.v (.ag [.e (.sl 26) (.v 0), .e (.sl 31) (.v 1)]), .v (.ag [.e (.sl 26) (.v 2), .e (.sl 26) (.v 3)])], inO := [], nIn := 4, outS := [.ag [.own 0, .own 1], .ag [.own 2, .own 3], .c (.e (.int .i64) (.v 4))], outO := [.row 26 (.v 0), .row 31 (.v 1), .row 26 (.v 2), .row 26 (.v 3)], nOut := 5, flat := true }
/-- scarfjoint/scarfjointref07.Valid -/
def s148 : Sig := { f := 100, inS := [.v (.ag [.e (.sl 26) (.v 0), .e (.sl 31) (.v 1)]), .v (.ag [.e (.sl 26) (.v 2), .e (.sl 26) (.v 3)])], inO := [], nIn := 4, outS := [.c (.e (.int .i64) (.v 0))], outO := [], nOut := 1, flat := true }
/-- scarfjoint/scarfjointref07.Right -/
def s149 : Sig := { f := 133, inS := [.v (.ag [.e (.sl 26) (.v 0), .e (.sl 31) (.v 1)]), .v (.ag [.e (.sl 26) (.v 2), .e (.sl 26) (.v 3)])], inO := [], nIn := 4, outS := [.c (.e (.int .i64) (.v 0))], outO := [], nOut := 1, flat := true }
/-- scarfjoint/scarfjointref07.ascending -/
def s150 : Sig := { f := 152, inS := [.v (.c (.e (.sl 26) (.v 0))), .v (.c (.e (.int .i64) (.v 1)))], inO := [], nIn := 2, outS := [.c (.e (.int .i64) (.v 0))], outO := [], nOut := 1, flat := true }
/-- scarfjoint/scarfjointref07.has -/
def s151 : Sig := { f := 153, inS := [.v (.c (.e (.sl 26) (.v 0))), .v (.c (.e (.int .i64) (.v 1)))], inO := [], nIn := 2, outS := [.c (.e .bool (.v 0))], outO := [], nOut := 1, flat := true }
/-- scarfjoint/scarfjointref07.index -/
def s152 : Sig := { f := 101, inS := [.v (.c (.e (.sl 26) (.v 0))), .v (.c (.e (.int .i64) (.v 1)))], inO := [], nIn := 2, outS := [.c (.e (.int .i64) (.v 0))], outO := [], nOut := 1, flat := true }
/-- scarfjoint/scarfjointref07.Same -/
def s153 : Sig := { f := 24, inS := [.v (.ag [.e (.sl 26) (.v 0), .e (.sl 26) (.v 1)]), .v (.ag [.e (.sl 26) (.v 2), .e (.sl 26) (.v 3)])], inO := [], nIn := 4, outS := [.c (.e .bool (.v 0))], outO := [], nOut := 1, flat := true }
/-- scarfjoint/scarfjointlaw52.TripleTurned -/
def s154 : Sig := { f := 7, inS := [.v (.ag [.e (.sl 61) (.v 0), .e (.sl 62) (.v 1)])], inO := [], nIn := 2, outS := [.c (.e .bool (.v 0))], outO := [], nOut := 1, flat := true }
/-- scarfjoint/scarfjointref15.Made -/
def s155 : Sig := { f := 26, inS := [.v (.ag [.e (.sl 22) (.v 0), .e (.sl 23) (.v 1)]), .v (.ag [.e (.sl 61) (.v 2), .e (.sl 62) (.v 3)])], inO := [], nIn := 4, outS := [.ag [.own 0, .own 1, .own 2]], outO := [.row 26 (.v 0), .row 31 (.v 1), .row 34 (.v 2)], nOut := 3, flat := false }
/-- scarfjoint/scarfjointref15.concrete -/
def s156 : Sig := { f := 57, inS := [.v (.ag [.e (.sl 22) (.v 0), .e (.sl 23) (.v 1)])], inO := [], nIn := 2, outS := [.c (.own 0)], outO := [.row 26 (.v 0)], nOut := 1, flat := true }
/-- scarfjoint/scarfjointlaw52.TripleSides -/
def s157 : Sig := { f := 8, inS := [.v (.ag [.e (.sl 61) (.v 0), .e (.sl 62) (.v 1)]), .v (.ag [.e (.sl 61) (.v 2), .e (.sl 62) (.v 3)])], inO := [], nIn := 4, outS := [.c (.e .bool (.v 0))], outO := [], nOut := 1, flat := true }
/-- scarfjoint/scarfjointref52.Only -/
def s158 : Sig := { f := 28, inS := [.v (.ag [.e (.sl 22) (.v 0), .e (.sl 23) (.v 1)]), .v (.ag [.e (.sl 26) (.v 2), .e (.sl 26) (.v 3)]), .v (.ag [.e (.sl 26) (.v 4), .e (.sl 31) (.v 5), .e (.sl 34) (.v 6)]), .v (.c (.e (.int .i64) (.v 7)))], inO := [], nIn := 8, outS := [.ag [.own 0, .own 1, .own 2]], outO := [.row 26 (.v 0), .row 31 (.v 1), .row 34 (.v 2)], nOut := 3, flat := false }
/-- math/bits.Len -/
def s159 : Sig := { f := 63, inS := [.v (.c (.e (.int .u64) (.v 0)))], inO := [], nIn := 1, outS := [.c (.e (.int .i64) (.v 0))], outO := [], nOut := 1, flat := true }
/-- math/bits.Len64 -/
def s160 : Sig := { f := 93, inS := [.v (.c (.e (.int .u64) (.v 0)))], inO := [], nIn := 1, outS := [.c (.e (.int .i64) (.v 0))], outO := [], nOut := 1, flat := true }
/-- slices.pdqsortCmpFunc[scarfjoint/api.Pair] -/
def s161 : Sig := { f := 62, inS := [.v (.c (.own 0)), .v (.c (.e (.int .i64) (.v 1))), .v (.c (.e (.int .i64) (.v 2))), .v (.c (.e (.int .i64) (.v 3))), .v (.c (.fn 34 []))], inO := [.row 39 (.v 0)], nIn := 4, outS := [], outO := [.row 39 (.v 0)], nOut := 1, flat := true }
/-- slices.insertionSortCmpFunc[scarfjoint/api.Pair] -/
def s162 : Sig := { f := 84, inS := [.v (.c (.own 0)), .v (.c (.e (.int .i64) (.v 1))), .v (.c (.e (.int .i64) (.v 2))), .v (.c (.fn 34 []))], inO := [.row 39 (.v 0)], nIn := 3, outS := [], outO := [.row 39 (.v 0)], nOut := 1, flat := true }
/-- scarfjoint/triple.Links$2 -/
def s163 : Sig := { f := 34, inS := [.v (.ag [.e (.int .i64) (.v 0), .e (.int .i64) (.v 1)]), .v (.ag [.e (.int .i64) (.v 2), .e (.int .i64) (.v 3)])], inO := [], nIn := 4, outS := [.c (.e (.int .i64) (.v 0))], outO := [], nOut := 1, flat := true }
/-- slices.heapSortCmpFunc[scarfjoint/api.Pair] -/
def s164 : Sig := { f := 85, inS := [.v (.c (.own 0)), .v (.c (.e (.int .i64) (.v 1))), .v (.c (.e (.int .i64) (.v 2))), .v (.c (.fn 34 []))], inO := [.row 39 (.v 0)], nIn := 3, outS := [], outO := [.row 39 (.v 0)], nOut := 1, flat := true }
/-- slices.choosePivotCmpFunc[scarfjoint/api.Pair] -/
def s165 : Sig := { f := 87, inS := [.v (.c (.own 0)), .v (.c (.e (.int .i64) (.v 1))), .v (.c (.e (.int .i64) (.v 2))), .v (.c (.fn 34 []))], inO := [.row 39 (.v 0)], nIn := 3, outS := [.c (.e (.int .i64) (.v 1)), .c (.e (.int .i64) (.v 2))], outO := [.row 39 (.v 0)], nOut := 3, flat := true }
/-- slices.reverseRangeCmpFunc[scarfjoint/api.Pair] -/
def s166 : Sig := { f := 88, inS := [.v (.c (.own 0)), .v (.c (.e (.int .i64) (.v 1))), .v (.c (.e (.int .i64) (.v 2))), .v (.c (.fn 34 []))], inO := [.row 39 (.v 0)], nIn := 3, outS := [], outO := [.row 39 (.v 0)], nOut := 1, flat := true }
/-- slices.partialInsertionSortCmpFunc[scarfjoint/api.Pair] -/
def s167 : Sig := { f := 89, inS := [.v (.c (.own 0)), .v (.c (.e (.int .i64) (.v 1))), .v (.c (.e (.int .i64) (.v 2))), .v (.c (.fn 34 []))], inO := [.row 39 (.v 0)], nIn := 3, outS := [.c (.e .bool (.v 1))], outO := [.row 39 (.v 0)], nOut := 2, flat := true }
/-- slices.partitionCmpFunc[scarfjoint/api.Pair] -/
def s168 : Sig := { f := 91, inS := [.v (.c (.own 0)), .v (.c (.e (.int .i64) (.v 1))), .v (.c (.e (.int .i64) (.v 2))), .v (.c (.e (.int .i64) (.v 3))), .v (.c (.fn 34 []))], inO := [.row 39 (.v 0)], nIn := 4, outS := [.c (.e (.int .i64) (.v 1)), .c (.e .bool (.v 2))], outO := [.row 39 (.v 0)], nOut := 3, flat := true }
/-- slices.partitionEqualCmpFunc[scarfjoint/api.Pair] -/
def s169 : Sig := { f := 90, inS := [.v (.c (.own 0)), .v (.c (.e (.int .i64) (.v 1))), .v (.c (.e (.int .i64) (.v 2))), .v (.c (.e (.int .i64) (.v 3))), .v (.c (.fn 34 []))], inO := [.row 39 (.v 0)], nIn := 4, outS := [.c (.e (.int .i64) (.v 1))], outO := [.row 39 (.v 0)], nOut := 2, flat := true }
/-- slices.breakPatternsCmpFunc[scarfjoint/api.Pair] -/
def s170 : Sig := { f := 86, inS := [.v (.c (.own 0)), .v (.c (.e (.int .i64) (.v 1))), .v (.c (.e (.int .i64) (.v 2))), .v (.c (.fn 34 []))], inO := [.row 39 (.v 0)], nIn := 3, outS := [], outO := [.row 39 (.v 0)], nOut := 1, flat := true }
def sigs : List Sig := [s0, s1, s2, s3, s4, s5, s6, s7, s8, s9, s10, s11, s12, s13, s14, s15, s16, s17, s18, s19, s20, s21, s22, s23, s24, s25, s26, s27, s28, s29, s30, s31, s32, s33, s34, s35, s36, s37, s38, s39, s40, s41, s42, s43, s44, s45, s46, s47, s48, s49, s50, s51, s52, s53, s54, s55, s56, s57, s58, s59, s60, s61, s62, s63, s64, s65, s66, s67, s68, s69, s70, s71, s72, s73, s74, s75, s76, s77, s78, s79, s80, s81, s82, s83, s84, s85, s86, s87, s88, s89, s90, s91, s92, s93, s94, s95, s96, s97, s98, s99, s100, s101, s102, s103, s104, s105, s106, s107, s108, s109, s110, s111, s112, s113, s114, s115, s116, s117, s118, s119, s120, s121, s122, s123, s124, s125, s126, s127, s128, s129, s130, s131, s132, s133, s134, s135, s136, s137, s138, s139, s140, s141, s142, s143, s144, s145, s146, s147, s148, s149, s150, s151, s152, s153, s154, s155, s156, s157, s158, s159, s160, s161, s162, s163, s164, s165, s166, s167, s168, s169, s170]
noncomputable def env : Env := { ti := tyOf, eqt := [44, 45, 72, 73], dat := [(94, 6)], sigs := sigs, funcs := fun f => Tryz.prog.funcs[f]? }
end Go.SX.T52
