/- AvEl, AvX, BrX, Kp1, Kp2, Kp3, Kp4, Q1, Q2, Q3, Q4, Q5, Q6 in one text. -/
import Derived.Test.YthnfliopmjpdmaaAvSB
import Derived.Test.YthnfliopmjpdmaaLayPlain
import Derived.Test.YthnfliopmjpdmaaCheck
import Derived.Test.YthnfliopmjpdmaaRefCheck
import Derived.Test.YthnfliopmjpdmaaCrc
/- Elements of slices: their cells, as data and as seen by the evaluator. -/
namespace Go.Proofs.Ythnfliopmjpdmaa.Av
set_option linter.unusedVariables false

def fS (s : ByteArray) : FVal := .v (.string s)
def fI (n : Int) : FVal := .v (.int .i64 n)
def fB (b : Bool) : FVal := .v (.bool b)
def fStr (s : ByteArray) : List FVal := [fS s]
def fInt (n : Int) : List FVal := [fI n]
def fBool (b : Bool) : List FVal := [fB b]
def fTrk (t : List Int) : List FVal := [.row (t.flatMap fInt) t.length]
def fSec (s : Sec) : List FVal := [fS s.nm, fI s.len, fI s.lim, fI s.grd, fI s.stn]
def fLnk (k : Lnk) : List FVal := [fI k.a, fI k.ae, fI k.b, fI k.be, fI k.pt, fI k.ps]
abbrev xI (n : Int) : SC := .c (.f (.v (.int .i64 n)))
abbrev xS (s : ByteArray) : SC := .c (.f (.v (.string s)))
abbrev xB (b : Bool) : SC := .c (.f (.v (.bool b)))
def vStr (s : ByteArray) : List SC := [xS s]
def vInt (n : Int) : List SC := [xI n]
def vBool (b : Bool) : List SC := [xB b]
abbrev rInt (l : List Int) : SC := .row 1 fInt vInt 0 l
abbrev rStr (l : List ByteArray) : SC := .row 1 fStr vStr ⟨#[]⟩ l
abbrev rBool (l : List Bool) : SC := .row 1 fBool vBool false l
def vTrk (t : List Int) : List SC := [rInt t]
def vSec (s : Sec) : List SC := [xS s.nm, xI s.len, xI s.lim, xI s.grd, xI s.stn]
def vLnk (k : Lnk) : List SC := [xI k.a, xI k.ae, xI k.b, xI k.be, xI k.pt, xI k.ps]
def sec0 : Sec := ⟨⟨#[]⟩, 0, 0, 0, 0⟩
def lnk0 : Lnk := ⟨0, 0, 0, 0, 0, 0⟩
abbrev rSec (l : List Sec) : SC := .row 5 fSec vSec sec0 l
abbrev rLnk (l : List Lnk) : SC := .row 6 fLnk vLnk lnk0 l
abbrev rTrk (l : List (List Int)) : SC := .row 1 fTrk vTrk [] l
abbrev tInt (l : List Int) : SC := .tipr 1 fInt vInt 0 l
abbrev tStr (l : List ByteArray) : SC := .tipr 1 fStr vStr ⟨#[]⟩ l
abbrev tSec (l : List Sec) : SC := .tipr 5 fSec vSec sec0 l
abbrev tLnk (l : List Lnk) : SC := .tipr 6 fLnk vLnk lnk0 l
abbrev tTrk (l : List (List Int)) : SC := .tipr 1 fTrk vTrk [] l
abbrev pB (b : Nat) : SC := .c (.ptr b 0)
abbrev vI (n : Int) : SV := .c (xI n)
abbrev vS (s : ByteArray) : SV := .c (xS s)
abbrev vB (b : Bool) : SV := .c (xB b)
abbrev sI (d : Nat) (n : Int) : Nat × SE := (d, .v (.c (.c (.f (.v (.int .i64 n))))))
abbrev sB (d : Nat) (b : Bool) : Nat × SE := (d, .v (.c (.c (.f (.v (.bool b))))))
abbrev sS (d : Nat) (b : ByteArray) : Nat × SE := (d, .v (.c (.c (.f (.v (.string b))))))
abbrev sC (d : Nat) (x : SC) : Nat × SE := (d, .v (.c x))
abbrev sA (d : Nat) (l : List SC) : Nat × SE := (d, .v (.agg l))
def mStr : List FVal → Option ByteArray
  | [.v (.string s)] => some s
  | _ => none
def mInt : List FVal → Option Int
  | [.v (.int .i64 n)] => some n
  | _ => none
def mBool : List FVal → Option Bool
  | [.v (.bool b)] => some b
  | _ => none
def mSec : List FVal → Option Sec
  | [.v (.string a), .v (.int .i64 b), .v (.int .i64 c), .v (.int .i64 d), .v (.int .i64 e)] => some ⟨a, b, c, d, e⟩
  | _ => none
def mLnk : List FVal → Option Lnk
  | [.v (.int .i64 a), .v (.int .i64 b), .v (.int .i64 c), .v (.int .i64 d), .v (.int .i64 e), .v (.int .i64 f)] => some ⟨a, b, c, d, e, f⟩
  | _ => none
abbrev eStr : TyE := ⟨ByteArray, 1, fStr, vStr, mStr, ⟨#[]⟩⟩
abbrev eInt : TyE := ⟨Int, 1, fInt, vInt, mInt, 0⟩
abbrev eBool : TyE := ⟨Bool, 1, fBool, vBool, mBool, false⟩
abbrev eSec : TyE := ⟨Sec, 5, fSec, vSec, mSec, sec0⟩
abbrev eLnk : TyE := ⟨Lnk, 6, fLnk, vLnk, mLnk, lnk0⟩
/-- A layout. -/
def vLay (L : Lay) : SV := .agg [rStr L.sts, rStr L.pts, rSec L.secs, rLnk L.lnks]
end Go.Proofs.Ythnfliopmjpdmaa.Av
/- The table of the types, for the evaluator. -/
namespace Go.Proofs.Ythnfliopmjpdmaa.Av
set_option linter.unusedVariables false
set_option maxRecDepth 4000
def t_sz : List (Nat × Bool × Nat) := [(2, false, 1), (3, false, 1), (4, false, 1), (5, false, 1), (6, false, 1), (7, true, 4), (8, true, 4), (9, false, 1), (10, false, 1), (11, false, 1), (12, false, 1), (13, true, 2), (14, true, 2), (15, false, 1), (16, false, 1), (17, false, 1), (18, true, 1), (19, true, 1), (21, false, 1), (22, false, 1), (25, false, 1), (26, false, 1), (27, false, 1), (28, true, 4), (29, true, 4), (31, false, 1), (34, false, 1), (37, false, 1), (41, false, 1), (42, false, 1), (51, true, 4), (53, true, 2), (55, true, 5), (56, true, 5), (57, true, 6), (58, true, 6), (59, false, 1), (60, true, 7), (61, true, 7), (62, false, 1), (64, false, 1), (66, false, 1), (67, false, 1), (70, false, 1), (71, false, 1), (72, true, 3), (73, true, 3), (79, false, 1), (87, true, 2), (88, true, 2), (93, false, 1), (94, true, 3), (95, true, 3), (97, false, 1), (99, true, 2), (100, true, 2), (103, false, 1), (107, true, 2), (108, true, 2), (112, true, 4), (113, true, 4), (114, true, 0), (115, true, 0), (116, true, 0), (117, false, 1), (118, false, 1), (120, false, 1), (121, false, 1), (122, false, 1), (123, true, 11), (124, true, 11), (125, false, 1)]
def t_fo : List (Nat × List (Option Nat)) := [(7, [some 0, some 1, some 2, some 3]), (8, [some 0, some 1, some 2, some 3]), (13, [some 0, some 1]), (14, [some 0, some 1]), (18, [some 0]), (19, [some 0]), (28, [some 0, some 1, some 2, some 3]), (29, [some 0, some 1, some 2, some 3]), (55, [some 0, some 1, some 2, some 3, some 4]), (56, [some 0, some 1, some 2, some 3, some 4]), (57, [some 0, some 1, some 2, some 3, some 4, some 5]), (58, [some 0, some 1, some 2, some 3, some 4, some 5]), (60, [some 0, some 4, some 5, some 6]), (61, [some 0, some 4, some 5, some 6]), (72, [some 0, some 1, some 2]), (73, [some 0, some 1, some 2]), (87, [some 0, some 1]), (88, [some 0, some 1]), (94, [some 0, some 1, some 2]), (95, [some 0, some 1, some 2]), (99, [some 0, some 1]), (100, [some 0, some 1]), (107, [some 0, some 1]), (108, [some 0, some 1]), (112, [some 0, some 1, some 2, some 3]), (113, [some 0, some 1, some 2, some 3]), (115, [none]), (116, [none]), (123, [some 0, some 1, some 2, some 3, some 4, some 5, some 6, some 7, some 8, some 9, some 10]), (124, [some 0, some 1, some 2, some 3, some 4, some 5, some 6, some 7, some 8, some 9, some 10])]
def t_fa : List (Nat × List (Nat × Option (Bool × Nat))) := [(7, [(0, some (false, 1)), (1, some (false, 1)), (2, some (false, 1)), (3, some (false, 1))]), (8, [(0, some (false, 1)), (1, some (false, 1)), (2, some (false, 1)), (3, some (false, 1))]), (13, [(0, some (false, 1)), (1, some (false, 1))]), (14, [(0, some (false, 1)), (1, some (false, 1))]), (18, [(0, some (false, 1))]), (19, [(0, some (false, 1))]), (28, [(0, some (false, 1)), (1, some (false, 1)), (2, some (false, 1)), (3, some (false, 1))]), (29, [(0, some (false, 1)), (1, some (false, 1)), (2, some (false, 1)), (3, some (false, 1))]), (55, [(0, some (false, 1)), (1, some (false, 1)), (2, some (false, 1)), (3, some (false, 1)), (4, some (false, 1))]), (56, [(0, some (false, 1)), (1, some (false, 1)), (2, some (false, 1)), (3, some (false, 1)), (4, some (false, 1))]), (57, [(0, some (false, 1)), (1, some (false, 1)), (2, some (false, 1)), (3, some (false, 1)), (4, some (false, 1)), (5, some (false, 1))]), (58, [(0, some (false, 1)), (1, some (false, 1)), (2, some (false, 1)), (3, some (false, 1)), (4, some (false, 1)), (5, some (false, 1))]), (60, [(0, some (true, 4)), (4, some (false, 1)), (5, some (false, 1)), (6, some (false, 1))]), (61, [(0, some (true, 4)), (4, some (false, 1)), (5, some (false, 1)), (6, some (false, 1))]), (72, [(0, some (false, 1)), (1, some (false, 1)), (2, some (false, 1))]), (73, [(0, some (false, 1)), (1, some (false, 1)), (2, some (false, 1))]), (87, [(0, some (false, 1)), (1, some (false, 1))]), (88, [(0, some (false, 1)), (1, some (false, 1))]), (94, [(0, some (false, 1)), (1, some (false, 1)), (2, some (false, 1))]), (95, [(0, some (false, 1)), (1, some (false, 1)), (2, some (false, 1))]), (99, [(0, some (false, 1)), (1, some (false, 1))]), (100, [(0, some (false, 1)), (1, some (false, 1))]), (107, [(0, some (false, 1)), (1, some (false, 1))]), (108, [(0, some (false, 1)), (1, some (false, 1))]), (112, [(0, some (false, 1)), (1, some (false, 1)), (2, some (false, 1)), (3, some (false, 1))]), (113, [(0, some (false, 1)), (1, some (false, 1)), (2, some (false, 1)), (3, some (false, 1))]), (115, [(0, some (true, 0))]), (116, [(0, some (true, 0))]), (123, [(0, some (false, 1)), (1, some (false, 1)), (2, some (false, 1)), (3, some (false, 1)), (4, some (false, 1)), (5, some (false, 1)), (6, some (false, 1)), (7, some (false, 1)), (8, some (false, 1)), (9, some (false, 1)), (10, some (false, 1))]), (124, [(0, some (false, 1)), (1, some (false, 1)), (2, some (false, 1)), (3, some (false, 1)), (4, some (false, 1)), (5, some (false, 1)), (6, some (false, 1)), (7, some (false, 1)), (8, some (false, 1)), (9, some (false, 1)), (10, some (false, 1))])]
def t_es : List (Nat × Nat) := [(25, 1), (26, 5), (27, 6), (34, 1), (37, 4), (41, 1), (59, 1), (97, 1)]
def t_ms : List (Nat × Nat × Nat × List SC) := [(25, 1, 16, [.c (.f (.v (.string ⟨#[]⟩)))]), (26, 5, 48, [.c (.f (.v (.string ⟨#[]⟩))), .c (.f (.v (.int .i64 0))), .c (.f (.v (.int .i64 0))), .c (.f (.v (.int .i64 0))), .c (.f (.v (.int .i64 0)))]), (27, 6, 48, [.c (.f (.v (.int .i64 0))), .c (.f (.v (.int .i64 0))), .c (.f (.v (.int .i64 0))), .c (.f (.v (.int .i64 0))), .c (.f (.v (.int .i64 0))), .c (.f (.v (.int .i64 0)))]), (34, 1, 8, [.c (.f (.v (.int .i64 0)))]), (37, 4, 96, [.c (.f .nils), .c (.f .nils), .c (.f .nils), .c (.f .nils)]), (41, 1, 1, [.c (.f (.v (.int .u8 0)))]), (59, 1, 24, [.c (.f .nils)]), (97, 1, 24, [.c (.f .nils)])]
def t_bi : List (Nat × List SC × Pl) := [(7, [.c (.f (.v (.int .i64 0))), .c (.f (.v (.int .i64 0))), .c (.f (.v (.bool false))), .c (.f (.v (.int .u8 0)))], .fields [(0, 1), (1, 1), (2, 1), (3, 1)]), (8, [.c (.f (.v (.int .i64 0))), .c (.f (.v (.int .i64 0))), .c (.f (.v (.bool false))), .c (.f (.v (.int .u8 0)))], .fields [(0, 1), (1, 1), (2, 1), (3, 1)]), (13, [.c (.f (.v (.string ⟨#[]⟩))), .c (.f (.v (.int .u64 0)))], .fields [(0, 1), (1, 1)]), (14, [.c (.f (.v (.string ⟨#[]⟩))), .c (.f (.v (.int .u64 0)))], .fields [(0, 1), (1, 1)]), (18, [.c (.f (.v (.pointer none)))], .fields [(0, 1)]), (19, [.c (.f (.v (.pointer none)))], .fields [(0, 1)]), (28, [.c (.f .nils), .c (.f .nils), .c (.f .nils), .c (.f .nils)], .fields [(0, 1), (1, 1), (2, 1), (3, 1)]), (29, [.c (.f .nils), .c (.f .nils), .c (.f .nils), .c (.f .nils)], .fields [(0, 1), (1, 1), (2, 1), (3, 1)]), (51, [.c (.f (.v (.int .i64 0))), .c (.f (.v (.int .i64 0))), .c (.f (.v (.int .i64 0))), .c (.f (.v (.int .i64 0)))], .elems 1), (53, [.c (.f .nils), .c (.f .nils)], .elems 1), (55, [.c (.f (.v (.string ⟨#[]⟩))), .c (.f (.v (.int .i64 0))), .c (.f (.v (.int .i64 0))), .c (.f (.v (.int .i64 0))), .c (.f (.v (.int .i64 0)))], .fields [(0, 1), (1, 1), (2, 1), (3, 1), (4, 1)]), (56, [.c (.f (.v (.string ⟨#[]⟩))), .c (.f (.v (.int .i64 0))), .c (.f (.v (.int .i64 0))), .c (.f (.v (.int .i64 0))), .c (.f (.v (.int .i64 0)))], .fields [(0, 1), (1, 1), (2, 1), (3, 1), (4, 1)]), (57, [.c (.f (.v (.int .i64 0))), .c (.f (.v (.int .i64 0))), .c (.f (.v (.int .i64 0))), .c (.f (.v (.int .i64 0))), .c (.f (.v (.int .i64 0))), .c (.f (.v (.int .i64 0)))], .fields [(0, 1), (1, 1), (2, 1), (3, 1), (4, 1), (5, 1)]), (58, [.c (.f (.v (.int .i64 0))), .c (.f (.v (.int .i64 0))), .c (.f (.v (.int .i64 0))), .c (.f (.v (.int .i64 0))), .c (.f (.v (.int .i64 0))), .c (.f (.v (.int .i64 0)))], .fields [(0, 1), (1, 1), (2, 1), (3, 1), (4, 1), (5, 1)]), (60, [.c (.f .nils), .c (.f .nils), .c (.f .nils), .c (.f .nils), .c (.f .nils), .c (.f .nils), .c (.f .nils)], .fields [(0, 4), (4, 1), (5, 1), (6, 1)]), (61, [.c (.f .nils), .c (.f .nils), .c (.f .nils), .c (.f .nils), .c (.f .nils), .c (.f .nils), .c (.f .nils)], .fields [(0, 4), (4, 1), (5, 1), (6, 1)]), (72, [.c (.f (.v (.string ⟨#[]⟩))), .c (.f (.v (.int .i64 0))), .c (.f (.v (.bool false)))], .fields [(0, 1), (1, 1), (2, 1)]), (73, [.c (.f (.v (.string ⟨#[]⟩))), .c (.f (.v (.int .i64 0))), .c (.f (.v (.bool false)))], .fields [(0, 1), (1, 1), (2, 1)]), (87, [.c (.f .nils), .c (.f (.v (.int .i64 0)))], .fields [(0, 1), (1, 1)]), (88, [.c (.f .nils), .c (.f (.v (.int .i64 0)))], .fields [(0, 1), (1, 1)]), (94, [.c (.f (.v (.string ⟨#[]⟩))), .c (.f (.v (.int .i64 0))), .c (.f (.v (.bool false)))], .fields [(0, 1), (1, 1), (2, 1)]), (95, [.c (.f (.v (.string ⟨#[]⟩))), .c (.f (.v (.int .i64 0))), .c (.f (.v (.bool false)))], .fields [(0, 1), (1, 1), (2, 1)]), (99, [.c (.f (.v (.int .i64 0))), .c (.f (.v (.int .i64 0)))], .fields [(0, 1), (1, 1)]), (100, [.c (.f (.v (.int .i64 0))), .c (.f (.v (.int .i64 0)))], .fields [(0, 1), (1, 1)]), (107, [.c (.f (.v (.int .i64 0))), .c (.f (.v (.int .i64 0)))], .fields [(0, 1), (1, 1)]), (108, [.c (.f (.v (.int .i64 0))), .c (.f (.v (.int .i64 0)))], .fields [(0, 1), (1, 1)]), (112, [.c (.f (.v (.pointer none))), .c (.f (.v (.pointer none))), .c (.f (.v (.pointer none))), .c (.f (.v (.string ⟨#[]⟩)))], .fields [(0, 1), (1, 1), (2, 1), (3, 1)]), (113, [.c (.f (.v (.pointer none))), .c (.f (.v (.pointer none))), .c (.f (.v (.pointer none))), .c (.f (.v (.string ⟨#[]⟩)))], .fields [(0, 1), (1, 1), (2, 1), (3, 1)]), (114, [], .elems 1), (115, [], .fields [(0, 0)]), (116, [], .fields [(0, 0)]), (123, [.c (.f (.v (.int .u64 0))), .c (.f (.v (.int .u64 0))), .c (.f (.v (.int .u32 0))), .c (.f (.v (.int .u8 0))), .c (.f (.v (.int .u8 0))), .c (.f (.v (.int .u8 0))), .c (.f (.v (.int .u8 0))), .c (.f (.v .nilFunc)), .c (.f (.v (.pointer none))), .c (.f (.v (.int .i32 0))), .c (.f (.v (.int .i32 0)))], .fields [(0, 1), (1, 1), (2, 1), (3, 1), (4, 1), (5, 1), (6, 1), (7, 1), (8, 1), (9, 1), (10, 1)]), (124, [.c (.f (.v (.int .u64 0))), .c (.f (.v (.int .u64 0))), .c (.f (.v (.int .u32 0))), .c (.f (.v (.int .u8 0))), .c (.f (.v (.int .u8 0))), .c (.f (.v (.int .u8 0))), .c (.f (.v (.int .u8 0))), .c (.f (.v .nilFunc)), .c (.f (.v (.pointer none))), .c (.f (.v (.int .i32 0))), .c (.f (.v (.int .i32 0)))], .fields [(0, 1), (1, 1), (2, 1), (3, 1), (4, 1), (5, 1), (6, 1), (7, 1), (8, 1), (9, 1), (10, 1)])]
def t_ze : List (Nat × List SC) := [(2, [.c (.f (.v (.int .i64 0)))]), (3, [.c (.f (.v (.int .i64 0)))]), (4, [.c (.f (.v (.bool false)))]), (5, [.c (.f (.v (.int .u8 0)))]), (6, [.c (.f (.v (.int .u8 0)))]), (7, [.c (.f (.v (.int .i64 0))), .c (.f (.v (.int .i64 0))), .c (.f (.v (.bool false))), .c (.f (.v (.int .u8 0)))]), (8, [.c (.f (.v (.int .i64 0))), .c (.f (.v (.int .i64 0))), .c (.f (.v (.bool false))), .c (.f (.v (.int .u8 0)))]), (9, [.c (.f (.v (.string ⟨#[]⟩)))]), (10, [.c (.f (.v (.string ⟨#[]⟩)))]), (11, [.c (.f (.v (.string ⟨#[]⟩)))]), (12, [.c (.f (.v (.int .u64 0)))]), (13, [.c (.f (.v (.string ⟨#[]⟩))), .c (.f (.v (.int .u64 0)))]), (14, [.c (.f (.v (.string ⟨#[]⟩))), .c (.f (.v (.int .u64 0)))]), (15, [.c (.f (.v (.pointer none)))]), (16, [.c (.f (.v (.pointer none)))]), (17, [.c (.f (.v (.pointer none)))]), (18, [.c (.f (.v (.pointer none)))]), (19, [.c (.f (.v (.pointer none)))]), (21, [.c (.f (.v (.int .i32 0)))]), (22, [.c (.f (.v (.int .i64 0)))]), (25, [.c (.f .nils)]), (26, [.c (.f .nils)]), (27, [.c (.f .nils)]), (28, [.c (.f .nils), .c (.f .nils), .c (.f .nils), .c (.f .nils)]), (29, [.c (.f .nils), .c (.f .nils), .c (.f .nils), .c (.f .nils)]), (31, [.c (.f (.v (.int .u32 0)))]), (34, [.c (.f .nils)]), (37, [.c (.f .nils)]), (41, [.c (.f .nils)]), (42, [.c (.f (.v (.int .u64 0)))]), (51, [.c (.f (.v (.int .i64 0))), .c (.f (.v (.int .i64 0))), .c (.f (.v (.int .i64 0))), .c (.f (.v (.int .i64 0)))]), (53, [.c (.f .nils), .c (.f .nils)]), (55, [.c (.f (.v (.string ⟨#[]⟩))), .c (.f (.v (.int .i64 0))), .c (.f (.v (.int .i64 0))), .c (.f (.v (.int .i64 0))), .c (.f (.v (.int .i64 0)))]), (56, [.c (.f (.v (.string ⟨#[]⟩))), .c (.f (.v (.int .i64 0))), .c (.f (.v (.int .i64 0))), .c (.f (.v (.int .i64 0))), .c (.f (.v (.int .i64 0)))]), (57, [.c (.f (.v (.int .i64 0))), .c (.f (.v (.int .i64 0))), .c (.f (.v (.int .i64 0))), .c (.f (.v (.int .i64 0))), .c (.f (.v (.int .i64 0))), .c (.f (.v (.int .i64 0)))]), (58, [.c (.f (.v (.int .i64 0))), .c (.f (.v (.int .i64 0))), .c (.f (.v (.int .i64 0))), .c (.f (.v (.int .i64 0))), .c (.f (.v (.int .i64 0))), .c (.f (.v (.int .i64 0)))]), (59, [.c (.f .nils)]), (60, [.c (.f .nils), .c (.f .nils), .c (.f .nils), .c (.f .nils), .c (.f .nils), .c (.f .nils), .c (.f .nils)]), (61, [.c (.f .nils), .c (.f .nils), .c (.f .nils), .c (.f .nils), .c (.f .nils), .c (.f .nils), .c (.f .nils)]), (62, [.c (.f (.v (.pointer none)))]), (64, [.c (.f (.v (.pointer none)))]), (66, [.c (.f (.v (.pointer none)))]), (67, [.c (.f (.v (.pointer none)))]), (70, [.c (.f (.v (.int .u64 0)))]), (71, [.c (.f (.v (.pointer none)))]), (72, [.c (.f (.v (.string ⟨#[]⟩))), .c (.f (.v (.int .i64 0))), .c (.f (.v (.bool false)))]), (73, [.c (.f (.v (.string ⟨#[]⟩))), .c (.f (.v (.int .i64 0))), .c (.f (.v (.bool false)))]), (87, [.c (.f .nils), .c (.f (.v (.int .i64 0)))]), (88, [.c (.f .nils), .c (.f (.v (.int .i64 0)))]), (93, [.c (.f (.v (.pointer none)))]), (94, [.c (.f (.v (.string ⟨#[]⟩))), .c (.f (.v (.int .i64 0))), .c (.f (.v (.bool false)))]), (95, [.c (.f (.v (.string ⟨#[]⟩))), .c (.f (.v (.int .i64 0))), .c (.f (.v (.bool false)))]), (97, [.c (.f .nils)]), (99, [.c (.f (.v (.int .i64 0))), .c (.f (.v (.int .i64 0)))]), (100, [.c (.f (.v (.int .i64 0))), .c (.f (.v (.int .i64 0)))]), (103, [.c (.f (.v (.pointer none)))]), (107, [.c (.f (.v (.int .i64 0))), .c (.f (.v (.int .i64 0)))]), (108, [.c (.f (.v (.int .i64 0))), .c (.f (.v (.int .i64 0)))]), (112, [.c (.f (.v (.pointer none))), .c (.f (.v (.pointer none))), .c (.f (.v (.pointer none))), .c (.f (.v (.string ⟨#[]⟩)))]), (113, [.c (.f (.v (.pointer none))), .c (.f (.v (.pointer none))), .c (.f (.v (.pointer none))), .c (.f (.v (.string ⟨#[]⟩)))]), (117, [.c (.f (.v (.int .u8 0)))]), (118, [.c (.f (.v (.int .u8 0)))]), (120, [.c (.f (.v (.pointer none)))]), (121, [.c (.f (.v (.int .i32 0)))]), (122, [.c (.f (.v (.int .i32 0)))]), (123, [.c (.f (.v (.int .u64 0))), .c (.f (.v (.int .u64 0))), .c (.f (.v (.int .u32 0))), .c (.f (.v (.int .u8 0))), .c (.f (.v (.int .u8 0))), .c (.f (.v (.int .u8 0))), .c (.f (.v (.int .u8 0))), .c (.f (.v .nilFunc)), .c (.f (.v (.pointer none))), .c (.f (.v (.int .i32 0))), .c (.f (.v (.int .i32 0)))]), (124, [.c (.f (.v (.int .u64 0))), .c (.f (.v (.int .u64 0))), .c (.f (.v (.int .u32 0))), .c (.f (.v (.int .u8 0))), .c (.f (.v (.int .u8 0))), .c (.f (.v (.int .u8 0))), .c (.f (.v (.int .u8 0))), .c (.f (.v .nilFunc)), .c (.f (.v (.pointer none))), .c (.f (.v (.int .i32 0))), .c (.f (.v (.int .i32 0)))]), (125, [.c (.f (.v (.pointer none)))])]
def t_st : List Nat := [9, 10, 11]
def t_it : List (Nat × IntKind) := [(2, .i64), (3, .i64), (5, .u8), (6, .u8), (12, .u64), (21, .i32), (22, .i64), (31, .u32), (42, .u64), (70, .u64), (117, .u8), (118, .u8), (121, .i32), (122, .i32)]
def t_sl : List (Nat × Nat) := [(25, 9), (26, 56), (27, 58), (34, 3), (37, 29), (41, 5), (59, 34), (97, 27)]
theorem eq_56 : EqOk Try.prog 56 [.s, .i, .i, .i, .i] := ⟨by kernel_rfl, fun vs us r h0 => by
  obtain ⟨a0, vs, b0, us, r0, rfl, rfl, h1, rfl⟩ := eqV_s h0
  obtain ⟨a1, vs, b1, us, r1, rfl, rfl, h2, rfl⟩ := eqV_i h1
  obtain ⟨a2, vs, b2, us, r2, rfl, rfl, h3, rfl⟩ := eqV_i h2
  obtain ⟨a3, vs, b3, us, r3, rfl, rfl, h4, rfl⟩ := eqV_i h3
  obtain ⟨a4, vs, b4, us, r4, rfl, rfl, h5, rfl⟩ := eqV_i h4
  obtain ⟨rfl, rfl, rfl⟩ := eqV_nil h5
  intro w
  clear h0
  constructor <;> simp [go_sem] <;> (repeat' split) <;> simp_all⟩
theorem eq_58 : EqOk Try.prog 58 [.i, .i, .i, .i, .i, .i] := ⟨by kernel_rfl, fun vs us r h0 => by
  obtain ⟨a0, vs, b0, us, r0, rfl, rfl, h1, rfl⟩ := eqV_i h0
  obtain ⟨a1, vs, b1, us, r1, rfl, rfl, h2, rfl⟩ := eqV_i h1
  obtain ⟨a2, vs, b2, us, r2, rfl, rfl, h3, rfl⟩ := eqV_i h2
  obtain ⟨a3, vs, b3, us, r3, rfl, rfl, h4, rfl⟩ := eqV_i h3
  obtain ⟨a4, vs, b4, us, r4, rfl, rfl, h5, rfl⟩ := eqV_i h4
  obtain ⟨a5, vs, b5, us, r5, rfl, rfl, h6, rfl⟩ := eqV_i h5
  obtain ⟨rfl, rfl, rfl⟩ := eqV_nil h6
  intro w
  clear h0
  constructor <;> simp [go_sem] <;> (repeat' split) <;> simp_all⟩
theorem eq_95 : EqOk Try.prog 95 [.s, .i, .b] := ⟨by kernel_rfl, fun vs us r h0 => by
  obtain ⟨a0, vs, b0, us, r0, rfl, rfl, h1, rfl⟩ := eqV_s h0
  obtain ⟨a1, vs, b1, us, r1, rfl, rfl, h2, rfl⟩ := eqV_i h1
  obtain ⟨a2, vs, b2, us, r2, rfl, rfl, h3, rfl⟩ := eqV_b h2
  obtain ⟨rfl, rfl, rfl⟩ := eqV_nil h3
  intro w
  clear h0
  constructor <;> simp [go_sem] <;> (repeat' split) <;> simp_all⟩
theorem eq_100 : EqOk Try.prog 100 [.i, .i] := ⟨by kernel_rfl, fun vs us r h0 => by
  obtain ⟨a0, vs, b0, us, r0, rfl, rfl, h1, rfl⟩ := eqV_i h0
  obtain ⟨a1, vs, b1, us, r1, rfl, rfl, h2, rfl⟩ := eqV_i h1
  obtain ⟨rfl, rfl, rfl⟩ := eqV_nil h2
  intro w
  clear h0
  constructor <;> simp [go_sem] <;> (repeat' split) <;> simp_all⟩
theorem eq_108 : EqOk Try.prog 108 [.i, .i] := ⟨by kernel_rfl, fun vs us r h0 => by
  obtain ⟨a0, vs, b0, us, r0, rfl, rfl, h1, rfl⟩ := eqV_i h0
  obtain ⟨a1, vs, b1, us, r1, rfl, rfl, h2, rfl⟩ := eqV_i h1
  obtain ⟨rfl, rfl, rfl⟩ := eqV_nil h2
  intro w
  clear h0
  constructor <;> simp [go_sem] <;> (repeat' split) <;> simp_all⟩
def t_eq : List (Nat × List EK) := [(56, [.s, .i, .i, .i, .i]), (58, [.i, .i, .i, .i, .i, .i]), (95, [.s, .i, .b]), (100, [.i, .i]), (108, [.i, .i])]
def t_cb : List (Nat × Nat) := [(41, 9)]
def tab : Tb := ⟨t_sz, t_fo, t_fa, t_es, t_ms, t_bi, t_ze, t_st, t_it, t_sl, t_eq, t_cb⟩
theorem tabOk : tab.Ok Try.prog := ⟨by kernel_rfl, by kernel_rfl, by kernel_rfl, by kernel_rfl, by kernel_rfl, by kernel_rfl, by kernel_rfl, by kernel_rfl, by kernel_rfl, by kernel_rfl, ⟨eq_56, eq_58, eq_95, eq_100, eq_108, trivial⟩, by kernel_rfl⟩
def els : El := [(25, eStr), (26, eSec), (27, eLnk), (34, eInt)]
theorem elsOk : els.Ok Try.prog := ⟨by kernel_rfl, ⟨fun _ => rfl, by decide⟩, ⟨fun _ => rfl, by decide⟩, ⟨fun _ => rfl, by decide⟩, ⟨fun _ => rfl, by decide⟩, trivial⟩
theorem mixedX : Try.prog.follows .mixedOrders = true := by kernel_rfl
theorem X_run {ops : Array Oper} {rest : List Oper} {l : SL} {H : SH} {R : Rg} {rest' : List Oper} {l' : SL} {H' : SH} {R' : Rg} {p : Prop} (h : run1 tab els ops rest l H R = some ⟨rest', l', H', R', p⟩) (hp : p) (hk : WR Try.prog ops rest' (SS l' H') R') : WR Try.prog ops rest (SS l H) R := run1_ok tabOk elsOk h hp hk
end Go.Proofs.Ythnfliopmjpdmaa.Av
/- Contracts that were proved over the memory, as contracts over values without addresses. -/
namespace Go.Proofs.Ythnfliopmjpdmaa.Av
open Go.RowKit
set_option linter.unusedVariables false
set_option linter.unusedSimpArgs false

def cRow {α : Type} (f : α → List FVal) (l : List α) : CVal := .f (.row (l.flatMap f) l.length)
def cLay (L : Lay) : List CVal := [cRow fStr L.sts, cRow fStr L.pts, cRow fSec L.secs, cRow fLnk L.lnks]
def aLay (L : Lay) : AVal := .agg (cLay L)
theorem flatMap_len {α β : Type} (f : α → List β) (n : Nat) (h : ∀ x, (f x).length = n) (l : List α) : (l.flatMap f).length = l.length * n := flatMap_lenB f n h l
/-- The value stands for r in every world. -/
def Plain (r : AVal) (v : Value) : Prop := ∀ w κ ρ l, RepA w κ ρ l r v
theorem plain_i {n : Int} {k : IntKind} : Plain (.c (.f (.v (.int k n)))) (.int k n) := fun _ _ _ _ => RepF.v _ rfl
theorem plain_s {s : ByteArray} : Plain (aS s) (.string s) := fun _ _ _ _ => RepF.v _ rfl
theorem plain_b {b : Bool} : Plain (aB b) (.bool b) := fun _ _ _ _ => RepF.v _ rfl
theorem plain_2 {a b : CVal} {u v : Value} (ha : Plain (.c a) u) (hb : Plain (.c b) v) (fa : a.flat = true) (fb : b.flat = true) : Plain (.tup [.c a, .c b]) (.tuple #[u, v]) := fun w κ ρ l => by
  refine ⟨#[u, v], rfl, rfl, fun i h h' => ?_⟩
  match i, h with
  | 0, _ => exact ⟨fa, ha w κ ρ l⟩
  | 1, _ => exact ⟨fb, hb w κ ρ l⟩
/-- A contract over the memory: nothing that was there is changed. -/
theorem ok_old {P : Program} {f : FuncId} {args : List AVal} {r : AVal} (fn : Func) (hf : P.funcs[f]? = some fn) (hb : fn.body.isSome = true) (hn : (fn.name == "runtime.NumGoroutine") = false) (hflat : Flat r = true) (hrok : r.ok 0 = true)
    (h : ∀ (w : World) (κ : Nat → BK) (ρ : Nat → Nat) (vals : Array Value), vals.size = args.length → (∀ i (h : i < args.length) (h' : i < vals.size) l, RepA w κ ρ l args[i] vals[i]) → ∃ v, Plain r v ∧ Calls P f vals w fun e w' => e = .returned v ∧ Below w.heap.size w w') : Ok P f args [] r [] := by
  refine ⟨⟨fn, hf, hb, hn⟩, flat_dem hflat, hrok, Nat.le_refl _, fun w κ ρ vals hs hr hok hH => ?_⟩
  obtain ⟨v, hp, hc⟩ := h w κ ρ vals hs hr
  refine hc.mono ?_
  rintro e w' ⟨rfl, hB⟩
  refine ⟨v, fun g => if g < w.heap.size then κ g else .lock none, ρ, rfl, fun l => hp _ _ _ l, ⟨fun b cs h => by simp at h, fun b cs h => by simp at h⟩, ⟨hB.os, hB.tape, hB.output, hB.size, fun g n hg hl => ⟨by rw [if_pos hg]; exact hl, hB.block g hg⟩, ⟨hB.size, fun g o x hg _ hx => ?_, fun g n hg hf => by rw [if_pos hg]; exact hf⟩⟩, fun _ _ => rfl⟩
  rw [World.cell?_of_block (w := w) (a := ⟨g, o, none⟩) (hB.block g hg)]
  exact hx

theorem flatMap_at {α β : Type} (F : α → List β) (n : Nat) (hn : ∀ x, (F x).length = n) : ∀ (l : List α) (k j : Nat) (hk : k < l.length) (hj : j < n), (l.flatMap F)[k * n + j]? = (F l[k])[j]?
  | x :: l, 0, j, _, hj => by
    simp only [List.flatMap_cons, Nat.zero_mul, Nat.zero_add, List.getElem_cons_zero]
    rw [List.getElem?_append_left (by rw [hn]; exact hj)]
  | x :: l, k + 1, j, hk, hj => by
    simp only [List.flatMap_cons, List.getElem_cons_succ]
    have e : (k + 1) * n + j = n + (k * n + j) := by rw [Nat.succ_mul]; omega
    rw [e, List.getElem?_append_right (by rw [hn]; omega), hn, Nat.add_sub_cancel_left]
    exact flatMap_at F n hn l k j (by simpa using hk) hj
theorem rdf_of_row {α : Type} (n : Nat) (f : α → List Value) (F : α → List FVal) (hF : ∀ x, F x = (f x).map FVal.v) (hn : ∀ x, (f x).length = n) (hpos : 0 < n) {w : World} {κ : Nat → BK} {l : List α} {v : Value} (h : RepF w κ (.row (l.flatMap F) l.length) v) :
    ∃ A c, v = .slice A l.length c ∧ RdF n f w A l ∧ l.length ≤ c := by
  have hnF : ∀ x, (F x).length = n := fun x => by rw [hF, List.length_map, hn]
  rcases repF_row.1 h with ⟨g, o, cap, rfl, hle, hrow⟩ | ⟨h1, h2, rfl⟩
  · refine ⟨_, cap, rfl, fun k hk => ⟨g, o, rfl, ?_, fun j u hj => ?_⟩, hle⟩
    · refine (hrow.fits fun e => ?_).1
      have := flatMap_len F n hnF l
      rw [e] at this
      have h0 : 0 < l.length * n := Nat.mul_pos (by omega) hpos
      simp at this; omega
    · have hjn : j < n := by rw [← hn l[k]]; exact (List.getElem?_eq_some_iff.1 hj).1
      have hlt : k * n + j < (l.flatMap F).length := by
        rw [flatMap_len F n hnF]
        have : (k + 1) * n ≤ l.length * n := Nat.mul_le_mul_right _ (by omega)
        rw [Nat.succ_mul] at this
        omega
      obtain ⟨y, hy1, hy2⟩ := hrow.cell (k * n + j) hlt
      have e1 := flatMap_at F n hnF l k j hk hjn
      rw [List.getElem?_eq_getElem hlt, hF, List.getElem?_map, hj] at e1
      injection e1 with e1
      rw [e1] at hy2
      rw [show o + k * n + j = o + (k * n + j) by omega, hy1, (repF_v.1 hy2).1]
  · have hl : l = [] := List.eq_nil_of_length_eq_zero h2
    subst hl
    exact ⟨none, 0, rfl, fun k hk => by simp at hk, Nat.le_refl _⟩

/-- What a layout's sizes are: as a machine's. -/
structure LayFits (L : Lay) : Prop where
  s1 : Short L.sts
  s2 : Short L.pts
  s3 : Short (L.secs.map Sec.nm)
  m1 : L.sts.length ≤ 9223372036854775807
  m2 : L.pts.length ≤ 9223372036854775807
  m3 : L.secs.length ≤ 9223372036854775807
  m4 : L.lnks.length ≤ 9223372036854775807
theorem lay_rd {w : World} {κ : Nat → BK} {ρ : Nat → Nat} {l : Loc} {L : Lay} {v : Value} (hL : LayFits L) (h : RepA w κ ρ l (aLay L) v) : ∃ V : LayV, v = .agg #[.slice V.A1 L.sts.length V.c1, .slice V.A2 L.pts.length V.c2, .slice V.A3 L.secs.length V.c3, .slice V.A4 L.lnks.length V.c4] ∧ RdLay w V L := by
  obtain ⟨vs, rfl, hs, hi⟩ := h
  have hs' : vs.size = 4 := hs
  obtain ⟨A1, c1, e1, r1, n1⟩ := rdf_of_row 1 strF fStr (fun x => rfl) (fun x => rfl) (by omega) (hi 0 (by simp [cLay]) (by omega)).2
  obtain ⟨A2, c2, e2, r2, n2⟩ := rdf_of_row 1 strF fStr (fun x => rfl) (fun x => rfl) (by omega) (hi 1 (by simp [cLay]) (by omega)).2
  obtain ⟨A3, c3, e3, r3, n3⟩ := rdf_of_row 5 secF fSec (fun x => rfl) (fun x => rfl) (by omega) (hi 2 (by simp [cLay]) (by omega)).2
  obtain ⟨A4, c4, e4, r4, n4⟩ := rdf_of_row 6 lnkF fLnk (fun x => rfl) (fun x => rfl) (by omega) (hi 3 (by simp [cLay]) (by omega)).2
  refine ⟨⟨A1, c1, A2, c2, A3, c3, A4, c4⟩, ?_, r1, r2, r3, r4, hL.s1, hL.s2, hL.s3, n1, n2, n3, n4, hL.m1, hL.m2, hL.m3, hL.m4⟩
  congr 1
  apply Array.ext
  · exact hs'
  · intro i h1 h2
    match i, h2 with
    | 0, _ => exact e1
    | 1, _ => exact e2
    | 2, _ => exact e3
    | 3, _ => exact e4
theorem one_arg {vals : Array Value} (h : vals.size = 1) : vals = #[vals[0]] := by
  apply Array.ext
  · simp [h]
  · intro i h1 h2
    match i, h2 with
    | 0, _ => rfl
theorem check_ok (L : Lay) (hL : LayFits L) : Ok Try.prog 22 [aLay L] [] (i64 (layErr L)) [] := by
  refine ok_old _ Try.func22 (by kernel_rfl) (by kernel_rfl) rfl rfl fun w κ ρ vals hs hr => ⟨_, plain_i, ?_⟩
  have hs : vals.size = 1 := hs
  obtain ⟨V, hv, hR⟩ := lay_rd hL (hr 0 (by simp) (by omega) (.slot 0))
  rw [one_arg hs, hv]
  exact layCheck_any V L w hR
theorem refCheck_ok (L : Lay) (hL : LayFits L) : Ok Try.prog 27 [aLay L] [] (i64 (layErr L)) [] := by
  refine ok_old _ Try.func27 (by kernel_rfl) (by kernel_rfl) rfl rfl fun w κ ρ vals hs hr => ⟨_, plain_i, ?_⟩
  have hs : vals.size = 1 := hs
  obtain ⟨V, hv, hR⟩ := lay_rd hL (hr 0 (by simp) (by omega) (.slot 0))
  rw [one_arg hs, hv]
  exact refCheckLay_any V L w hR
theorem sum_ok (s : ByteArray) (hs : s.size ≤ 9223372036854775807) : Ok Try.prog 12 [aS s] [] (.c (.f (.v (.int .u32 (Pl.crc s.data.toList : Nat))))) [] := by
  refine ok_old _ Try.func12 (by kernel_rfl) (by kernel_rfl) rfl rfl fun w κ ρ vals hv hr => ⟨_, plain_i, ?_⟩
  have hv : vals.size = 1 := hv
  have h0 : vals[0] = .string s := (repF_v.1 (hr 0 (by simp) (by omega) (.slot 0))).1
  rw [one_arg hv, h0]
  exact (sum_any s w hs).mono fun e w' ⟨h1, h2⟩ => ⟨h1, by subst h2; exact Below.refl _ _⟩
theorem refCrc_ok (s : ByteArray) (hs : s.size ≤ 9223372036854775807) : Ok Try.prog 19 [aS s] [] (.c (.f (.v (.int .u32 (Pl.crc s.data.toList : Nat))))) [] := by
  refine ok_old _ Try.func19 (by kernel_rfl) (by kernel_rfl) rfl rfl fun w κ ρ vals hv hr => ⟨_, plain_i, ?_⟩
  have hv : vals.size = 1 := hv
  have h0 : vals[0] = .string s := (repF_v.1 (hr 0 (by simp) (by omega) (.slot 0))).1
  rw [one_arg hv, h0]
  exact (refCrc_any s w hs).mono fun e w' ⟨h1, h2⟩ => ⟨h1, by subst h2; exact Below.refl _ _⟩
theorem awake_ok : Ok Try.prog 16 [] [] (aB true) [] := by
  refine ok_old _ Try.func16 (by kernel_rfl) (by kernel_rfl) rfl rfl fun w κ ρ vals hv hr => ⟨_, plain_b, ?_⟩
  have hv : vals = #[] := Array.eq_empty_of_size_eq_zero hv
  rw [hv]
  exact (awake_any w).mono fun e w' ⟨h1, h2⟩ => ⟨h1, by subst h2; exact Below.refl _ _⟩
theorem check_okV (L : Lay) (hL : LayFits L) : OkV Try.prog 22 [vLay L] [] (vI (layErr L)) [] := check_ok L hL
theorem refCheck_okV (L : Lay) (hL : LayFits L) : OkV Try.prog 27 [vLay L] [] (vI (layErr L)) [] := refCheck_ok L hL
theorem sum_okV (s : ByteArray) (hs : s.size ≤ 9223372036854775807) : OkV Try.prog 12 [vS s] [] (.c (.c (.f (.v (.int .u32 (Pl.crc s.data.toList : Nat)))))) [] := sum_ok s hs
theorem refCrc_okV (s : ByteArray) (hs : s.size ≤ 9223372036854775807) : OkV Try.prog 19 [vS s] [] (.c (.c (.f (.v (.int .u32 (Pl.crc s.data.toList : Nat)))))) [] := refCrc_ok s hs
theorem awake_okV : OkV Try.prog 16 [] [] (vB true) [] := awake_ok
end Go.Proofs.Ythnfliopmjpdmaa.Av
/- The source of choices, and the builder of layouts: what their functions return. -/
namespace Go.Proofs.Ythnfliopmjpdmaa.Av
set_option linter.unusedVariables false
set_option linter.unusedSimpArgs false
set_option maxRecDepth 4000
set_option maxHeartbeats 4000000

/-- A choice below n. -/
def pick (v : Int) (n : Nat) : Nat := (v % 18446744073709551616).toNat % n
theorem pick_lt (v : Int) {n : Nat} (h : 0 < n) : pick v n < n := Nat.mod_lt _ h
theorem wrapU64 (v : Int) : IntKind.u64.wrap v = v % 18446744073709551616 := by
  simp only [IntKind.wrap]
  simp [IntKind.bits, IntKind.signed]
theorem pick_eq (v : Int) (n : Nat) (h0 : 0 < n) (hn : n ≤ 9223372036854775807) : (IntKind.u64.wrap v).tmod (IntKind.u64.wrap (n : Int)) = (pick v n : Int) := by
  have e1 : IntKind.u64.wrap (n : Int) = n := by rw [wrapU64]; omega
  rw [e1, wrapU64]
  have h1 : 0 ≤ v % 18446744073709551616 := Int.emod_nonneg _ (by omega)
  obtain ⟨m, hm⟩ := Int.eq_ofNat_of_zero_le h1
  rw [hm, ← Int.ofNat_tmod]
  unfold pick
  rw [hm, Int.toNat_natCast]
theorem pick_ok (v : Int) (n : Nat) (h0 : 0 < n) (hn : n ≤ 9223372036854775807) : OkV Try.prog 18 [vI v, vI n] [] (vI (pick v n)) [] := by
  have e1 : IntKind.u64.wrap (n : Int) = n := by rw [wrapU64]; omega
  have hz : IntKind.u64.wrap (n : Int) ≠ 0 := by rw [e1]; omega
  have e2 := pick_eq v n h0 hn
  have e3 := pick_lt v h0
  refine X_fnP mixedX Try.func18 rfl (by kernel_rfl) (Nat.le_of_ble_eq_true (by kernel_rfl)) (by kernel_rfl) rfl rfl ?_
  simp only [sl0, Nat.zero_add, Nat.reduceAdd]
  repeat' (first
    |with_reducible (first|refine WR_pp ?_|refine WR_pd ?_|refine W_seq ?_|refine seqK_n ?_|refine seqK_r ?_|refine seqK_e ?_|refine W_block ?_|refine blockK_n ?_|refine blockK_r ?_|refine LoopK_e ?_|refine LoopK_r ?_|refine LoopX_r ?_|refine W_skip ?_|refine W_exit ?_|refine W_ret ?_|refine W_region (WOps_WR ?_)|refine W_draw (WOpsD_WR ?_)|refine WR_nil ?_|refine q_and ?_ ?_|exact True.intro|assumption|refine blockK_e rfl ?_|refine blockK_o (by decide) ?_|refine LoopX_e (by decide) ?_)
    |((with_reducible apply q_WR);first|refine X_run rfl ?_ ?_|refine WR_nilD (by kernel_rfl) ?_)
    |((with_reducible apply q_cond);refine X_cond rfl ?_ ?_;all_goals (intro hbq;(try simp only [bq] at hbq);(try (exfalso;omega))))
    |((with_reducible apply q_ret);refine X_ret tabOk trivial rfl rfl ?_ ?_)
    |((with_reducible apply q_retP);refine X_retP tabOk trivial rfl rfl ?_ ?_)
    |(intro (hgq : (_ : Bool) = true);(try simp only [bq] at hgq))
    |(intro (hgq : (_ : Bool) = false);(try simp only [bq] at hgq))
    |((with_reducible apply q_VOk);exact fun _ => ⟨rfl,rfl⟩)
    |(intro _;exact rfl)
    |((with_reducible apply q_bt);simp only [bq])
    |((with_reducible apply q_eqN);rfl)
    |with_reducible exact isByte_wrap _
    |with_reducible exact isByte_nat _
    |(simp only [hgq,bq];done)
    |omega)
  repeat' (first|with_reducible (first|exact TkEq.nil _|refine TkEq.none ?_|refine TkEq.cells ?_ ?_|refine TkEq.els ?_ ?_|exact SEqL.nil|refine SEqL.cons ?_ ?_|exact TEqL.nil|refine TEqL.c ?_ ?_|refine TEqL.agg ?_ ?_|exact CEq.refl _|refine CEq.int ?_|refine CEq.bool ?_|refine CEq.str ?_|refine CEq.rows ?_|refine CEq.row ?_ ?_|refine CEq.tips ?_|refine CEq.tip ?_ ?_|refine CEq.raw ?_ ?_|refine CEq.arr ?_ ?_)|refine VEq.c ?_|refine VEq.agg ?_|refine VEq.tup ?_|refine TkEq.cells ?_ ?_|refine TkEq.els ?_ ?_|refine SEqL.cons ?_ ?_|refine TEqL.agg ?_ ?_|refine CEq.rows ?_|refine CEq.int ?_|rfl|omega)
/-- A source of choices. -/
structure Src where
  l : List Int
  i : Nat
def Src.ok (s : Src) : Prop := s.i ≤ s.l.length ∧ s.l.length ≤ 9223372036854775807
def Src.box (s : Src) : SB := .cells [rInt s.l, xI s.i]
def Src.nx (s : Src) (n : Nat) : Nat := match s.l[s.i]? with
  | some v => pick v n
  | none => 0
def Src.af (s : Src) : Src := if s.i < s.l.length then { s with i := s.i + 1 } else s
theorem Src.nx_lt (s : Src) {n : Nat} (h : 0 < n) : s.nx n < n := by
  unfold Src.nx
  split
  · exact pick_lt _ h
  · exact h
theorem Src.af_ok {s : Src} (h : s.ok) : s.af.ok := by
  obtain ⟨h1, h2⟩ := h
  unfold Src.af
  split
  · exact ⟨by simp only; omega, h2⟩
  · exact ⟨h1, h2⟩
theorem next_ok (s : Src) (n : Nat) (hs : s.ok) (h0 : 0 < n) (hn : n ≤ 9223372036854775807) : OkV Try.prog 40 [.c (pB 0), vI n] [some s.box] (vI (s.nx n)) [some s.af.box] := by
  obtain ⟨l, i⟩ := s
  obtain ⟨h1, h2⟩ := hs
  simp only at h1 h2
  unfold Src.box Src.nx Src.af
  simp only
  refine X_fn mixedX Try.func40 rfl (by kernel_rfl) (Nat.le_of_ble_eq_true (by kernel_rfl)) (by kernel_rfl) rfl rfl (Nat.le_of_ble_eq_true rfl) rfl rfl ?_
  simp only [sl0, Nat.zero_add, Nat.reduceAdd]
  have hP := pick_ok (l.getD ((i : Int) + 1 - 1).toNat 0) n h0 hn
  repeat' (first
    |with_reducible (first|refine WR_pp ?_|refine WR_pd ?_|refine W_seq ?_|refine seqK_n ?_|refine seqK_r ?_|refine seqK_e ?_|refine W_block ?_|refine blockK_n ?_|refine blockK_r ?_|refine LoopK_e ?_|refine LoopK_r ?_|refine LoopX_r ?_|refine W_skip ?_|refine W_exit ?_|refine W_ret ?_|refine W_region (WOps_WR ?_)|refine W_draw (WOpsD_WR ?_)|refine WR_nil ?_|refine q_and ?_ ?_|exact True.intro|assumption|refine blockK_e rfl ?_|refine blockK_o (by decide) ?_|refine LoopX_e (by decide) ?_)
    |((with_reducible apply q_call);refine X_pure (hP) rfl ?_)
    |((with_reducible apply q_WR);first|refine X_run rfl ?_ ?_|refine WR_nilD (by kernel_rfl) ?_)
    |((with_reducible apply q_cond);refine X_cond rfl ?_ ?_;all_goals (intro hbq;(try simp only [bq] at hbq);(try (exfalso;omega))))
    |((with_reducible apply q_ret);refine X_ret tabOk trivial rfl rfl ?_ ?_)
    |((with_reducible apply q_retP);refine X_retP tabOk trivial rfl rfl ?_ ?_)
    |(intro (hgq : (_ : Bool) = true);(try simp only [bq] at hgq))
    |(intro (hgq : (_ : Bool) = false);(try simp only [bq] at hgq))
    |((with_reducible apply q_VOk);exact fun _ => ⟨rfl,rfl⟩)
    |(intro _;exact rfl)
    |((with_reducible apply q_bt);simp only [bq])
    |((with_reducible apply q_eqN);rfl)
    |with_reducible exact isByte_wrap _
    |with_reducible exact isByte_nat _
    |(simp only [hgq,bq];done)
    |omega)
  · rw [List.getElem?_eq_none (by omega)]
    repeat' (first|with_reducible (first|exact TkEq.nil _|refine TkEq.none ?_|refine TkEq.cells ?_ ?_|refine TkEq.els ?_ ?_|exact SEqL.nil|refine SEqL.cons ?_ ?_|exact TEqL.nil|refine TEqL.c ?_ ?_|refine TEqL.agg ?_ ?_|exact CEq.refl _|refine CEq.int ?_|refine CEq.bool ?_|refine CEq.str ?_|refine CEq.rows ?_|refine CEq.row ?_ ?_|refine CEq.tips ?_|refine CEq.tip ?_ ?_|refine CEq.raw ?_ ?_|refine CEq.arr ?_ ?_)|refine VEq.c ?_|refine VEq.agg ?_|refine VEq.tup ?_|refine TkEq.cells ?_ ?_|refine TkEq.els ?_ ?_|refine SEqL.cons ?_ ?_|refine TEqL.agg ?_ ?_|refine CEq.rows ?_|refine CEq.int ?_|rfl|omega)
  · rw [if_neg (by omega)]
    repeat' (first|with_reducible (first|exact TkEq.nil _|refine TkEq.none ?_|refine TkEq.cells ?_ ?_|refine TkEq.els ?_ ?_|exact SEqL.nil|refine SEqL.cons ?_ ?_|exact TEqL.nil|refine TEqL.c ?_ ?_|refine TEqL.agg ?_ ?_|exact CEq.refl _|refine CEq.int ?_|refine CEq.bool ?_|refine CEq.str ?_|refine CEq.rows ?_|refine CEq.row ?_ ?_|refine CEq.tips ?_|refine CEq.tip ?_ ?_|refine CEq.raw ?_ ?_|refine CEq.arr ?_ ?_)|refine VEq.c ?_|refine VEq.agg ?_|refine VEq.tup ?_|refine TkEq.cells ?_ ?_|refine TkEq.els ?_ ?_|refine SEqL.cons ?_ ?_|refine TEqL.agg ?_ ?_|refine CEq.rows ?_|refine CEq.int ?_|rfl|omega)
  · rw [show ((i : Int) + 1 - 1).toNat = ((i : Int)).toNat by omega, ← Int.toNat_natCast i, getD_nth (d := 0) (l := l) (by omega) (by omega)]
    repeat' (first|with_reducible (first|exact TkEq.nil _|refine TkEq.none ?_|refine TkEq.cells ?_ ?_|refine TkEq.els ?_ ?_|exact SEqL.nil|refine SEqL.cons ?_ ?_|exact TEqL.nil|refine TEqL.c ?_ ?_|refine TEqL.agg ?_ ?_|exact CEq.refl _|refine CEq.int ?_|refine CEq.bool ?_|refine CEq.str ?_|refine CEq.rows ?_|refine CEq.row ?_ ?_|refine CEq.tips ?_|refine CEq.tip ?_ ?_|refine CEq.raw ?_ ?_|refine CEq.arr ?_ ?_)|refine VEq.c ?_|refine VEq.agg ?_|refine VEq.tup ?_|refine TkEq.cells ?_ ?_|refine TkEq.els ?_ ?_|refine SEqL.cons ?_ ?_|refine TEqL.agg ?_ ?_|refine CEq.rows ?_|refine CEq.int ?_|rfl|omega)
  · rw [if_pos (by omega)]
    repeat' (first|with_reducible (first|exact TkEq.nil _|refine TkEq.none ?_|refine TkEq.cells ?_ ?_|refine TkEq.els ?_ ?_|exact SEqL.nil|refine SEqL.cons ?_ ?_|exact TEqL.nil|refine TEqL.c ?_ ?_|refine TEqL.agg ?_ ?_|exact CEq.refl _|refine CEq.int ?_|refine CEq.bool ?_|refine CEq.str ?_|refine CEq.rows ?_|refine CEq.row ?_ ?_|refine CEq.tips ?_|refine CEq.tip ?_ ?_|refine CEq.raw ?_ ?_|refine CEq.arr ?_ ?_)|refine VEq.c ?_|refine VEq.agg ?_|refine VEq.tup ?_|refine TkEq.cells ?_ ?_|refine TkEq.els ?_ ?_|refine SEqL.cons ?_ ?_|refine TEqL.agg ?_ ?_|refine CEq.rows ?_|refine CEq.int ?_|rfl|omega)
/-- A name: a word and a digit. -/
def digits : ByteArray := ⟨#[48, 49, 50, 51, 52, 53, 54, 55, 56, 57]⟩
def nameN (w : ByteArray) (n : Nat) : ByteArray := w ++ digits.extract (n % 10) (n % 10 + 1)
theorem digit_size (n : Nat) : (digits.extract (n % 10) (n % 10 + 1)).size = 1 := by
  rw [ByteArray.size_extract]
  have : digits.size = 10 := rfl
  omega
theorem named_ok (w : ByteArray) (n : Nat) (hw : w.size ≤ 1000) (hn : n ≤ 1000000) : OkV Try.prog 41 [vS w, vI n] [] (vS (nameN w n)) [] := by
  have z : (⟨#[48, 49, 50, 51, 52, 53, 54, 55, 56, 57]⟩ : ByteArray).size = 10 := rfl
  have e1 : ((n : Int) % 10).toNat = n % 10 := by omega
  have e2 : ((n : Int) % 10 + 1).toNat = n % 10 + 1 := by omega
  have hsz := digit_size n
  unfold digits at hsz
  unfold nameN digits
  refine X_fnP mixedX Try.func41 rfl (by kernel_rfl) (Nat.le_of_ble_eq_true (by kernel_rfl)) (by kernel_rfl) rfl rfl ?_
  simp only [sl0, Nat.zero_add, Nat.reduceAdd]
  repeat' (first
    |with_reducible (first|refine WR_pp ?_|refine WR_pd ?_|refine W_seq ?_|refine seqK_n ?_|refine seqK_r ?_|refine seqK_e ?_|refine W_block ?_|refine blockK_n ?_|refine blockK_r ?_|refine LoopK_e ?_|refine LoopK_r ?_|refine LoopX_r ?_|refine W_skip ?_|refine W_exit ?_|refine W_ret ?_|refine W_region (WOps_WR ?_)|refine W_draw (WOpsD_WR ?_)|refine WR_nil ?_|refine q_and ?_ ?_|exact True.intro|assumption|refine blockK_e rfl ?_|refine blockK_o (by decide) ?_|refine LoopX_e (by decide) ?_)
    |((with_reducible apply q_WR);first|refine X_run rfl ?_ ?_|refine WR_nilD (by kernel_rfl) ?_)
    |((with_reducible apply q_cond);refine X_cond rfl ?_ ?_;all_goals (intro hbq;(try simp only [bq] at hbq);(try (exfalso;omega))))
    |((with_reducible apply q_ret);refine X_ret tabOk trivial rfl rfl ?_ ?_)
    |((with_reducible apply q_retP);refine X_retP tabOk trivial rfl rfl ?_ ?_)
    |(intro (hgq : (_ : Bool) = true);(try simp only [bq] at hgq))
    |(intro (hgq : (_ : Bool) = false);(try simp only [bq] at hgq))
    |((with_reducible apply q_VOk);exact fun _ => ⟨rfl,rfl⟩)
    |(intro _;exact rfl)
    |((with_reducible apply q_bt);simp only [bq])
    |((with_reducible apply q_eqN);rfl)
    |with_reducible exact isByte_wrap _
    |with_reducible exact isByte_nat _
    |(simp only [hgq,bq];done)
    |omega)
  · rw [e1, e2, hsz]; omega
  · rw [e1, e2]
    repeat' (first|with_reducible (first|exact TkEq.nil _|refine TkEq.none ?_|refine TkEq.cells ?_ ?_|refine TkEq.els ?_ ?_|exact SEqL.nil|refine SEqL.cons ?_ ?_|exact TEqL.nil|refine TEqL.c ?_ ?_|refine TEqL.agg ?_ ?_|exact CEq.refl _|refine CEq.int ?_|refine CEq.bool ?_|refine CEq.str ?_|refine CEq.rows ?_|refine CEq.row ?_ ?_|refine CEq.tips ?_|refine CEq.tip ?_ ?_|refine CEq.raw ?_ ?_|refine CEq.arr ?_ ?_)|refine VEq.c ?_|refine VEq.agg ?_|refine VEq.tup ?_|refine TkEq.cells ?_ ?_|refine TkEq.els ?_ ?_|refine SEqL.cons ?_ ?_|refine TEqL.agg ?_ ?_|refine CEq.rows ?_|refine CEq.int ?_|rfl|omega)
theorem nameN_size (w : ByteArray) (n : Nat) : (nameN w n).size = w.size + 1 := by
  unfold nameN
  rw [ByteArray.size_append, digit_size]
/-- A section of a few lengths, limits and grades. -/
def Src.sec (s : Src) (nm : ByteArray) (st : Int) : Sec := ⟨nm, 2 + s.nx 9, 5000 + 5000 * s.af.nx 7, s.af.af.nx 21 - 10, st⟩
theorem section_ok (s : Src) (nm : ByteArray) (st : Int) (hs : s.ok) : OkV Try.prog 42 [.c (pB 0), vS nm, vI st] [some s.box] (.agg (vSec (s.sec nm st))) [some s.af.af.af.box] := by
  have k1 := s.nx_lt (n := 9) (by omega)
  have k2 := s.af.nx_lt (n := 7) (by omega)
  have k3 := s.af.af.nx_lt (n := 21) (by omega)
  have h1 := next_ok s 9 hs (by omega) (by omega)
  have h2 := next_ok s.af 7 (Src.af_ok hs) (by omega) (by omega)
  have h3 := next_ok s.af.af 21 (Src.af_ok (Src.af_ok hs)) (by omega) (by omega)
  refine X_fn mixedX Try.func42 rfl (by kernel_rfl) (Nat.le_of_ble_eq_true (by kernel_rfl)) (by kernel_rfl) rfl rfl (Nat.le_of_ble_eq_true rfl) rfl rfl ?_
  simp only [sl0, Nat.zero_add, Nat.reduceAdd]
  repeat' (first
    |with_reducible (first|refine WR_pp ?_|refine WR_pd ?_|refine W_seq ?_|refine seqK_n ?_|refine seqK_r ?_|refine seqK_e ?_|refine W_block ?_|refine blockK_n ?_|refine blockK_r ?_|refine LoopK_e ?_|refine LoopK_r ?_|refine LoopX_r ?_|refine W_skip ?_|refine W_exit ?_|refine W_ret ?_|refine W_region (WOps_WR ?_)|refine W_draw (WOpsD_WR ?_)|refine WR_nil ?_|refine q_and ?_ ?_|exact True.intro|assumption|refine blockK_e rfl ?_|refine blockK_o (by decide) ?_|refine LoopX_e (by decide) ?_)
    |((with_reducible apply q_call);first|refine X_call [0] (h1) rfl rfl rfl rfl rfl rfl rfl rfl rfl rfl rfl rfl rfl ?_|refine X_call [0] (h2) rfl rfl rfl rfl rfl rfl rfl rfl rfl rfl rfl rfl rfl ?_|refine X_call [0] (h3) rfl rfl rfl rfl rfl rfl rfl rfl rfl rfl rfl rfl rfl ?_)
    |((with_reducible apply q_WR);first|refine X_run rfl ?_ ?_|refine WR_nilD (by kernel_rfl) ?_)
    |((with_reducible apply q_cond);refine X_cond rfl ?_ ?_;all_goals (intro hbq;(try simp only [bq] at hbq);(try (exfalso;omega))))
    |((with_reducible apply q_ret);refine X_ret tabOk trivial rfl rfl ?_ ?_)
    |((with_reducible apply q_retP);refine X_retP tabOk trivial rfl rfl ?_ ?_)
    |(intro (hgq : (_ : Bool) = true);(try simp only [bq] at hgq))
    |(intro (hgq : (_ : Bool) = false);(try simp only [bq] at hgq))
    |((with_reducible apply q_VOk);exact fun _ => ⟨rfl,rfl⟩)
    |(intro _;exact rfl)
    |((with_reducible apply q_bt);simp only [bq])
    |((with_reducible apply q_eqN);rfl)
    |with_reducible exact isByte_wrap _
    |with_reducible exact isByte_nat _
    |(simp only [hgq,bq];done)
    |omega)
  repeat' (first|with_reducible (first|exact TkEq.nil _|refine TkEq.none ?_|refine TkEq.cells ?_ ?_|refine TkEq.els ?_ ?_|exact SEqL.nil|refine SEqL.cons ?_ ?_|exact TEqL.nil|refine TEqL.c ?_ ?_|refine TEqL.agg ?_ ?_|exact CEq.refl _|refine CEq.int ?_|refine CEq.bool ?_|refine CEq.str ?_|refine CEq.rows ?_|refine CEq.row ?_ ?_|refine CEq.tips ?_|refine CEq.tip ?_ ?_|refine CEq.raw ?_ ?_|refine CEq.arr ?_ ?_)|refine VEq.c ?_|refine VEq.agg ?_|refine VEq.tup ?_|refine TkEq.cells ?_ ?_|refine TkEq.els ?_ ?_|refine SEqL.cons ?_ ?_|refine TEqL.agg ?_ ?_|refine CEq.rows ?_|refine CEq.int ?_|rfl|omega)
/-- A layout that is built. -/
structure Bld where
  L : Lay
  tracks : List (List Int)
  between : List (List Int)
def Bld.box (b : Bld) : SB := .cells [tStr b.L.sts, tStr b.L.pts, tSec b.L.secs, tLnk b.L.lnks, tTrk b.tracks, tTrk b.between, .c (.f .nils)]
structure Bld.small (b : Bld) : Prop where
  s1 : b.L.sts.length ≤ 1000
  s2 : b.L.pts.length ≤ 1000
  s3 : b.L.secs.length ≤ 1000
  s4 : b.L.lnks.length ≤ 1000
def Bld.add (b : Bld) (x : Sec) : Bld := { b with L := { b.L with secs := b.L.secs ++ [x] } }
def Bld.link (b : Bld) (k : Lnk) : Bld := { b with L := { b.L with lnks := b.L.lnks ++ [k] } }
def Bld.pt (b : Bld) : Bld := { b with L := { b.L with pts := b.L.pts ++ [nameN ⟨#[80]⟩ b.L.pts.length] } }
theorem add_ok (b : Bld) (x : Sec) (hb : b.small) : OkV Try.prog 43 [.c (pB 0), .agg (vSec x)] [some b.box] (vI b.L.secs.length) [some (b.add x).box] := by
  have h3 := hb.s3
  refine X_fn mixedX Try.func43 rfl (by kernel_rfl) (Nat.le_of_ble_eq_true (by kernel_rfl)) (by kernel_rfl) rfl rfl (Nat.le_of_ble_eq_true rfl) rfl rfl ?_
  simp only [sl0, Nat.zero_add, Nat.reduceAdd]
  repeat' (first
    |with_reducible (first|refine WR_pp ?_|refine WR_pd ?_|refine W_seq ?_|refine seqK_n ?_|refine seqK_r ?_|refine seqK_e ?_|refine W_block ?_|refine blockK_n ?_|refine blockK_r ?_|refine LoopK_e ?_|refine LoopK_r ?_|refine LoopX_r ?_|refine W_skip ?_|refine W_exit ?_|refine W_ret ?_|refine W_region (WOps_WR ?_)|refine W_draw (WOpsD_WR ?_)|refine WR_nil ?_|refine q_and ?_ ?_|exact True.intro|assumption|refine blockK_e rfl ?_|refine blockK_o (by decide) ?_|refine LoopX_e (by decide) ?_)
    |((with_reducible apply q_WR);first|refine X_run rfl ?_ ?_|refine WR_nilD (by kernel_rfl) ?_)
    |((with_reducible apply q_cond);refine X_cond rfl ?_ ?_;all_goals (intro hbq;(try simp only [bq] at hbq);(try (exfalso;omega))))
    |((with_reducible apply q_ret);refine X_ret tabOk trivial rfl rfl ?_ ?_)
    |((with_reducible apply q_retP);refine X_retP tabOk trivial rfl rfl ?_ ?_)
    |(intro (hgq : (_ : Bool) = true);(try simp only [bq] at hgq))
    |(intro (hgq : (_ : Bool) = false);(try simp only [bq] at hgq))
    |((with_reducible apply q_VOk);exact fun _ => ⟨rfl,rfl⟩)
    |(intro _;exact rfl)
    |((with_reducible apply q_bt);simp only [bq])
    |((with_reducible apply q_eqN);rfl)
    |with_reducible exact isByte_wrap _
    |with_reducible exact isByte_nat _
    |(simp only [hgq,bq];done)
    |omega)
  repeat' (first|with_reducible (first|exact TkEq.nil _|refine TkEq.none ?_|refine TkEq.cells ?_ ?_|refine TkEq.els ?_ ?_|exact SEqL.nil|refine SEqL.cons ?_ ?_|exact TEqL.nil|refine TEqL.c ?_ ?_|refine TEqL.agg ?_ ?_|exact CEq.refl _|refine CEq.int ?_|refine CEq.bool ?_|refine CEq.str ?_|refine CEq.rows ?_|refine CEq.row ?_ ?_|refine CEq.tips ?_|refine CEq.tip ?_ ?_|refine CEq.raw ?_ ?_|refine CEq.arr ?_ ?_)|refine VEq.c ?_|refine VEq.agg ?_|refine VEq.tup ?_|refine TkEq.cells ?_ ?_|refine TkEq.els ?_ ?_|refine SEqL.cons ?_ ?_|refine TEqL.agg ?_ ?_|refine CEq.rows ?_|refine CEq.int ?_|rfl|omega)
  all_goals simp [fSec, Bld.add, fS, fI]
theorem link_ok (b : Bld) (p q pt ps : Int) (hb : b.small) : OkV Try.prog 44 [.c (pB 0), vI p, vI q, vI pt, vI ps] [some b.box] (.tup []) [some (b.link ⟨p, 1, q, 0, pt, ps⟩).box] := by
  have h4 := hb.s4
  refine X_fn mixedX Try.func44 rfl (by kernel_rfl) (Nat.le_of_ble_eq_true (by kernel_rfl)) (by kernel_rfl) rfl rfl (Nat.le_of_ble_eq_true rfl) rfl rfl ?_
  simp only [sl0, Nat.zero_add, Nat.reduceAdd]
  repeat' (first
    |with_reducible (first|refine WR_pp ?_|refine WR_pd ?_|refine W_seq ?_|refine seqK_n ?_|refine seqK_r ?_|refine seqK_e ?_|refine W_block ?_|refine blockK_n ?_|refine blockK_r ?_|refine LoopK_e ?_|refine LoopK_r ?_|refine LoopX_r ?_|refine W_skip ?_|refine W_exit ?_|refine W_ret ?_|refine W_region (WOps_WR ?_)|refine W_draw (WOpsD_WR ?_)|refine WR_nil ?_|refine q_and ?_ ?_|exact True.intro|assumption|refine blockK_e rfl ?_|refine blockK_o (by decide) ?_|refine LoopX_e (by decide) ?_)
    |((with_reducible apply q_WR);first|refine X_run rfl ?_ ?_|refine WR_nilD (by kernel_rfl) ?_)
    |((with_reducible apply q_cond);refine X_cond rfl ?_ ?_;all_goals (intro hbq;(try simp only [bq] at hbq);(try (exfalso;omega))))
    |((with_reducible apply q_ret);refine X_ret tabOk trivial rfl rfl ?_ ?_)
    |((with_reducible apply q_retP);refine X_retP tabOk trivial rfl rfl ?_ ?_)
    |(intro (hgq : (_ : Bool) = true);(try simp only [bq] at hgq))
    |(intro (hgq : (_ : Bool) = false);(try simp only [bq] at hgq))
    |((with_reducible apply q_VOk);exact fun _ => ⟨rfl,rfl⟩)
    |(intro _;exact rfl)
    |((with_reducible apply q_bt);simp only [bq])
    |((with_reducible apply q_eqN);rfl)
    |with_reducible exact isByte_wrap _
    |with_reducible exact isByte_nat _
    |(simp only [hgq,bq];done)
    |omega)
  repeat' (first|with_reducible (first|exact TkEq.nil _|refine TkEq.none ?_|refine TkEq.cells ?_ ?_|refine TkEq.els ?_ ?_|exact SEqL.nil|refine SEqL.cons ?_ ?_|exact TEqL.nil|refine TEqL.c ?_ ?_|refine TEqL.agg ?_ ?_|exact CEq.refl _|refine CEq.int ?_|refine CEq.bool ?_|refine CEq.str ?_|refine CEq.rows ?_|refine CEq.row ?_ ?_|refine CEq.tips ?_|refine CEq.tip ?_ ?_|refine CEq.raw ?_ ?_|refine CEq.arr ?_ ?_)|refine VEq.c ?_|refine VEq.agg ?_|refine VEq.tup ?_|refine TkEq.cells ?_ ?_|refine TkEq.els ?_ ?_|refine SEqL.cons ?_ ?_|refine TEqL.agg ?_ ?_|refine CEq.rows ?_|refine CEq.int ?_|rfl|omega)
  all_goals simp [fLnk, Bld.link, fI]
theorem point_ok (b : Bld) (hb : b.small) : OkV Try.prog 59 [.c (pB 0)] [some b.box] (vI b.L.pts.length) [some b.pt.box] := by
  have h2 := hb.s2
  have hN := named_ok ⟨#[80]⟩ b.L.pts.length (by decide) (by omega)
  refine X_fn mixedX Try.func59 rfl (by kernel_rfl) (Nat.le_of_ble_eq_true (by kernel_rfl)) (by kernel_rfl) rfl rfl (Nat.le_of_ble_eq_true rfl) rfl rfl ?_
  simp only [sl0, Nat.zero_add, Nat.reduceAdd]
  repeat' (first
    |with_reducible (first|refine WR_pp ?_|refine WR_pd ?_|refine W_seq ?_|refine seqK_n ?_|refine seqK_r ?_|refine seqK_e ?_|refine W_block ?_|refine blockK_n ?_|refine blockK_r ?_|refine LoopK_e ?_|refine LoopK_r ?_|refine LoopX_r ?_|refine W_skip ?_|refine W_exit ?_|refine W_ret ?_|refine W_region (WOps_WR ?_)|refine W_draw (WOpsD_WR ?_)|refine WR_nil ?_|refine q_and ?_ ?_|exact True.intro|assumption|refine blockK_e rfl ?_|refine blockK_o (by decide) ?_|refine LoopX_e (by decide) ?_)
    |((with_reducible apply q_call);refine X_pure (hN) rfl ?_)
    |((with_reducible apply q_WR);first|refine X_run rfl ?_ ?_|refine WR_nilD (by kernel_rfl) ?_)
    |((with_reducible apply q_cond);refine X_cond rfl ?_ ?_;all_goals (intro hbq;(try simp only [bq] at hbq);(try (exfalso;omega))))
    |((with_reducible apply q_ret);refine X_ret tabOk trivial rfl rfl ?_ ?_)
    |((with_reducible apply q_retP);refine X_retP tabOk trivial rfl rfl ?_ ?_)
    |(intro (hgq : (_ : Bool) = true);(try simp only [bq] at hgq))
    |(intro (hgq : (_ : Bool) = false);(try simp only [bq] at hgq))
    |((with_reducible apply q_VOk);exact fun _ => ⟨rfl,rfl⟩)
    |(intro _;exact rfl)
    |((with_reducible apply q_bt);simp only [bq])
    |((with_reducible apply q_eqN);rfl)
    |with_reducible exact isByte_wrap _
    |with_reducible exact isByte_nat _
    |(simp only [hgq,bq];done)
    |omega)
  repeat' (first|with_reducible (first|exact TkEq.nil _|refine TkEq.none ?_|refine TkEq.cells ?_ ?_|refine TkEq.els ?_ ?_|exact SEqL.nil|refine SEqL.cons ?_ ?_|exact TEqL.nil|refine TEqL.c ?_ ?_|refine TEqL.agg ?_ ?_|exact CEq.refl _|refine CEq.int ?_|refine CEq.bool ?_|refine CEq.str ?_|refine CEq.rows ?_|refine CEq.row ?_ ?_|refine CEq.tips ?_|refine CEq.tip ?_ ?_|refine CEq.raw ?_ ?_|refine CEq.arr ?_ ?_)|refine VEq.c ?_|refine VEq.agg ?_|refine VEq.tup ?_|refine TkEq.cells ?_ ?_|refine TkEq.els ?_ ?_|refine SEqL.cons ?_ ?_|refine TEqL.agg ?_ ?_|refine CEq.rows ?_|refine CEq.int ?_|rfl|omega)
  all_goals simp [fStr, Bld.pt, fS]
/-- A section joined to the tracks of a station. -/
def Bld.links (b : Bld) (x pt : Int) (east : Bool) (ts : List Int) : Nat → Bld
  | 0 => b
  | i + 1 => (b.links x pt east ts i).link (if east = true then ⟨x, 1, ts.getD i 0, 0, pt, i⟩ else ⟨ts.getD i 0, 1, x, 0, pt, i⟩)
def Bld.fan (b : Bld) (x : Int) (ts : List Int) (east : Bool) : Bld :=
  if 1 < ts.length then b.pt.links x b.L.pts.length east ts ts.length else b.links x (-1) east ts ts.length
theorem links_small {b : Bld} (hb : b.small) (x pt : Int) (east : Bool) (ts : List Int) : ∀ i, (b.links x pt east ts i).L.sts = b.L.sts ∧ (b.links x pt east ts i).L.pts = b.L.pts ∧ (b.links x pt east ts i).L.secs = b.L.secs ∧ (b.links x pt east ts i).L.lnks.length = b.L.lnks.length + i
  | 0 => ⟨rfl, rfl, rfl, rfl⟩
  | i + 1 => by
    obtain ⟨h1, h2, h3, h4⟩ := links_small hb x pt east ts i
    refine ⟨h1, h2, h3, ?_⟩
    simp only [Bld.links, Bld.link, List.length_append, h4, List.length_singleton]
    omega
theorem fan_ok (b : Bld) (x : Int) (ts : List Int) (east : Bool) (hb : b.small) (ht : ts.length ≤ 10) (hb2 : b.L.lnks.length ≤ 900) (hb3 : b.L.pts.length ≤ 900) : OkV Try.prog 45 [.c (pB 0), vI x, .c (rInt ts), vB east] [some b.box] (.tup []) [some (b.fan x ts east).box] := by
  have hP := point_ok b hb
  refine X_fn mixedX Try.func45 rfl (by kernel_rfl) (Nat.le_of_ble_eq_true (by kernel_rfl)) (by kernel_rfl) rfl rfl (Nat.le_of_ble_eq_true rfl) rfl rfl ?_
  simp only [sl0, Nat.zero_add, Nat.reduceAdd]
  repeat' (first
    |with_reducible (first|refine WR_pp ?_|refine WR_pd ?_|refine W_seq ?_|refine seqK_n ?_|refine seqK_r ?_|refine seqK_e ?_|refine W_block ?_|refine blockK_n ?_|refine blockK_r ?_|refine LoopK_e ?_|refine LoopK_r ?_|refine LoopX_r ?_|refine W_skip ?_|refine W_exit ?_|refine W_ret ?_|refine W_region (WOps_WR ?_)|refine W_draw (WOpsD_WR ?_)|refine WR_nil ?_|refine q_and ?_ ?_|exact True.intro|assumption|refine blockK_e rfl ?_|refine blockK_o (by decide) ?_|refine LoopX_e (by decide) ?_)
    |((with_reducible apply q_call);refine X_call [0] (hP) rfl rfl rfl rfl rfl rfl rfl rfl rfl rfl rfl rfl rfl ?_)
    |((with_reducible apply q_WR);first|refine X_run rfl ?_ ?_|refine WR_nilD (by kernel_rfl) ?_)
    |((with_reducible apply q_cond);refine X_cond rfl ?_ ?_;all_goals (intro hbq;(try simp only [bq] at hbq);(try (exfalso;omega))))
    |((with_reducible apply q_ret);refine X_ret tabOk trivial rfl rfl ?_ ?_)
    |((with_reducible apply q_retP);refine X_retP tabOk trivial rfl rfl ?_ ?_)
    |(intro (hgq : (_ : Bool) = true);(try simp only [bq] at hgq))
    |(intro (hgq : (_ : Bool) = false);(try simp only [bq] at hgq))
    |((with_reducible apply q_VOk);exact fun _ => ⟨rfl,rfl⟩)
    |(intro _;exact rfl)
    |((with_reducible apply q_bt);simp only [bq])
    |((with_reducible apply q_eqN);rfl)
    |with_reducible exact isByte_wrap _
    |with_reducible exact isByte_nat _
    |(simp only [hgq,bq];done)
    |omega)
  · have hB : (b.pt).small ∧ (b.pt).L.lnks.length ≤ 900 := by
      refine ⟨⟨hb.s1, ?_, hb.s3, hb.s4⟩, hb2⟩
      (try simp only [Bld.pt, List.length_append, List.length_singleton])
      omega
    have hf : b.fan x ts east = (b.pt).links x (b.L.pts.length : Int) east ts ts.length := by unfold Bld.fan; rw [if_pos (by omega)]
    rw [hf]
    obtain ⟨hB, hB2⟩ := hB
    have hL : ∀ i, i ≤ ts.length → ((b.pt).links x (b.L.pts.length : Int) east ts i).small := fun i hi => by
      obtain ⟨k1, k2, k3, k4⟩ := links_small hB x (b.L.pts.length : Int) east ts i
      exact ⟨by rw [k1]; exact hB.s1, by rw [k2]; exact hB.s2, by rw [k3]; exact hB.s3, by rw [k4]; omega⟩
    clear hP hf
    refine W_loopS (fun i : Nat => SS [sC 0 (pB 0), sI 1 x, sC 2 (rInt ts), sB 3 east, sI 8 (b.L.pts.length : Int), sI 16 ts.length, sI 17 i] [some ((b.pt).links x (b.L.pts.length : Int) east ts i).box]) (fun i => i ≤ ts.length) (fun i => ts.length - i) 0 ?_ (by omega) ?_
    ·
      refine X_weak rfl rfl rfl ?_ ?_ <;> repeat' (first|with_reducible (first|exact q_AgS0|exact HLe.nil _|refine HLe.none ?_|refine HLe.cells ?_ ?_|refine HLe.els ?_ ?_|exact SLe.nil|refine SLe.cons ?_ ?_|exact ELe.refl _|refine ELe.c rfl ?_|exact CLe.refl _|exact CLe.nil_row|exact CLe.nil_rowS|exact CLe.nil_tip|exact CLe.nil_tipS|exact CLe.int (by omega)|refine CLe.tip ?_ ?_|refine CLe.tip_row ?_ ?_|refine CLe.row ?_ ?_|refine CLe.tipr_row ?_|refine CLe.rows ?_|refine CLe.tips ?_|refine CLe.int ?_|refine CLe.bool ?_|refine CLe.str ?_|refine CLe.arr ?_ ?_)|refine q_AgS rfl ?_ ?_|exact CLe.nil_tipS|exact CLe.nil_rowS|refine HLe.cells ?_ ?_|refine HLe.els ?_ ?_|refine SLe.cons ?_ ?_|with_reducible rfl|omega)
      all_goals rfl
    · intro i hi
      have hK1 := link_ok ((b.pt).links x (b.L.pts.length : Int) east ts i) x (ts.getD (i : Int).toNat 0) (b.L.pts.length : Int) i (hL i hi)
      have hK2 := link_ok ((b.pt).links x (b.L.pts.length : Int) east ts i) (ts.getD (i : Int).toNat 0) x (b.L.pts.length : Int) i (hL i hi)
      repeat' (first
        |with_reducible (first|refine WR_pp ?_|refine WR_pd ?_|refine W_seq ?_|refine seqK_n ?_|refine seqK_r ?_|refine seqK_e ?_|refine W_block ?_|refine blockK_n ?_|refine blockK_r ?_|refine LoopK_e ?_|refine LoopK_r ?_|refine LoopX_r ?_|refine W_skip ?_|refine W_exit ?_|refine W_ret ?_|refine W_region (WOps_WR ?_)|refine W_draw (WOpsD_WR ?_)|refine WR_nil ?_|refine q_and ?_ ?_|exact True.intro|assumption|refine blockK_e rfl ?_|refine blockK_o (by decide) ?_|refine LoopX_e (by decide) ?_)
        |((with_reducible apply q_call);first|refine X_call [0] (hK1) rfl rfl rfl rfl rfl rfl rfl rfl rfl rfl rfl rfl rfl ?_|refine X_call [0] (hK2) rfl rfl rfl rfl rfl rfl rfl rfl rfl rfl rfl rfl rfl ?_)
        |((with_reducible apply q_WR);first|refine X_run rfl ?_ ?_|refine WR_nilD (by kernel_rfl) ?_)
        |((with_reducible apply q_cond);refine X_cond rfl ?_ ?_;all_goals (intro hbq;(try simp only [bq] at hbq);(try (exfalso;omega))))
        |((with_reducible apply q_ret);refine X_ret tabOk trivial rfl rfl ?_ ?_)
        |((with_reducible apply q_retP);refine X_retP tabOk trivial rfl rfl ?_ ?_)
        |(intro (hgq : (_ : Bool) = true);(try simp only [bq] at hgq))
        |(intro (hgq : (_ : Bool) = false);(try simp only [bq] at hgq))
        |((with_reducible apply q_VOk);exact fun _ => ⟨rfl,rfl⟩)
        |(intro _;exact rfl)
        |((with_reducible apply q_bt);simp only [bq])
        |((with_reducible apply q_eqN);rfl)
        |with_reducible exact isByte_wrap _
        |with_reducible exact isByte_nat _
        |(simp only [hgq,bq];done)
        |omega)
      ·
        refine LoopK_n (i + 1) ?_ ?_ ?_
        rotate_left
        · (try dsimp only); omega
        · (try dsimp only); omega
        refine X_weak rfl rfl rfl ?_ ?_ <;> repeat' (first|with_reducible (first|exact q_AgS0|exact HLe.nil _|refine HLe.none ?_|refine HLe.cells ?_ ?_|refine HLe.els ?_ ?_|exact SLe.nil|refine SLe.cons ?_ ?_|exact ELe.refl _|refine ELe.c rfl ?_|exact CLe.refl _|exact CLe.nil_row|exact CLe.nil_rowS|exact CLe.nil_tip|exact CLe.nil_tipS|exact CLe.int (by omega)|refine CLe.tip ?_ ?_|refine CLe.tip_row ?_ ?_|refine CLe.row ?_ ?_|refine CLe.tipr_row ?_|refine CLe.rows ?_|refine CLe.tips ?_|refine CLe.int ?_|refine CLe.bool ?_|refine CLe.str ?_|refine CLe.arr ?_ ?_)|refine q_AgS rfl ?_ ?_|exact CLe.nil_tipS|exact CLe.nil_rowS|refine HLe.cells ?_ ?_|refine HLe.els ?_ ?_|refine SLe.cons ?_ ?_|with_reducible rfl|omega)
        all_goals (subst hbq; rfl)
      ·
        refine LoopK_n (i + 1) ?_ ?_ ?_
        rotate_left
        · (try dsimp only); omega
        · (try dsimp only); omega
        refine X_weak rfl rfl rfl ?_ ?_ <;> repeat' (first|with_reducible (first|exact q_AgS0|exact HLe.nil _|refine HLe.none ?_|refine HLe.cells ?_ ?_|refine HLe.els ?_ ?_|exact SLe.nil|refine SLe.cons ?_ ?_|exact ELe.refl _|refine ELe.c rfl ?_|exact CLe.refl _|exact CLe.nil_row|exact CLe.nil_rowS|exact CLe.nil_tip|exact CLe.nil_tipS|exact CLe.int (by omega)|refine CLe.tip ?_ ?_|refine CLe.tip_row ?_ ?_|refine CLe.row ?_ ?_|refine CLe.tipr_row ?_|refine CLe.rows ?_|refine CLe.tips ?_|refine CLe.int ?_|refine CLe.bool ?_|refine CLe.str ?_|refine CLe.arr ?_ ?_)|refine q_AgS rfl ?_ ?_|exact CLe.nil_tipS|exact CLe.nil_rowS|refine HLe.cells ?_ ?_|refine HLe.els ?_ ?_|refine SLe.cons ?_ ?_|with_reducible rfl|omega)
        all_goals (subst hbq; rfl)
      · have hie : i = ts.length := by omega
        subst hie
        repeat' (first|with_reducible (first|exact TkEq.nil _|refine TkEq.none ?_|refine TkEq.cells ?_ ?_|refine TkEq.els ?_ ?_|exact SEqL.nil|refine SEqL.cons ?_ ?_|exact TEqL.nil|refine TEqL.c ?_ ?_|refine TEqL.agg ?_ ?_|exact CEq.refl _|refine CEq.int ?_|refine CEq.bool ?_|refine CEq.str ?_|refine CEq.rows ?_|refine CEq.row ?_ ?_|refine CEq.tips ?_|refine CEq.tip ?_ ?_|refine CEq.raw ?_ ?_|refine CEq.arr ?_ ?_)|refine VEq.c ?_|refine VEq.agg ?_|refine VEq.tup ?_|refine TkEq.cells ?_ ?_|refine TkEq.els ?_ ?_|refine SEqL.cons ?_ ?_|refine TEqL.agg ?_ ?_|refine CEq.rows ?_|refine CEq.int ?_|rfl|omega)
      · have hie : i = ts.length := by omega
        subst hie
        repeat' (first|with_reducible (first|exact TkEq.nil _|refine TkEq.none ?_|refine TkEq.cells ?_ ?_|refine TkEq.els ?_ ?_|exact SEqL.nil|refine SEqL.cons ?_ ?_|exact TEqL.nil|refine TEqL.c ?_ ?_|refine TEqL.agg ?_ ?_|exact CEq.refl _|refine CEq.int ?_|refine CEq.bool ?_|refine CEq.str ?_|refine CEq.rows ?_|refine CEq.row ?_ ?_|refine CEq.tips ?_|refine CEq.tip ?_ ?_|refine CEq.raw ?_ ?_|refine CEq.arr ?_ ?_)|refine VEq.c ?_|refine VEq.agg ?_|refine VEq.tup ?_|refine TkEq.cells ?_ ?_|refine TkEq.els ?_ ?_|refine SEqL.cons ?_ ?_|refine TEqL.agg ?_ ?_|refine CEq.rows ?_|refine CEq.int ?_|rfl|omega)
  · have hB : (b).small ∧ (b).L.lnks.length ≤ 900 := by
      refine ⟨⟨hb.s1, ?_, hb.s3, hb.s4⟩, hb2⟩
      (try simp only [Bld.pt, List.length_append, List.length_singleton])
      omega
    have hf : b.fan x ts east = (b).links x (-1) east ts ts.length := by unfold Bld.fan; rw [if_neg (by omega)]
    rw [hf]
    obtain ⟨hB, hB2⟩ := hB
    have hL : ∀ i, i ≤ ts.length → ((b).links x (-1) east ts i).small := fun i hi => by
      obtain ⟨k1, k2, k3, k4⟩ := links_small hB x (-1) east ts i
      exact ⟨by rw [k1]; exact hB.s1, by rw [k2]; exact hB.s2, by rw [k3]; exact hB.s3, by rw [k4]; omega⟩
    clear hP hf
    refine W_loopS (fun i : Nat => SS [sC 0 (pB 0), sI 1 x, sC 2 (rInt ts), sB 3 east, sI 8 (-1), sI 16 ts.length, sI 17 i] [some ((b).links x (-1) east ts i).box]) (fun i => i ≤ ts.length) (fun i => ts.length - i) 0 ?_ (by omega) ?_
    ·
      refine X_weak rfl rfl rfl ?_ ?_ <;> repeat' (first|with_reducible (first|exact q_AgS0|exact HLe.nil _|refine HLe.none ?_|refine HLe.cells ?_ ?_|refine HLe.els ?_ ?_|exact SLe.nil|refine SLe.cons ?_ ?_|exact ELe.refl _|refine ELe.c rfl ?_|exact CLe.refl _|exact CLe.nil_row|exact CLe.nil_rowS|exact CLe.nil_tip|exact CLe.nil_tipS|exact CLe.int (by omega)|refine CLe.tip ?_ ?_|refine CLe.tip_row ?_ ?_|refine CLe.row ?_ ?_|refine CLe.tipr_row ?_|refine CLe.rows ?_|refine CLe.tips ?_|refine CLe.int ?_|refine CLe.bool ?_|refine CLe.str ?_|refine CLe.arr ?_ ?_)|refine q_AgS rfl ?_ ?_|exact CLe.nil_tipS|exact CLe.nil_rowS|refine HLe.cells ?_ ?_|refine HLe.els ?_ ?_|refine SLe.cons ?_ ?_|with_reducible rfl|omega)
      all_goals rfl
    · intro i hi
      have hK1 := link_ok ((b).links x (-1) east ts i) x (ts.getD (i : Int).toNat 0) (-1) i (hL i hi)
      have hK2 := link_ok ((b).links x (-1) east ts i) (ts.getD (i : Int).toNat 0) x (-1) i (hL i hi)
      repeat' (first
        |with_reducible (first|refine WR_pp ?_|refine WR_pd ?_|refine W_seq ?_|refine seqK_n ?_|refine seqK_r ?_|refine seqK_e ?_|refine W_block ?_|refine blockK_n ?_|refine blockK_r ?_|refine LoopK_e ?_|refine LoopK_r ?_|refine LoopX_r ?_|refine W_skip ?_|refine W_exit ?_|refine W_ret ?_|refine W_region (WOps_WR ?_)|refine W_draw (WOpsD_WR ?_)|refine WR_nil ?_|refine q_and ?_ ?_|exact True.intro|assumption|refine blockK_e rfl ?_|refine blockK_o (by decide) ?_|refine LoopX_e (by decide) ?_)
        |((with_reducible apply q_call);first|refine X_call [0] (hK1) rfl rfl rfl rfl rfl rfl rfl rfl rfl rfl rfl rfl rfl ?_|refine X_call [0] (hK2) rfl rfl rfl rfl rfl rfl rfl rfl rfl rfl rfl rfl rfl ?_)
        |((with_reducible apply q_WR);first|refine X_run rfl ?_ ?_|refine WR_nilD (by kernel_rfl) ?_)
        |((with_reducible apply q_cond);refine X_cond rfl ?_ ?_;all_goals (intro hbq;(try simp only [bq] at hbq);(try (exfalso;omega))))
        |((with_reducible apply q_ret);refine X_ret tabOk trivial rfl rfl ?_ ?_)
        |((with_reducible apply q_retP);refine X_retP tabOk trivial rfl rfl ?_ ?_)
        |(intro (hgq : (_ : Bool) = true);(try simp only [bq] at hgq))
        |(intro (hgq : (_ : Bool) = false);(try simp only [bq] at hgq))
        |((with_reducible apply q_VOk);exact fun _ => ⟨rfl,rfl⟩)
        |(intro _;exact rfl)
        |((with_reducible apply q_bt);simp only [bq])
        |((with_reducible apply q_eqN);rfl)
        |with_reducible exact isByte_wrap _
        |with_reducible exact isByte_nat _
        |(simp only [hgq,bq];done)
        |omega)
      ·
        refine LoopK_n (i + 1) ?_ ?_ ?_
        rotate_left
        · (try dsimp only); omega
        · (try dsimp only); omega
        refine X_weak rfl rfl rfl ?_ ?_ <;> repeat' (first|with_reducible (first|exact q_AgS0|exact HLe.nil _|refine HLe.none ?_|refine HLe.cells ?_ ?_|refine HLe.els ?_ ?_|exact SLe.nil|refine SLe.cons ?_ ?_|exact ELe.refl _|refine ELe.c rfl ?_|exact CLe.refl _|exact CLe.nil_row|exact CLe.nil_rowS|exact CLe.nil_tip|exact CLe.nil_tipS|exact CLe.int (by omega)|refine CLe.tip ?_ ?_|refine CLe.tip_row ?_ ?_|refine CLe.row ?_ ?_|refine CLe.tipr_row ?_|refine CLe.rows ?_|refine CLe.tips ?_|refine CLe.int ?_|refine CLe.bool ?_|refine CLe.str ?_|refine CLe.arr ?_ ?_)|refine q_AgS rfl ?_ ?_|exact CLe.nil_tipS|exact CLe.nil_rowS|refine HLe.cells ?_ ?_|refine HLe.els ?_ ?_|refine SLe.cons ?_ ?_|with_reducible rfl|omega)
        all_goals (subst hbq; rfl)
      ·
        refine LoopK_n (i + 1) ?_ ?_ ?_
        rotate_left
        · (try dsimp only); omega
        · (try dsimp only); omega
        refine X_weak rfl rfl rfl ?_ ?_ <;> repeat' (first|with_reducible (first|exact q_AgS0|exact HLe.nil _|refine HLe.none ?_|refine HLe.cells ?_ ?_|refine HLe.els ?_ ?_|exact SLe.nil|refine SLe.cons ?_ ?_|exact ELe.refl _|refine ELe.c rfl ?_|exact CLe.refl _|exact CLe.nil_row|exact CLe.nil_rowS|exact CLe.nil_tip|exact CLe.nil_tipS|exact CLe.int (by omega)|refine CLe.tip ?_ ?_|refine CLe.tip_row ?_ ?_|refine CLe.row ?_ ?_|refine CLe.tipr_row ?_|refine CLe.rows ?_|refine CLe.tips ?_|refine CLe.int ?_|refine CLe.bool ?_|refine CLe.str ?_|refine CLe.arr ?_ ?_)|refine q_AgS rfl ?_ ?_|exact CLe.nil_tipS|exact CLe.nil_rowS|refine HLe.cells ?_ ?_|refine HLe.els ?_ ?_|refine SLe.cons ?_ ?_|with_reducible rfl|omega)
        all_goals (subst hbq; rfl)
      · have hie : i = ts.length := by omega
        subst hie
        repeat' (first|with_reducible (first|exact TkEq.nil _|refine TkEq.none ?_|refine TkEq.cells ?_ ?_|refine TkEq.els ?_ ?_|exact SEqL.nil|refine SEqL.cons ?_ ?_|exact TEqL.nil|refine TEqL.c ?_ ?_|refine TEqL.agg ?_ ?_|exact CEq.refl _|refine CEq.int ?_|refine CEq.bool ?_|refine CEq.str ?_|refine CEq.rows ?_|refine CEq.row ?_ ?_|refine CEq.tips ?_|refine CEq.tip ?_ ?_|refine CEq.raw ?_ ?_|refine CEq.arr ?_ ?_)|refine VEq.c ?_|refine VEq.agg ?_|refine VEq.tup ?_|refine TkEq.cells ?_ ?_|refine TkEq.els ?_ ?_|refine SEqL.cons ?_ ?_|refine TEqL.agg ?_ ?_|refine CEq.rows ?_|refine CEq.int ?_|rfl|omega)
      · have hie : i = ts.length := by omega
        subst hie
        repeat' (first|with_reducible (first|exact TkEq.nil _|refine TkEq.none ?_|refine TkEq.cells ?_ ?_|refine TkEq.els ?_ ?_|exact SEqL.nil|refine SEqL.cons ?_ ?_|exact TEqL.nil|refine TEqL.c ?_ ?_|refine TEqL.agg ?_ ?_|exact CEq.refl _|refine CEq.int ?_|refine CEq.bool ?_|refine CEq.str ?_|refine CEq.rows ?_|refine CEq.row ?_ ?_|refine CEq.tips ?_|refine CEq.tip ?_ ?_|refine CEq.raw ?_ ?_|refine CEq.arr ?_ ?_)|refine VEq.c ?_|refine VEq.agg ?_|refine VEq.tup ?_|refine TkEq.cells ?_ ?_|refine TkEq.els ?_ ?_|refine SEqL.cons ?_ ?_|refine TEqL.agg ?_ ?_|refine CEq.rows ?_|refine CEq.int ?_|rfl|omega)
end Go.Proofs.Ythnfliopmjpdmaa.Av
/- The row of stations: what it builds. -/
namespace Go.Proofs.Ythnfliopmjpdmaa.Av
set_option linter.unusedVariables false
set_option linter.unusedSimpArgs false
set_option maxRecDepth 4000
set_option maxHeartbeats 4000000

def iter {σ : Type} (f : Nat → σ → σ) (x : σ) : Nat → σ
  | 0 => x
  | i + 1 => f i (iter f x i)
def Bld.addSt (b : Bld) (nm : ByteArray) : Bld := { b with L := { b.L with sts := b.L.sts ++ [nm] } }
def Bld.addTr (b : Bld) (t : List Int) : Bld := { b with tracks := b.tracks ++ [t] }
def Bld.addBt (b : Bld) (t : List Int) : Bld := { b with between := b.between ++ [t] }
def Bld.zero : Bld := ⟨⟨[], [], [], []⟩, [], []⟩
structure Bld.le (b : Bld) (m : Nat) : Prop where
  s1 : b.L.sts.length ≤ m
  s2 : b.L.pts.length ≤ m
  s3 : b.L.secs.length ≤ m
  s4 : b.L.lnks.length ≤ m
  s5 : b.tracks.length ≤ m
  s6 : b.between.length ≤ m
theorem Bld.le.small {b : Bld} {m : Nat} (h : b.le m) (hm : m ≤ 900) : b.small := ⟨by have := h.s1; omega, by have := h.s2; omega, by have := h.s3; omega, by have := h.s4; omega⟩
theorem Bld.le.mono {b : Bld} {m k : Nat} (h : b.le m) (hm : m ≤ k) : b.le k := ⟨Nat.le_trans h.s1 hm, Nat.le_trans h.s2 hm, Nat.le_trans h.s3 hm, Nat.le_trans h.s4 hm, Nat.le_trans h.s5 hm, Nat.le_trans h.s6 hm⟩
abbrev TBS := List Int × Bld × Src
def secT (i k : Nat) (s : Src) : Sec := { s.sec (nameN (nameN ⟨#[84]⟩ i) k) i with len := (s.sec (nameN (nameN ⟨#[84]⟩ i) k) i).len + 2 }
def tStep (i k : Nat) (x : TBS) : TBS := (x.1 ++ [(x.2.1.L.secs.length : Int)], x.2.1.add (secT i k x.2.2), x.2.2.af.af.af)
def tLoop (i : Nat) : Nat → TBS → TBS
  | 0, x => x
  | k + 1, x => tLoop i k (tStep i (k + 1) x)
def oStep (i : Nat) (x : Bld × Src) : Bld × Src :=
  let y := tLoop i (1 + x.2.nx 2) ([], x.1.addSt (nameN ⟨#[83]⟩ i), x.2.af)
  (y.2.1.addTr y.1, y.2.2)
theorem add_le {b : Bld} {m : Nat} (h : b.le m) (x : Sec) : (b.add x).le (m + 1) := ⟨Nat.le_succ_of_le h.s1, Nat.le_succ_of_le h.s2, by have := h.s3; simp only [Bld.add, List.length_append, List.length_singleton]; omega, Nat.le_succ_of_le h.s4, Nat.le_succ_of_le h.s5, Nat.le_succ_of_le h.s6⟩
theorem tLoop_le (i : Nat) : ∀ (k : Nat) (x : TBS) (m : Nat), x.2.1.le m → x.2.2.ok → (tLoop i k x).2.1.le (m + k) ∧ (tLoop i k x).2.2.ok ∧ (tLoop i k x).1.length = x.1.length + k
  | 0, x, m, h, hs => ⟨h, hs, rfl⟩
  | k + 1, x, m, h, hs => by
    obtain ⟨h1, h2, h3⟩ := tLoop_le i k (tStep i (k + 1) x) (m + 1) (add_le h _) (Src.af_ok (Src.af_ok (Src.af_ok hs)))
    refine ⟨h1.mono (by omega), h2, ?_⟩
    simp only [tLoop]
    rw [h3]
    simp only [tStep, List.length_append, List.length_singleton]
    omega
theorem oStep_le (i : Nat) (x : Bld × Src) (m : Nat) (h : x.1.le m) (hs : x.2.ok) : (oStep i x).1.le (m + 4) ∧ (oStep i x).2.ok := by
  have hk := x.2.nx_lt (n := 2) (by omega)
  have h0 : (x.1.addSt (nameN ⟨#[83]⟩ i)).le (m + 1) := ⟨by have := h.s1; simp only [Bld.addSt, List.length_append, List.length_singleton]; omega, Nat.le_succ_of_le h.s2, Nat.le_succ_of_le h.s3, Nat.le_succ_of_le h.s4, Nat.le_succ_of_le h.s5, Nat.le_succ_of_le h.s6⟩
  obtain ⟨h1, h2, h3⟩ := tLoop_le i (1 + x.2.nx 2) ([], x.1.addSt (nameN ⟨#[83]⟩ i), x.2.af) (m + 1) h0 (Src.af_ok hs)
  have h1' := h1.mono (show m + 1 + (1 + x.2.nx 2) ≤ m + 3 by omega)
  exact ⟨⟨Nat.le_succ_of_le h1'.s1, Nat.le_succ_of_le h1'.s2, Nat.le_succ_of_le h1'.s3, Nat.le_succ_of_le h1'.s4, by have := h1'.s5; simp only [oStep, Bld.addTr, List.length_append, List.length_singleton]; omega, Nat.le_succ_of_le h1'.s6⟩, h2⟩
theorem iter_le {f : Nat → Bld × Src → Bld × Src} (c : Nat) (hf : ∀ i x m, x.1.le m → x.2.ok → (f i x).1.le (m + c) ∧ (f i x).2.ok) {x : Bld × Src} {m : Nat} (h : x.1.le m) (hs : x.2.ok) : ∀ i, (iter f x i).1.le (m + i * c) ∧ (iter f x i).2.ok
  | 0 => ⟨h.mono (by omega), hs⟩
  | i + 1 => by
    obtain ⟨h1, h2⟩ := iter_le c hf h hs i
    obtain ⟨h3, h4⟩ := hf i _ _ h1 h2
    exact ⟨h3.mono (by rw [Nat.succ_mul]; omega), h4⟩
theorem zero_le' : Bld.zero.le 0 := ⟨Nat.le_refl _, Nat.le_refl _, Nat.le_refl _, Nat.le_refl _, Nat.le_refl _, Nat.le_refl _⟩
def secL (i k : Nat) (s : Src) : Sec := s.sec (nameN (nameN ⟨#[76]⟩ i) k) (-1)
def lStep (i k : Nat) (x : TBS) : TBS := (x.1 ++ [(x.2.1.L.secs.length : Int)], x.2.1.add (secL i k x.2.2), x.2.2.af.af.af)
def lLoop (i : Nat) : Nat → TBS → TBS
  | 0, x => x
  | k + 1, x => lLoop i k (lStep i (k + 1) x)
def cLoop (b : Bld) (t : List Int) : Nat → Bld
  | 0 => b
  | k + 1 => (cLoop b t k).link ⟨t.getD k 0, 1, t.getD (k + 1) 0, 0, -1, 0⟩
def pStep (i : Nat) (x : Bld × Src) : Bld × Src :=
  let y := lLoop i (1 + x.2.nx 2) ([], x.1, x.2.af)
  let c := cLoop y.2.1 y.1 (y.1.length - 1)
  let d := c.fan (y.1.getD 0 0) (c.tracks.getD i []) false
  let e := d.fan (y.1.getD (y.1.length - 1) 0) (d.tracks.getD (i + 1) []) true
  (e.addBt y.1, y.2.2)
def rowB (s : Src) : Bld × Src := iter pStep (iter oStep (Bld.zero, s.af) (2 + s.nx 2)) (1 + s.nx 2)
/-- What the tracks are: m lists of one or two. -/
def TrOk (b : Bld) (m : Nat) : Prop := b.tracks.length = m ∧ ∀ t ∈ b.tracks, 1 ≤ t.length ∧ t.length ≤ 2
theorem tLoop_tr (i : Nat) : ∀ (k : Nat) (x : TBS), (tLoop i k x).2.1.tracks = x.2.1.tracks
  | 0, x => rfl
  | k + 1, x => tLoop_tr i k (tStep i (k + 1) x)
theorem oStep_tr (i : Nat) (x : Bld × Src) (m : Nat) (hl : x.1.le 100) (hs : x.2.ok) (h : TrOk x.1 m) : TrOk (oStep i x).1 (m + 1) := by
  have hk := x.2.nx_lt (n := 2) (by omega)
  have h0 : (x.1.addSt (nameN ⟨#[83]⟩ i)).le 101 := ⟨by have := hl.s1; simp only [Bld.addSt, List.length_append, List.length_singleton]; omega, Nat.le_succ_of_le hl.s2, Nat.le_succ_of_le hl.s3, Nat.le_succ_of_le hl.s4, Nat.le_succ_of_le hl.s5, Nat.le_succ_of_le hl.s6⟩
  obtain ⟨_, _, h3⟩ := tLoop_le i (1 + x.2.nx 2) ([], x.1.addSt (nameN ⟨#[83]⟩ i), x.2.af) 101 h0 (Src.af_ok hs)
  have h4 := tLoop_tr i (1 + x.2.nx 2) ([], x.1.addSt (nameN ⟨#[83]⟩ i), x.2.af)
  simp only [List.length_nil, Nat.zero_add] at h3
  unfold TrOk
  simp only [oStep, Bld.addTr]
  rw [h4]
  refine ⟨by simp only [Bld.addSt, List.length_append, List.length_singleton]; rw [h.1], fun t ht => ?_⟩
  rcases List.mem_append.1 ht with ht | ht
  · exact h.2 t ht
  · rw [List.mem_singleton] at ht
    rw [ht, h3]
    omega
theorem oIter_tr {s : Src} (hs : s.ok) : ∀ i, i ≤ 3 → TrOk (iter oStep (Bld.zero, s) i).1 i
  | 0, _ => ⟨rfl, fun t ht => by cases ht⟩
  | i + 1, hi => by
    obtain ⟨h1, h2⟩ := iter_le (x := (Bld.zero, s)) (m := 0) 4 oStep_le zero_le' hs i
    exact oStep_tr i _ i (h1.mono (by omega)) h2 (oIter_tr hs i (by omega))
theorem lLoop_le (i : Nat) : ∀ (k : Nat) (x : TBS) (m : Nat), x.2.1.le m → x.2.2.ok → (lLoop i k x).2.1.le (m + k) ∧ (lLoop i k x).2.2.ok ∧ (lLoop i k x).1.length = x.1.length + k ∧ (lLoop i k x).2.1.tracks = x.2.1.tracks
  | 0, x, m, h, hs => ⟨h, hs, rfl, rfl⟩
  | k + 1, x, m, h, hs => by
    obtain ⟨h1, h2, h3, h4⟩ := lLoop_le i k (lStep i (k + 1) x) (m + 1) (add_le h _) (Src.af_ok (Src.af_ok (Src.af_ok hs)))
    refine ⟨h1.mono (by omega), h2, ?_, h4⟩
    simp only [lLoop]
    rw [h3]
    simp only [lStep, List.length_append, List.length_singleton]
    omega
theorem link_le {b : Bld} {m : Nat} (h : b.le m) (k : Lnk) : (b.link k).le (m + 1) := ⟨Nat.le_succ_of_le h.s1, Nat.le_succ_of_le h.s2, Nat.le_succ_of_le h.s3, by have := h.s4; simp only [Bld.link, List.length_append, List.length_singleton]; omega, Nat.le_succ_of_le h.s5, Nat.le_succ_of_le h.s6⟩
theorem pt_le {b : Bld} {m : Nat} (h : b.le m) : b.pt.le (m + 1) := ⟨Nat.le_succ_of_le h.s1, by have := h.s2; simp only [Bld.pt, List.length_append, List.length_singleton]; omega, Nat.le_succ_of_le h.s3, Nat.le_succ_of_le h.s4, Nat.le_succ_of_le h.s5, Nat.le_succ_of_le h.s6⟩
theorem cLoop_le {b : Bld} {m : Nat} (h : b.le m) (t : List Int) : ∀ k, (cLoop b t k).le (m + k) ∧ (cLoop b t k).tracks = b.tracks
  | 0 => ⟨h, rfl⟩
  | k + 1 => by
    obtain ⟨h1, h2⟩ := cLoop_le h t k
    exact ⟨link_le h1 _, h2⟩
theorem links_le {b : Bld} {m : Nat} (h : b.le m) (x pt : Int) (east : Bool) (ts : List Int) : ∀ k, (b.links x pt east ts k).le (m + k) ∧ (b.links x pt east ts k).tracks = b.tracks
  | 0 => ⟨h, rfl⟩
  | k + 1 => by
    obtain ⟨h1, h2⟩ := links_le h x pt east ts k
    exact ⟨link_le h1 _, h2⟩
theorem fan_le {b : Bld} {m : Nat} (h : b.le m) (x : Int) (ts : List Int) (east : Bool) (ht : ts.length ≤ 2) : (b.fan x ts east).le (m + 3) ∧ (b.fan x ts east).tracks = b.tracks := by
  unfold Bld.fan
  split
  · obtain ⟨h1, h2⟩ := links_le (pt_le h) x b.L.pts.length east ts ts.length
    exact ⟨h1.mono (by omega), h2⟩
  · obtain ⟨h1, h2⟩ := links_le h x (-1) east ts ts.length
    exact ⟨h1.mono (by omega), h2⟩
theorem pStep_le (i : Nat) (x : Bld × Src) (m k : Nat) (h : x.1.le m) (hs : x.2.ok) (ht : TrOk x.1 k) : (pStep i x).1.le (m + 10) ∧ (pStep i x).2.ok ∧ TrOk (pStep i x).1 k := by
  have hk := x.2.nx_lt (n := 2) (by omega)
  obtain ⟨h1, h2, h3, h4⟩ := lLoop_le i (1 + x.2.nx 2) ([], x.1, x.2.af) m h (Src.af_ok hs)
  simp only [List.length_nil, Nat.zero_add] at h3 h4
  have hlen : ∀ {b : Bld} (j : Nat), b.tracks = x.1.tracks → (b.tracks.getD j []).length ≤ 2 := fun {b} j e => by
    rw [e, List.getD_eq_getElem?_getD]
    cases hj : x.1.tracks[j]? with
    | none => simp
    | some t => exact (ht.2 t (List.mem_of_getElem? hj)).2
  unfold pStep
  simp only
  generalize lLoop i (1 + x.2.nx 2) ([], x.1, x.2.af) = y at h1 h2 h3 h4
  obtain ⟨c1, c2⟩ := cLoop_le h1 y.1 (y.1.length - 1)
  obtain ⟨d1, d2⟩ := fan_le c1 (y.1.getD 0 0) _ false (hlen (b := cLoop y.2.1 y.1 (y.1.length - 1)) i (c2.trans h4))
  obtain ⟨e1, e2⟩ := fan_le d1 (y.1.getD (y.1.length - 1) 0) _ true (hlen (i + 1) (d2.trans (c2.trans h4)))
  have e3 := e2.trans (d2.trans (c2.trans h4))
  refine ⟨?_, h2, ?_⟩
  · have e1' := e1.mono (show m + (1 + x.2.nx 2) + (y.1.length - 1) + 3 + 3 ≤ m + 9 by omega)
    exact ⟨Nat.le_succ_of_le e1'.s1, Nat.le_succ_of_le e1'.s2, Nat.le_succ_of_le e1'.s3, Nat.le_succ_of_le e1'.s4, Nat.le_succ_of_le e1'.s5, by have := e1'.s6; simp only [Bld.addBt, List.length_append, List.length_singleton]; omega⟩
  · unfold TrOk
    simp only [Bld.addBt]
    rw [e3]
    exact ht
theorem pIter_le {x : Bld × Src} {m k : Nat} (h : x.1.le m) (hs : x.2.ok) (ht : TrOk x.1 k) : ∀ i, (iter pStep x i).1.le (m + i * 10) ∧ (iter pStep x i).2.ok ∧ TrOk (iter pStep x i).1 k
  | 0 => ⟨h.mono (by omega), hs, ht⟩
  | i + 1 => by
    obtain ⟨h1, h2, h3⟩ := pIter_le h hs ht i
    obtain ⟨h4, h5, h6⟩ := pStep_le i _ _ k h1 h2 h3
    exact ⟨h4.mono (by rw [Nat.succ_mul]; omega), h5, h6⟩
abbrev slR (n : Nat) : SL := [sC 0 (pB 0), sC 3 (pB 1), sI 4 (2 + n)]
theorem row_ok (s : Src) (hs : s.ok) : OkV Try.prog 25 [.c (pB 0)] [some s.box] (.c (pB 1)) [some (rowB s).2.box, some (rowB s).1.box] := by
  have hk := s.nx_lt (n := 2) (by omega)
  have hN := next_ok s 2 hs (by omega) (by omega)
  unfold rowB
  obtain ⟨n, en⟩ : ∃ n, s.nx 2 = n := ⟨_, rfl⟩
  rw [en] at hN hk ⊢
  refine X_fn mixedX Try.func25 rfl (by kernel_rfl) (Nat.le_of_ble_eq_true (by kernel_rfl)) (by kernel_rfl) rfl rfl (Nat.le_of_ble_eq_true rfl) rfl rfl ?_
  simp only [sl0, Nat.zero_add, Nat.reduceAdd]
  repeat' (first
    |with_reducible (first|refine WR_pp ?_|refine WR_pd ?_|refine W_seq ?_|refine seqK_n ?_|refine seqK_r ?_|refine seqK_e ?_|refine W_block ?_|refine blockK_n ?_|refine blockK_r ?_|refine LoopK_e ?_|refine LoopK_r ?_|refine LoopX_r ?_|refine W_skip ?_|refine W_exit ?_|refine W_ret ?_|refine W_region (WOps_WR ?_)|refine W_draw (WOpsD_WR ?_)|refine WR_nil ?_|refine q_and ?_ ?_|exact True.intro|assumption|refine blockK_e rfl ?_|refine blockK_o (by decide) ?_|refine LoopX_e (by decide) ?_)
    |((with_reducible apply q_call);refine X_call [0] (hN) rfl rfl rfl rfl rfl rfl rfl rfl rfl rfl rfl rfl rfl ?_)
    |((with_reducible apply q_WR);first|refine X_run rfl ?_ ?_|refine WR_nilD (by kernel_rfl) ?_)
    |((with_reducible apply q_cond);refine X_cond rfl ?_ ?_;all_goals (intro hbq;(try simp only [bq] at hbq);(try (exfalso;omega))))
    |((with_reducible apply q_ret);refine X_ret tabOk trivial rfl rfl ?_ ?_)
    |((with_reducible apply q_retP);refine X_retP tabOk trivial rfl rfl ?_ ?_)
    |(intro (hgq : (_ : Bool) = true);(try simp only [bq] at hgq))
    |(intro (hgq : (_ : Bool) = false);(try simp only [bq] at hgq))
    |((with_reducible apply q_VOk);exact fun _ => ⟨rfl,rfl⟩)
    |(intro _;exact rfl)
    |((with_reducible apply q_bt);simp only [bq])
    |((with_reducible apply q_eqN);rfl)
    |with_reducible exact isByte_wrap _
    |with_reducible exact isByte_nat _
    |(simp only [hgq,bq];done)
    |omega)
  refine W_loopS (fun i : Nat => SS (sI 5 i :: slR n) [some (iter oStep (Bld.zero, s.af) i).2.box, some (iter oStep (Bld.zero, s.af) i).1.box]) (fun i => i ≤ 2 + n) (fun i => 2 + n - i) 0 ?_ (by omega) ?_
  ·
    refine X_weak rfl rfl rfl ?_ ?_ <;> repeat' (first|with_reducible (first|exact q_AgS0|exact HLe.nil _|refine HLe.none ?_|refine HLe.cells ?_ ?_|refine HLe.els ?_ ?_|exact SLe.nil|refine SLe.cons ?_ ?_|exact ELe.refl _|refine ELe.c rfl ?_|exact CLe.refl _|exact CLe.nil_row|exact CLe.nil_rowS|exact CLe.nil_tip|exact CLe.nil_tipS|exact CLe.int (by omega)|refine CLe.tip ?_ ?_|refine CLe.tip_row ?_ ?_|refine CLe.row ?_ ?_|refine CLe.tipr_row ?_|refine CLe.rows ?_|refine CLe.tips ?_|refine CLe.int ?_|refine CLe.bool ?_|refine CLe.str ?_|refine CLe.arr ?_ ?_)|refine q_AgS rfl ?_ ?_|exact CLe.nil_tipS|exact CLe.nil_rowS|refine HLe.cells ?_ ?_|refine HLe.els ?_ ?_|refine SLe.cons ?_ ?_|with_reducible rfl|omega)
    all_goals rfl
  · intro i hi
    have hin : i ≤ 3 := by omega
    obtain ⟨hle, hso⟩ := iter_le (x := (Bld.zero, s.af)) (m := 0) 4 oStep_le zero_le' (Src.af_ok hs) i
    obtain ⟨X, eX⟩ : ∃ X, iter oStep (Bld.zero, s.af) i = X := ⟨_, rfl⟩
    have eX1 : iter oStep (Bld.zero, s.af) (i + 1) = oStep i X := by rw [← eX]; rfl
    rw [eX] at hle hso
    rw [eX]
    by_cases hlt : i < 2 + n
    · obtain ⟨b, s1⟩ := X
      dsimp only at hle hso ⊢
      have hk2 := s1.nx_lt (n := 2) (by omega)
      have hS := named_ok ⟨#[83]⟩ i (by decide) (by omega)
      have hN1 := next_ok s1 2 hso (by omega) (by omega)
      have hl1 := hle.s1
      obtain ⟨F, eF⟩ : ∃ F, tLoop i (1 + s1.nx 2) ([], b.addSt (nameN ⟨#[83]⟩ i), s1.af) = F := ⟨_, rfl⟩
      have eO : oStep i (b, s1) = (F.2.1.addTr F.1, F.2.2) := by simp only [oStep, eF]
      rw [eO] at eX1
      have h0 : (b.addSt (nameN ⟨#[83]⟩ i)).le (0 + i * 4 + 1) := ⟨by simp only [Bld.addSt, List.length_append, List.length_singleton]; omega, Nat.le_succ_of_le hle.s2, Nat.le_succ_of_le hle.s3, Nat.le_succ_of_le hle.s4, Nat.le_succ_of_le hle.s5, Nat.le_succ_of_le hle.s6⟩
      repeat' (first
        |with_reducible (first|refine WR_pp ?_|refine WR_pd ?_|refine W_seq ?_|refine seqK_n ?_|refine seqK_r ?_|refine seqK_e ?_|refine W_block ?_|refine blockK_n ?_|refine blockK_r ?_|refine LoopK_e ?_|refine LoopK_r ?_|refine LoopX_r ?_|refine W_skip ?_|refine W_exit ?_|refine W_ret ?_|refine W_region (WOps_WR ?_)|refine W_draw (WOpsD_WR ?_)|refine WR_nil ?_|refine q_and ?_ ?_|exact True.intro|assumption|refine blockK_e rfl ?_|refine blockK_o (by decide) ?_|refine LoopX_e (by decide) ?_)
        |((with_reducible apply q_call);first|refine X_pure (hS) rfl ?_|refine X_call [0] (hN1) rfl rfl rfl rfl rfl rfl rfl rfl rfl rfl rfl rfl rfl ?_)
        |((with_reducible apply q_WR);first|refine X_run rfl ?_ ?_|refine WR_nilD (by kernel_rfl) ?_)
        |((with_reducible apply q_cond);refine X_cond rfl ?_ ?_;all_goals (intro hbq;(try simp only [bq] at hbq);(try (exfalso;omega))))
        |((with_reducible apply q_ret);refine X_ret tabOk trivial rfl rfl ?_ ?_)
        |((with_reducible apply q_retP);refine X_retP tabOk trivial rfl rfl ?_ ?_)
        |(intro (hgq : (_ : Bool) = true);(try simp only [bq] at hgq))
        |(intro (hgq : (_ : Bool) = false);(try simp only [bq] at hgq))
        |((with_reducible apply q_VOk);exact fun _ => ⟨rfl,rfl⟩)
        |(intro _;exact rfl)
        |((with_reducible apply q_bt);simp only [bq])
        |((with_reducible apply q_eqN);rfl)
        |with_reducible exact isByte_wrap _
        |with_reducible exact isByte_nat _
        |(simp only [hgq,bq];done)
        |omega)
      refine W_loopS (fun g : Nat × TBS => SS (sI 7 g.1 :: sC 6 (tInt g.2.1) :: sI 5 i :: slR n) [some g.2.2.2.box, some g.2.2.1.box]) (fun g => tLoop i g.1 g.2 = F ∧ (∃ m, g.2.2.1.le m ∧ m + g.1 ≤ 20) ∧ g.2.2.2.ok ∧ g.2.1.length + g.1 ≤ 3) (fun g => g.1) (1 + s1.nx 2, [], b.addSt (nameN ⟨#[83]⟩ i), s1.af) ?_ ⟨eF, ⟨_, h0, by dsimp only; omega⟩, Src.af_ok hso, by simp only [List.length_nil]; omega⟩ ?_
      ·
        refine X_weak rfl rfl rfl ?_ ?_ <;> repeat' (first|with_reducible (first|exact q_AgS0|exact HLe.nil _|refine HLe.none ?_|refine HLe.cells ?_ ?_|refine HLe.els ?_ ?_|exact SLe.nil|refine SLe.cons ?_ ?_|exact ELe.refl _|refine ELe.c rfl ?_|exact CLe.refl _|exact CLe.nil_row|exact CLe.nil_rowS|exact CLe.nil_tip|exact CLe.nil_tipS|exact CLe.int (by omega)|refine CLe.tip ?_ ?_|refine CLe.tip_row ?_ ?_|refine CLe.row ?_ ?_|refine CLe.tipr_row ?_|refine CLe.rows ?_|refine CLe.tips ?_|refine CLe.int ?_|refine CLe.bool ?_|refine CLe.str ?_|refine CLe.arr ?_ ?_)|refine q_AgS rfl ?_ ?_|exact CLe.nil_tipS|exact CLe.nil_rowS|refine HLe.cells ?_ ?_|refine HLe.els ?_ ?_|refine SLe.cons ?_ ?_|with_reducible rfl|omega)
        all_goals (simp [Bld.addSt, fStr, fS]; done)
      · intro g hg
        obtain ⟨k, tt, b2, s2⟩ := g
        obtain ⟨g1, ⟨m, g2, g2'⟩, g3, g4⟩ := hg
        dsimp only at g1 g2 g2' g3 g4 ⊢
        cases k with
        | zero =>
          have hF : (tt, b2, s2) = F := g1
          subst hF
          have hl5 := g2.s5
          repeat' (first
            |with_reducible (first|refine WR_pp ?_|refine WR_pd ?_|refine W_seq ?_|refine seqK_n ?_|refine seqK_r ?_|refine seqK_e ?_|refine W_block ?_|refine blockK_n ?_|refine blockK_r ?_|refine LoopK_e ?_|refine LoopK_r ?_|refine LoopX_r ?_|refine W_skip ?_|refine W_exit ?_|refine W_ret ?_|refine W_region (WOps_WR ?_)|refine W_draw (WOpsD_WR ?_)|refine WR_nil ?_|refine q_and ?_ ?_|exact True.intro|assumption|refine blockK_e rfl ?_|refine blockK_o (by decide) ?_|refine LoopX_e (by decide) ?_)
            |((with_reducible apply q_WR);first|refine X_run rfl ?_ ?_|refine WR_nilD (by kernel_rfl) ?_)
            |((with_reducible apply q_cond);refine X_cond rfl ?_ ?_;all_goals (intro hbq;(try simp only [bq] at hbq);(try (exfalso;omega))))
            |((with_reducible apply q_ret);refine X_ret tabOk trivial rfl rfl ?_ ?_)
            |((with_reducible apply q_retP);refine X_retP tabOk trivial rfl rfl ?_ ?_)
            |(intro (hgq : (_ : Bool) = true);(try simp only [bq] at hgq))
            |(intro (hgq : (_ : Bool) = false);(try simp only [bq] at hgq))
            |((with_reducible apply q_VOk);exact fun _ => ⟨rfl,rfl⟩)
            |(intro _;exact rfl)
            |((with_reducible apply q_bt);simp only [bq])
            |((with_reducible apply q_eqN);rfl)
            |with_reducible exact isByte_wrap _
            |with_reducible exact isByte_nat _
            |(simp only [hgq,bq];done)
            |omega)
          refine LoopK_n (i + 1) ?_ (by omega) (by omega)
          rw [eX1]
          refine X_weak rfl rfl rfl ?_ ?_ <;> repeat' (first|with_reducible (first|exact q_AgS0|exact HLe.nil _|refine HLe.none ?_|refine HLe.cells ?_ ?_|refine HLe.els ?_ ?_|exact SLe.nil|refine SLe.cons ?_ ?_|exact ELe.refl _|refine ELe.c rfl ?_|exact CLe.refl _|exact CLe.nil_row|exact CLe.nil_rowS|exact CLe.nil_tip|exact CLe.nil_tipS|exact CLe.int (by omega)|refine CLe.tip ?_ ?_|refine CLe.tip_row ?_ ?_|refine CLe.row ?_ ?_|refine CLe.tipr_row ?_|refine CLe.rows ?_|refine CLe.tips ?_|refine CLe.int ?_|refine CLe.bool ?_|refine CLe.str ?_|refine CLe.arr ?_ ?_)|refine q_AgS rfl ?_ ?_|exact CLe.nil_tipS|exact CLe.nil_rowS|refine HLe.cells ?_ ?_|refine HLe.els ?_ ?_|refine SLe.cons ?_ ?_|with_reducible rfl|omega)
          all_goals (simp [Bld.addTr, fTrk]; done)
        | succ k =>
          have hT := named_ok ⟨#[84]⟩ i (by decide) (by omega)
          have hT2 := named_ok (nameN ⟨#[84]⟩ i) (k + 1) (by rw [nameN_size]; decide) (by omega)
          have hC := section_ok s2 (nameN (nameN ⟨#[84]⟩ i) (k + 1)) i g3
          have hA := add_ok b2 (secT i (k + 1) s2) (g2.small (by omega))
          have q1 := s2.nx_lt (n := 9) (by omega)
          have q2 : (s2.sec (nameN (nameN ⟨#[84]⟩ i) (k + 1)) i).len = 2 + s2.nx 9 := rfl
          repeat' (first
            |with_reducible (first|refine WR_pp ?_|refine WR_pd ?_|refine W_seq ?_|refine seqK_n ?_|refine seqK_r ?_|refine seqK_e ?_|refine W_block ?_|refine blockK_n ?_|refine blockK_r ?_|refine LoopK_e ?_|refine LoopK_r ?_|refine LoopX_r ?_|refine W_skip ?_|refine W_exit ?_|refine W_ret ?_|refine W_region (WOps_WR ?_)|refine W_draw (WOpsD_WR ?_)|refine WR_nil ?_|refine q_and ?_ ?_|exact True.intro|assumption|refine blockK_e rfl ?_|refine blockK_o (by decide) ?_|refine LoopX_e (by decide) ?_)
            |((with_reducible apply q_call);first|refine X_pure (hT) rfl ?_|refine X_pure (hT2) rfl ?_|refine X_call [0] (hC) rfl rfl rfl rfl rfl rfl rfl rfl rfl rfl rfl rfl rfl ?_|refine X_call [1] (hA) rfl rfl rfl rfl rfl rfl rfl rfl rfl rfl rfl rfl rfl ?_)
            |((with_reducible apply q_WR);first|refine X_run rfl ?_ ?_|refine WR_nilD (by kernel_rfl) ?_)
            |((with_reducible apply q_cond);refine X_cond rfl ?_ ?_;all_goals (intro hbq;(try simp only [bq] at hbq);(try (exfalso;omega))))
            |((with_reducible apply q_ret);refine X_ret tabOk trivial rfl rfl ?_ ?_)
            |((with_reducible apply q_retP);refine X_retP tabOk trivial rfl rfl ?_ ?_)
            |(intro (hgq : (_ : Bool) = true);(try simp only [bq] at hgq))
            |(intro (hgq : (_ : Bool) = false);(try simp only [bq] at hgq))
            |((with_reducible apply q_VOk);exact fun _ => ⟨rfl,rfl⟩)
            |(intro _;exact rfl)
            |((with_reducible apply q_bt);simp only [bq])
            |((with_reducible apply q_eqN);rfl)
            |with_reducible exact isByte_wrap _
            |with_reducible exact isByte_nat _
            |(simp only [hgq,bq];done)
            |omega)
          refine LoopK_n (k, tStep i (k + 1) (tt, b2, s2)) ?_ ⟨g1, ⟨m + 1, add_le g2 _, by simp only; omega⟩, Src.af_ok (Src.af_ok (Src.af_ok g3)), by simp only [tStep, List.length_append, List.length_singleton]; omega⟩ (by simp only; omega)
          refine X_weak rfl rfl rfl ?_ ?_ <;> repeat' (first|with_reducible (first|exact q_AgS0|exact HLe.nil _|refine HLe.none ?_|refine HLe.cells ?_ ?_|refine HLe.els ?_ ?_|exact SLe.nil|refine SLe.cons ?_ ?_|exact ELe.refl _|refine ELe.c rfl ?_|exact CLe.refl _|exact CLe.nil_row|exact CLe.nil_rowS|exact CLe.nil_tip|exact CLe.nil_tipS|exact CLe.int (by omega)|refine CLe.tip ?_ ?_|refine CLe.tip_row ?_ ?_|refine CLe.row ?_ ?_|refine CLe.tipr_row ?_|refine CLe.rows ?_|refine CLe.tips ?_|refine CLe.int ?_|refine CLe.bool ?_|refine CLe.str ?_|refine CLe.arr ?_ ?_)|refine q_AgS rfl ?_ ?_|exact CLe.nil_tipS|exact CLe.nil_rowS|refine HLe.cells ?_ ?_|refine HLe.els ?_ ?_|refine SLe.cons ?_ ?_|with_reducible rfl|omega)
          all_goals (simp [tStep, fInt, fI]; done)
    · have hie : i = 2 + n := by omega
      subst hie
      clear eX1
      obtain ⟨b0, s0⟩ := X
      dsimp only at hle hso ⊢
      rw [eX]
      clear hlt hi hin
      have hTr := oIter_tr (Src.af_ok hs) (2 + n) (by omega)
      rw [eX] at hTr
      repeat' (first
        |with_reducible (first|refine WR_pp ?_|refine WR_pd ?_|refine W_seq ?_|refine seqK_n ?_|refine seqK_r ?_|refine seqK_e ?_|refine W_block ?_|refine blockK_n ?_|refine blockK_r ?_|refine LoopK_e ?_|refine LoopK_r ?_|refine LoopX_r ?_|refine W_skip ?_|refine W_exit ?_|refine W_ret ?_|refine W_region (WOps_WR ?_)|refine W_draw (WOpsD_WR ?_)|refine WR_nil ?_|refine q_and ?_ ?_|exact True.intro|assumption|refine blockK_e rfl ?_|refine blockK_o (by decide) ?_|refine LoopX_e (by decide) ?_)
        |((with_reducible apply q_WR);first|refine X_run rfl ?_ ?_|refine WR_nilD (by kernel_rfl) ?_)
        |((with_reducible apply q_cond);refine X_cond rfl ?_ ?_;all_goals (intro hbq;(try simp only [bq] at hbq);(try (exfalso;omega))))
        |((with_reducible apply q_ret);refine X_ret tabOk trivial rfl rfl ?_ ?_)
        |((with_reducible apply q_retP);refine X_retP tabOk trivial rfl rfl ?_ ?_)
        |(intro (hgq : (_ : Bool) = true);(try simp only [bq] at hgq))
        |(intro (hgq : (_ : Bool) = false);(try simp only [bq] at hgq))
        |((with_reducible apply q_VOk);exact fun _ => ⟨rfl,rfl⟩)
        |(intro _;exact rfl)
        |((with_reducible apply q_bt);simp only [bq])
        |((with_reducible apply q_eqN);rfl)
        |with_reducible exact isByte_wrap _
        |with_reducible exact isByte_nat _
        |(simp only [hgq,bq];done)
        |omega)
      refine W_loopS (fun i : Nat => SS (sI 9 i :: slR n) [some (iter pStep (b0, s0) i).2.box, some (iter pStep (b0, s0) i).1.box]) (fun i => i ≤ 1 + n) (fun i => 1 + n - i) 0 ?_ (by omega) ?_
      ·
        refine X_weak rfl rfl rfl ?_ ?_ <;> repeat' (first|with_reducible (first|exact q_AgS0|exact HLe.nil _|refine HLe.none ?_|refine HLe.cells ?_ ?_|refine HLe.els ?_ ?_|exact SLe.nil|refine SLe.cons ?_ ?_|exact ELe.refl _|refine ELe.c rfl ?_|exact CLe.refl _|exact CLe.nil_row|exact CLe.nil_rowS|exact CLe.nil_tip|exact CLe.nil_tipS|exact CLe.int (by omega)|refine CLe.tip ?_ ?_|refine CLe.tip_row ?_ ?_|refine CLe.row ?_ ?_|refine CLe.tipr_row ?_|refine CLe.rows ?_|refine CLe.tips ?_|refine CLe.int ?_|refine CLe.bool ?_|refine CLe.str ?_|refine CLe.arr ?_ ?_)|refine q_AgS rfl ?_ ?_|exact CLe.nil_tipS|exact CLe.nil_rowS|refine HLe.cells ?_ ?_|refine HLe.els ?_ ?_|refine SLe.cons ?_ ?_|with_reducible rfl|omega)
        all_goals rfl
      · intro i hi
        obtain ⟨hpl, hps, hpt⟩ := pIter_le hle hso hTr i
        obtain ⟨X, eX2⟩ : ∃ X, iter pStep (b0, s0) i = X := ⟨_, rfl⟩
        have eX1 : iter pStep (b0, s0) (i + 1) = pStep i X := by rw [← eX2]; rfl
        rw [eX2] at hpl hps hpt
        rw [eX2]
        by_cases hlt : i < 1 + n
        · obtain ⟨b, s1⟩ := X
          dsimp only at hpl hps hpt ⊢
          have hk2 := s1.nx_lt (n := 2) (by omega)
          have hN1 := next_ok s1 2 hps (by omega) (by omega)
          have hin : i ≤ 2 := by omega
          obtain ⟨F, eF⟩ : ∃ F, lLoop i (1 + s1.nx 2) ([], b, s1.af) = F := ⟨_, rfl⟩
          obtain ⟨f1, f2, f3, f4⟩ := lLoop_le i (1 + s1.nx 2) ([], b, s1.af) _ hpl (Src.af_ok hps)
          rw [eF] at f1 f2 f3 f4
          simp only [List.length_nil, Nat.zero_add] at f3 f4
          have hTrF : TrOk F.2.1 (2 + n) := ⟨by rw [f4]; exact hpt.1, by rw [f4]; exact hpt.2⟩
          repeat' (first
            |with_reducible (first|refine WR_pp ?_|refine WR_pd ?_|refine W_seq ?_|refine seqK_n ?_|refine seqK_r ?_|refine seqK_e ?_|refine W_block ?_|refine blockK_n ?_|refine blockK_r ?_|refine LoopK_e ?_|refine LoopK_r ?_|refine LoopX_r ?_|refine W_skip ?_|refine W_exit ?_|refine W_ret ?_|refine W_region (WOps_WR ?_)|refine W_draw (WOpsD_WR ?_)|refine WR_nil ?_|refine q_and ?_ ?_|exact True.intro|assumption|refine blockK_e rfl ?_|refine blockK_o (by decide) ?_|refine LoopX_e (by decide) ?_)
            |((with_reducible apply q_call);refine X_call [0] (hN1) rfl rfl rfl rfl rfl rfl rfl rfl rfl rfl rfl rfl rfl ?_)
            |((with_reducible apply q_WR);first|refine X_run rfl ?_ ?_|refine WR_nilD (by kernel_rfl) ?_)
            |((with_reducible apply q_cond);refine X_cond rfl ?_ ?_;all_goals (intro hbq;(try simp only [bq] at hbq);(try (exfalso;omega))))
            |((with_reducible apply q_ret);refine X_ret tabOk trivial rfl rfl ?_ ?_)
            |((with_reducible apply q_retP);refine X_retP tabOk trivial rfl rfl ?_ ?_)
            |(intro (hgq : (_ : Bool) = true);(try simp only [bq] at hgq))
            |(intro (hgq : (_ : Bool) = false);(try simp only [bq] at hgq))
            |((with_reducible apply q_VOk);exact fun _ => ⟨rfl,rfl⟩)
            |(intro _;exact rfl)
            |((with_reducible apply q_bt);simp only [bq])
            |((with_reducible apply q_eqN);rfl)
            |with_reducible exact isByte_wrap _
            |with_reducible exact isByte_nat _
            |(simp only [hgq,bq];done)
            |omega)
          refine W_loopS (fun g : Nat × TBS => SS (sI 11 g.1 :: sC 10 (tInt g.2.1) :: sI 9 i :: slR n) [some g.2.2.2.box, some g.2.2.1.box]) (fun g => lLoop i g.1 g.2 = F ∧ (∃ m, g.2.2.1.le m ∧ m + g.1 ≤ 100) ∧ g.2.2.2.ok ∧ g.2.1.length + g.1 ≤ 3) (fun g => g.1) (1 + s1.nx 2, [], b, s1.af) ?_ ⟨eF, ⟨_, hpl, by dsimp only; omega⟩, Src.af_ok hps, by simp only [List.length_nil]; omega⟩ ?_
          ·
            refine X_weak rfl rfl rfl ?_ ?_ <;> repeat' (first|with_reducible (first|exact q_AgS0|exact HLe.nil _|refine HLe.none ?_|refine HLe.cells ?_ ?_|refine HLe.els ?_ ?_|exact SLe.nil|refine SLe.cons ?_ ?_|exact ELe.refl _|refine ELe.c rfl ?_|exact CLe.refl _|exact CLe.nil_row|exact CLe.nil_rowS|exact CLe.nil_tip|exact CLe.nil_tipS|exact CLe.int (by omega)|refine CLe.tip ?_ ?_|refine CLe.tip_row ?_ ?_|refine CLe.row ?_ ?_|refine CLe.tipr_row ?_|refine CLe.rows ?_|refine CLe.tips ?_|refine CLe.int ?_|refine CLe.bool ?_|refine CLe.str ?_|refine CLe.arr ?_ ?_)|refine q_AgS rfl ?_ ?_|exact CLe.nil_tipS|exact CLe.nil_rowS|refine HLe.cells ?_ ?_|refine HLe.els ?_ ?_|refine SLe.cons ?_ ?_|with_reducible rfl|omega)
          · intro g hg
            obtain ⟨k, tt, b2, s2⟩ := g
            obtain ⟨g1, ⟨m, g2, g2'⟩, g3, g4⟩ := hg
            dsimp only at g1 g2 g2' g3 g4 ⊢
            cases k with
            | succ k =>
              have hT := named_ok ⟨#[76]⟩ i (by decide) (by omega)
              have hT2 := named_ok (nameN ⟨#[76]⟩ i) (k + 1) (by rw [nameN_size]; decide) (by omega)
              have hC := section_ok s2 (nameN (nameN ⟨#[76]⟩ i) (k + 1)) (-1) g3
              have hA := add_ok b2 (secL i (k + 1) s2) (g2.small (by omega))
              repeat' (first
                |with_reducible (first|refine WR_pp ?_|refine WR_pd ?_|refine W_seq ?_|refine seqK_n ?_|refine seqK_r ?_|refine seqK_e ?_|refine W_block ?_|refine blockK_n ?_|refine blockK_r ?_|refine LoopK_e ?_|refine LoopK_r ?_|refine LoopX_r ?_|refine W_skip ?_|refine W_exit ?_|refine W_ret ?_|refine W_region (WOps_WR ?_)|refine W_draw (WOpsD_WR ?_)|refine WR_nil ?_|refine q_and ?_ ?_|exact True.intro|assumption|refine blockK_e rfl ?_|refine blockK_o (by decide) ?_|refine LoopX_e (by decide) ?_)
                |((with_reducible apply q_call);first|refine X_pure (hT) rfl ?_|refine X_pure (hT2) rfl ?_|refine X_call [0] (hC) rfl rfl rfl rfl rfl rfl rfl rfl rfl rfl rfl rfl rfl ?_|refine X_call [1] (hA) rfl rfl rfl rfl rfl rfl rfl rfl rfl rfl rfl rfl rfl ?_)
                |((with_reducible apply q_WR);first|refine X_run rfl ?_ ?_|refine WR_nilD (by kernel_rfl) ?_)
                |((with_reducible apply q_cond);refine X_cond rfl ?_ ?_;all_goals (intro hbq;(try simp only [bq] at hbq);(try (exfalso;omega))))
                |((with_reducible apply q_ret);refine X_ret tabOk trivial rfl rfl ?_ ?_)
                |((with_reducible apply q_retP);refine X_retP tabOk trivial rfl rfl ?_ ?_)
                |(intro (hgq : (_ : Bool) = true);(try simp only [bq] at hgq))
                |(intro (hgq : (_ : Bool) = false);(try simp only [bq] at hgq))
                |((with_reducible apply q_VOk);exact fun _ => ⟨rfl,rfl⟩)
                |(intro _;exact rfl)
                |((with_reducible apply q_bt);simp only [bq])
                |((with_reducible apply q_eqN);rfl)
                |with_reducible exact isByte_wrap _
                |with_reducible exact isByte_nat _
                |(simp only [hgq,bq];done)
                |omega)
              refine LoopK_n (k, lStep i (k + 1) (tt, b2, s2)) ?_ ⟨g1, ⟨m + 1, add_le g2 _, by simp only; omega⟩, Src.af_ok (Src.af_ok (Src.af_ok g3)), by simp only [lStep, List.length_append, List.length_singleton]; omega⟩ (by simp only; omega)
              refine X_weak rfl rfl rfl ?_ ?_ <;> repeat' (first|with_reducible (first|exact q_AgS0|exact HLe.nil _|refine HLe.none ?_|refine HLe.cells ?_ ?_|refine HLe.els ?_ ?_|exact SLe.nil|refine SLe.cons ?_ ?_|exact ELe.refl _|refine ELe.c rfl ?_|exact CLe.refl _|exact CLe.nil_row|exact CLe.nil_rowS|exact CLe.nil_tip|exact CLe.nil_tipS|exact CLe.int (by omega)|refine CLe.tip ?_ ?_|refine CLe.tip_row ?_ ?_|refine CLe.row ?_ ?_|refine CLe.tipr_row ?_|refine CLe.rows ?_|refine CLe.tips ?_|refine CLe.int ?_|refine CLe.bool ?_|refine CLe.str ?_|refine CLe.arr ?_ ?_)|refine q_AgS rfl ?_ ?_|exact CLe.nil_tipS|exact CLe.nil_rowS|refine HLe.cells ?_ ?_|refine HLe.els ?_ ?_|refine SLe.cons ?_ ?_|with_reducible rfl|omega)
              all_goals (simp [lStep, fInt, fI]; done)
            | zero =>
              have hF : (tt, b2, s2) = F := g1
              subst hF
              simp only at f1 f2 f3 f4 hTrF
              have hcl := fun k => cLoop_le f1 tt k
              repeat' (first
                |with_reducible (first|refine WR_pp ?_|refine WR_pd ?_|refine W_seq ?_|refine seqK_n ?_|refine seqK_r ?_|refine seqK_e ?_|refine W_block ?_|refine blockK_n ?_|refine blockK_r ?_|refine LoopK_e ?_|refine LoopK_r ?_|refine LoopX_r ?_|refine W_skip ?_|refine W_exit ?_|refine W_ret ?_|refine W_region (WOps_WR ?_)|refine W_draw (WOpsD_WR ?_)|refine WR_nil ?_|refine q_and ?_ ?_|exact True.intro|assumption|refine blockK_e rfl ?_|refine blockK_o (by decide) ?_|refine LoopX_e (by decide) ?_)
                |((with_reducible apply q_WR);first|refine X_run rfl ?_ ?_|refine WR_nilD (by kernel_rfl) ?_)
                |((with_reducible apply q_cond);refine X_cond rfl ?_ ?_;all_goals (intro hbq;(try simp only [bq] at hbq);(try (exfalso;omega))))
                |((with_reducible apply q_ret);refine X_ret tabOk trivial rfl rfl ?_ ?_)
                |((with_reducible apply q_retP);refine X_retP tabOk trivial rfl rfl ?_ ?_)
                |(intro (hgq : (_ : Bool) = true);(try simp only [bq] at hgq))
                |(intro (hgq : (_ : Bool) = false);(try simp only [bq] at hgq))
                |((with_reducible apply q_VOk);exact fun _ => ⟨rfl,rfl⟩)
                |(intro _;exact rfl)
                |((with_reducible apply q_bt);simp only [bq])
                |((with_reducible apply q_eqN);rfl)
                |with_reducible exact isByte_wrap _
                |with_reducible exact isByte_nat _
                |(simp only [hgq,bq];done)
                |omega)
              refine W_loopS (fun k : Nat => SS (sI 12 k :: sC 10 (tInt tt) :: sI 9 i :: slR n) [some s2.box, some (cLoop b2 tt k).box]) (fun k => k ≤ tt.length - 1) (fun k => tt.length - 1 - k) 0 ?_ (by omega) ?_
              ·
                refine X_weak rfl rfl rfl ?_ ?_ <;> repeat' (first|with_reducible (first|exact q_AgS0|exact HLe.nil _|refine HLe.none ?_|refine HLe.cells ?_ ?_|refine HLe.els ?_ ?_|exact SLe.nil|refine SLe.cons ?_ ?_|exact ELe.refl _|refine ELe.c rfl ?_|exact CLe.refl _|exact CLe.nil_row|exact CLe.nil_rowS|exact CLe.nil_tip|exact CLe.nil_tipS|exact CLe.int (by omega)|refine CLe.tip ?_ ?_|refine CLe.tip_row ?_ ?_|refine CLe.row ?_ ?_|refine CLe.tipr_row ?_|refine CLe.rows ?_|refine CLe.tips ?_|refine CLe.int ?_|refine CLe.bool ?_|refine CLe.str ?_|refine CLe.arr ?_ ?_)|refine q_AgS rfl ?_ ?_|exact CLe.nil_tipS|exact CLe.nil_rowS|refine HLe.cells ?_ ?_|refine HLe.els ?_ ?_|refine SLe.cons ?_ ?_|with_reducible rfl|omega)
                all_goals rfl
              · intro k hkl
                by_cases hkt : k < tt.length - 1
                · have hK := link_ok (cLoop b2 tt k) (tt.getD (k : Int).toNat 0) (tt.getD ((k : Int) + 1).toNat 0) (-1) 0 ((hcl k).1.small (by omega))
                  repeat' (first
                    |with_reducible (first|refine WR_pp ?_|refine WR_pd ?_|refine W_seq ?_|refine seqK_n ?_|refine seqK_r ?_|refine seqK_e ?_|refine W_block ?_|refine blockK_n ?_|refine blockK_r ?_|refine LoopK_e ?_|refine LoopK_r ?_|refine LoopX_r ?_|refine W_skip ?_|refine W_exit ?_|refine W_ret ?_|refine W_region (WOps_WR ?_)|refine W_draw (WOpsD_WR ?_)|refine WR_nil ?_|refine q_and ?_ ?_|exact True.intro|assumption|refine blockK_e rfl ?_|refine blockK_o (by decide) ?_|refine LoopX_e (by decide) ?_)
                    |((with_reducible apply q_call);refine X_call [1] (hK) rfl rfl rfl rfl rfl rfl rfl rfl rfl rfl rfl rfl rfl ?_)
                    |((with_reducible apply q_WR);first|refine X_run rfl ?_ ?_|refine WR_nilD (by kernel_rfl) ?_)
                    |((with_reducible apply q_cond);refine X_cond rfl ?_ ?_;all_goals (intro hbq;(try simp only [bq] at hbq);(try (exfalso;omega))))
                    |((with_reducible apply q_ret);refine X_ret tabOk trivial rfl rfl ?_ ?_)
                    |((with_reducible apply q_retP);refine X_retP tabOk trivial rfl rfl ?_ ?_)
                    |(intro (hgq : (_ : Bool) = true);(try simp only [bq] at hgq))
                    |(intro (hgq : (_ : Bool) = false);(try simp only [bq] at hgq))
                    |((with_reducible apply q_VOk);exact fun _ => ⟨rfl,rfl⟩)
                    |(intro _;exact rfl)
                    |((with_reducible apply q_bt);simp only [bq])
                    |((with_reducible apply q_eqN);rfl)
                    |with_reducible exact isByte_wrap _
                    |with_reducible exact isByte_nat _
                    |(simp only [hgq,bq];done)
                    |omega)
                  refine LoopK_n (k + 1) ?_ ?_ ?_
                  rotate_left
                  · (try dsimp only); omega
                  · (try dsimp only); omega
                  refine X_weak rfl rfl rfl ?_ ?_ <;> repeat' (first|with_reducible (first|exact q_AgS0|exact HLe.nil _|refine HLe.none ?_|refine HLe.cells ?_ ?_|refine HLe.els ?_ ?_|exact SLe.nil|refine SLe.cons ?_ ?_|exact ELe.refl _|refine ELe.c rfl ?_|exact CLe.refl _|exact CLe.nil_row|exact CLe.nil_rowS|exact CLe.nil_tip|exact CLe.nil_tipS|exact CLe.int (by omega)|refine CLe.tip ?_ ?_|refine CLe.tip_row ?_ ?_|refine CLe.row ?_ ?_|refine CLe.tipr_row ?_|refine CLe.rows ?_|refine CLe.tips ?_|refine CLe.int ?_|refine CLe.bool ?_|refine CLe.str ?_|refine CLe.arr ?_ ?_)|refine q_AgS rfl ?_ ?_|exact CLe.nil_tipS|exact CLe.nil_rowS|refine HLe.cells ?_ ?_|refine HLe.els ?_ ?_|refine SLe.cons ?_ ?_|with_reducible rfl|omega)
                  all_goals (simp [cLoop]; done)
                · have hke : k = tt.length - 1 := by omega
                  obtain ⟨c1, c2⟩ := hcl k
                  have hc : cLoop b2 tt k = cLoop b2 tt (tt.length - 1) := by rw [hke]
                  rw [hc] at c1 c2 ⊢
                  generalize eC : cLoop b2 tt (tt.length - 1) = c at c1 c2 hc ⊢
                  have hTc : TrOk c (2 + n) := by rw [show TrOk c (2 + n) = (c.tracks.length = 2 + n ∧ ∀ t ∈ c.tracks, 1 ≤ t.length ∧ t.length ≤ 2) from rfl, c2]; exact hTrF
                  have hlen : ∀ j, (c.tracks.getD j []).length ≤ 2 := fun j => by
                    rw [List.getD_eq_getElem?_getD]
                    cases hj : c.tracks[j]? with
                    | none => simp
                    | some t => exact (hTc.2 t (List.mem_of_getElem? hj)).2
                  have l1 := hlen (i : Int).toNat
                  have l2 := hlen ((i : Int) + 1).toNat
                  have c4 := c1.s4
                  have c3 := c1.s2
                  have hF1 := fan_ok c (tt.getD (0 : Int).toNat 0) (c.tracks.getD (i : Int).toNat []) false (c1.small (by omega)) (by omega) (by omega) (by omega)
                  obtain ⟨d1, d2⟩ := fan_le c1 (tt.getD (0 : Int).toNat 0) (c.tracks.getD (i : Int).toNat []) false l1
                  generalize eD : c.fan (tt.getD (0 : Int).toNat 0) (c.tracks.getD (i : Int).toNat []) false = e at d1 d2 hF1
                  have d3 := d1.s2
                  have d4 := d1.s4
                  have l2' : (e.tracks.getD ((i : Int) + 1).toNat []).length ≤ 2 := by rw [d2]; exact l2
                  have hF2 := fan_ok e (tt.getD ((tt.length : Int) - 1).toNat 0) (e.tracks.getD ((i : Int) + 1).toNat []) true (d1.small (by omega)) (by omega) (by omega) (by omega)
                  obtain ⟨u1, u2⟩ := fan_le d1 (tt.getD ((tt.length : Int) - 1).toNat 0) (e.tracks.getD ((i : Int) + 1).toNat []) true l2'
                  generalize eE : e.fan (tt.getD ((tt.length : Int) - 1).toNat 0) (e.tracks.getD ((i : Int) + 1).toNat []) true = u at u1 u2 hF2
                  have u6 := u1.s6
                  have t1 := hTc.1
                  have t2 : e.tracks.length = 2 + n := by rw [d2]; exact t1
                  repeat' (first
                    |with_reducible (first|refine WR_pp ?_|refine WR_pd ?_|refine W_seq ?_|refine seqK_n ?_|refine seqK_r ?_|refine seqK_e ?_|refine W_block ?_|refine blockK_n ?_|refine blockK_r ?_|refine LoopK_e ?_|refine LoopK_r ?_|refine LoopX_r ?_|refine W_skip ?_|refine W_exit ?_|refine W_ret ?_|refine W_region (WOps_WR ?_)|refine W_draw (WOpsD_WR ?_)|refine WR_nil ?_|refine q_and ?_ ?_|exact True.intro|assumption|refine blockK_e rfl ?_|refine blockK_o (by decide) ?_|refine LoopX_e (by decide) ?_)
                    |((with_reducible apply q_call);first|refine X_call [1] (hF1) rfl rfl rfl rfl rfl rfl rfl rfl rfl rfl rfl rfl rfl ?_|refine X_call [1] (hF2) rfl rfl rfl rfl rfl rfl rfl rfl rfl rfl rfl rfl rfl ?_)
                    |((with_reducible apply q_WR);first|refine X_run rfl ?_ ?_|refine WR_nilD (by kernel_rfl) ?_)
                    |((with_reducible apply q_cond);refine X_cond rfl ?_ ?_;all_goals (intro hbq;(try simp only [bq] at hbq);(try (exfalso;omega))))
                    |((with_reducible apply q_ret);refine X_ret tabOk trivial rfl rfl ?_ ?_)
                    |((with_reducible apply q_retP);refine X_retP tabOk trivial rfl rfl ?_ ?_)
                    |(intro (hgq : (_ : Bool) = true);(try simp only [bq] at hgq))
                    |(intro (hgq : (_ : Bool) = false);(try simp only [bq] at hgq))
                    |((with_reducible apply q_VOk);exact fun _ => ⟨rfl,rfl⟩)
                    |(intro _;exact rfl)
                    |((with_reducible apply q_bt);simp only [bq])
                    |((with_reducible apply q_eqN);rfl)
                    |with_reducible exact isByte_wrap _
                    |with_reducible exact isByte_nat _
                    |(simp only [hgq,bq];done)
                    |omega)
                  have n1 : ((i : Int)).toNat = i := by omega
                  have n2 : ((i : Int) + 1).toNat = i + 1 := by omega
                  have n3 : ((tt.length : Int) - 1).toNat = tt.length - 1 := by omega
                  have hp : pStep i (b, s1) = (u.addBt tt, s2) := by
                    rw [n1, Int.toNat_zero] at eD
                    rw [n2, n3] at eE
                    simp only [pStep, eF, eC, eD, eE]
                  refine LoopK_n (i + 1) ?_ (by omega) (by omega)
                  rw [eX1, hp]
                  refine X_weak rfl rfl rfl ?_ ?_ <;> repeat' (first|with_reducible (first|exact q_AgS0|exact HLe.nil _|refine HLe.none ?_|refine HLe.cells ?_ ?_|refine HLe.els ?_ ?_|exact SLe.nil|refine SLe.cons ?_ ?_|exact ELe.refl _|refine ELe.c rfl ?_|exact CLe.refl _|exact CLe.nil_row|exact CLe.nil_rowS|exact CLe.nil_tip|exact CLe.nil_tipS|exact CLe.int (by omega)|refine CLe.tip ?_ ?_|refine CLe.tip_row ?_ ?_|refine CLe.row ?_ ?_|refine CLe.tipr_row ?_|refine CLe.rows ?_|refine CLe.tips ?_|refine CLe.int ?_|refine CLe.bool ?_|refine CLe.str ?_|refine CLe.arr ?_ ?_)|refine q_AgS rfl ?_ ?_|exact CLe.nil_tipS|exact CLe.nil_rowS|refine HLe.cells ?_ ?_|refine HLe.els ?_ ?_|refine SLe.cons ?_ ?_|with_reducible rfl|omega)
                  all_goals (simp [Bld.addBt, fTrk]; done)
        · have hie : i = 1 + n := by omega
          subst hie
          repeat' (first
            |with_reducible (first|refine WR_pp ?_|refine WR_pd ?_|refine W_seq ?_|refine seqK_n ?_|refine seqK_r ?_|refine seqK_e ?_|refine W_block ?_|refine blockK_n ?_|refine blockK_r ?_|refine LoopK_e ?_|refine LoopK_r ?_|refine LoopX_r ?_|refine W_skip ?_|refine W_exit ?_|refine W_ret ?_|refine W_region (WOps_WR ?_)|refine W_draw (WOpsD_WR ?_)|refine WR_nil ?_|refine q_and ?_ ?_|exact True.intro|assumption|refine blockK_e rfl ?_|refine blockK_o (by decide) ?_|refine LoopX_e (by decide) ?_)
            |((with_reducible apply q_WR);first|refine X_run rfl ?_ ?_|refine WR_nilD (by kernel_rfl) ?_)
            |((with_reducible apply q_cond);refine X_cond rfl ?_ ?_;all_goals (intro hbq;(try simp only [bq] at hbq);(try (exfalso;omega))))
            |((with_reducible apply q_ret);refine X_ret tabOk trivial rfl rfl ?_ ?_)
            |((with_reducible apply q_retP);refine X_retP tabOk trivial rfl rfl ?_ ?_)
            |(intro (hgq : (_ : Bool) = true);(try simp only [bq] at hgq))
            |(intro (hgq : (_ : Bool) = false);(try simp only [bq] at hgq))
            |((with_reducible apply q_VOk);exact fun _ => ⟨rfl,rfl⟩)
            |(intro _;exact rfl)
            |((with_reducible apply q_bt);simp only [bq])
            |((with_reducible apply q_eqN);rfl)
            |with_reducible exact isByte_wrap _
            |with_reducible exact isByte_nat _
            |(simp only [hgq,bq];done)
            |omega)
          repeat' (first|with_reducible (first|exact TkEq.nil _|refine TkEq.none ?_|refine TkEq.cells ?_ ?_|refine TkEq.els ?_ ?_|exact SEqL.nil|refine SEqL.cons ?_ ?_|exact TEqL.nil|refine TEqL.c ?_ ?_|refine TEqL.agg ?_ ?_|exact CEq.refl _|refine CEq.int ?_|refine CEq.bool ?_|refine CEq.str ?_|refine CEq.rows ?_|refine CEq.row ?_ ?_|refine CEq.tips ?_|refine CEq.tip ?_ ?_|refine CEq.raw ?_ ?_|refine CEq.arr ?_ ?_)|refine VEq.c ?_|refine VEq.agg ?_|refine VEq.tup ?_|refine TkEq.cells ?_ ?_|refine TkEq.els ?_ ?_|refine SEqL.cons ?_ ?_|refine TEqL.agg ?_ ?_|refine CEq.rows ?_|refine CEq.int ?_|rfl|omega)
          all_goals (rw [eX2])
end Go.Proofs.Ythnfliopmjpdmaa.Av
/- A generated layout. -/
namespace Go.Proofs.Ythnfliopmjpdmaa.Av
set_option linter.unusedVariables false
set_option linter.unusedSimpArgs false
set_option maxRecDepth 4000
set_option maxHeartbeats 4000000

theorem from_ok (l : List Int) : OkV Try.prog 26 [.c (rInt l)] [] (.c (pB 0)) [some (Src.box ⟨l, 0⟩)] := by
  refine X_fn mixedX Try.func26 rfl (by kernel_rfl) (Nat.le_of_ble_eq_true (by kernel_rfl)) (by kernel_rfl) rfl rfl (Nat.le_of_ble_eq_true rfl) rfl rfl ?_
  simp only [sl0, Nat.zero_add, Nat.reduceAdd]
  repeat' (first
    |with_reducible (first|refine WR_pp ?_|refine WR_pd ?_|refine W_seq ?_|refine seqK_n ?_|refine seqK_r ?_|refine seqK_e ?_|refine W_block ?_|refine blockK_n ?_|refine blockK_r ?_|refine LoopK_e ?_|refine LoopK_r ?_|refine LoopX_r ?_|refine W_skip ?_|refine W_exit ?_|refine W_ret ?_|refine W_region (WOps_WR ?_)|refine W_draw (WOpsD_WR ?_)|refine WR_nil ?_|refine q_and ?_ ?_|exact True.intro|assumption|refine blockK_e rfl ?_|refine blockK_o (by decide) ?_|refine LoopX_e (by decide) ?_)
    |((with_reducible apply q_WR);first|refine X_run rfl ?_ ?_|refine WR_nilD (by kernel_rfl) ?_)
    |((with_reducible apply q_cond);refine X_cond rfl ?_ ?_;all_goals (intro hbq;(try simp only [bq] at hbq);(try (exfalso;omega))))
    |((with_reducible apply q_ret);refine X_ret tabOk trivial rfl rfl ?_ ?_)
    |((with_reducible apply q_retP);refine X_retP tabOk trivial rfl rfl ?_ ?_)
    |(intro (hgq : (_ : Bool) = true);(try simp only [bq] at hgq))
    |(intro (hgq : (_ : Bool) = false);(try simp only [bq] at hgq))
    |((with_reducible apply q_VOk);exact fun _ => ⟨rfl,rfl⟩)
    |(intro _;exact rfl)
    |((with_reducible apply q_bt);simp only [bq])
    |((with_reducible apply q_eqN);rfl)
    |with_reducible exact isByte_wrap _
    |with_reducible exact isByte_nat _
    |(simp only [hgq,bq];done)
    |omega)
  repeat' (first|with_reducible (first|exact TkEq.nil _|refine TkEq.none ?_|refine TkEq.cells ?_ ?_|refine TkEq.els ?_ ?_|exact SEqL.nil|refine SEqL.cons ?_ ?_|exact TEqL.nil|refine TEqL.c ?_ ?_|refine TEqL.agg ?_ ?_|exact CEq.refl _|refine CEq.int ?_|refine CEq.bool ?_|refine CEq.str ?_|refine CEq.rows ?_|refine CEq.row ?_ ?_|refine CEq.tips ?_|refine CEq.tip ?_ ?_|refine CEq.raw ?_ ?_|refine CEq.arr ?_ ?_)|refine VEq.c ?_|refine VEq.agg ?_|refine VEq.tup ?_|refine TkEq.cells ?_ ?_|refine TkEq.els ?_ ?_|refine SEqL.cons ?_ ?_|refine TEqL.agg ?_ ?_|refine CEq.rows ?_|refine CEq.int ?_|rfl|omega)
def genL (l : List Int) : Lay := (rowB ⟨l, 0⟩).1.L
theorem layout_ok (l : List Int) (hl : l.length ≤ 9223372036854775807) : OkV Try.prog 13 [.c (rInt l)] [] (vLay (genL l)) [] := by
  have h1 := from_ok l
  have h2 := row_ok ⟨l, 0⟩ ⟨Nat.zero_le _, hl⟩
  unfold genL
  refine X_fnP mixedX Try.func13 rfl (by kernel_rfl) (Nat.le_of_ble_eq_true (by kernel_rfl)) (by kernel_rfl) rfl rfl ?_
  simp only [sl0, Nat.zero_add, Nat.reduceAdd]
  repeat' (first
    |with_reducible (first|refine WR_pp ?_|refine WR_pd ?_|refine W_seq ?_|refine seqK_n ?_|refine seqK_r ?_|refine seqK_e ?_|refine W_block ?_|refine blockK_n ?_|refine blockK_r ?_|refine LoopK_e ?_|refine LoopK_r ?_|refine LoopX_r ?_|refine W_skip ?_|refine W_exit ?_|refine W_ret ?_|refine W_region (WOps_WR ?_)|refine W_draw (WOpsD_WR ?_)|refine WR_nil ?_|refine q_and ?_ ?_|exact True.intro|assumption|refine blockK_e rfl ?_|refine blockK_o (by decide) ?_|refine LoopX_e (by decide) ?_)
    |((with_reducible apply q_call);first|refine X_call [] (h1) rfl rfl rfl rfl rfl rfl rfl rfl rfl rfl rfl rfl rfl ?_|refine X_call [1] (h2) rfl rfl rfl rfl rfl rfl rfl rfl rfl rfl rfl rfl rfl ?_)
    |((with_reducible apply q_WR);first|refine X_run rfl ?_ ?_|refine WR_nilD (by kernel_rfl) ?_)
    |((with_reducible apply q_cond);refine X_cond rfl ?_ ?_;all_goals (intro hbq;(try simp only [bq] at hbq);(try (exfalso;omega))))
    |((with_reducible apply q_ret);refine X_ret tabOk trivial rfl rfl ?_ ?_)
    |((with_reducible apply q_retP);refine X_retP tabOk trivial rfl rfl ?_ ?_)
    |(intro (hgq : (_ : Bool) = true);(try simp only [bq] at hgq))
    |(intro (hgq : (_ : Bool) = false);(try simp only [bq] at hgq))
    |((with_reducible apply q_VOk);exact fun _ => ⟨rfl,rfl⟩)
    |(intro _;exact rfl)
    |((with_reducible apply q_bt);simp only [bq])
    |((with_reducible apply q_eqN);rfl)
    |with_reducible exact isByte_wrap _
    |with_reducible exact isByte_nat _
    |(simp only [hgq,bq];done)
    |omega)
  repeat' (first|with_reducible (first|exact TkEq.nil _|refine TkEq.none ?_|refine TkEq.cells ?_ ?_|refine TkEq.els ?_ ?_|exact SEqL.nil|refine SEqL.cons ?_ ?_|exact TEqL.nil|refine TEqL.c ?_ ?_|refine TEqL.agg ?_ ?_|exact CEq.refl _|refine CEq.int ?_|refine CEq.bool ?_|refine CEq.str ?_|refine CEq.rows ?_|refine CEq.row ?_ ?_|refine CEq.tips ?_|refine CEq.tip ?_ ?_|refine CEq.raw ?_ ?_|refine CEq.arr ?_ ?_)|refine VEq.c ?_|refine VEq.agg ?_|refine VEq.tup ?_|refine TkEq.cells ?_ ?_|refine TkEq.els ?_ ?_|refine SEqL.cons ?_ ?_|refine TEqL.agg ?_ ?_|refine CEq.rows ?_|refine CEq.int ?_|rfl|omega)
end Go.Proofs.Ythnfliopmjpdmaa.Av
/- The generated layout is legible. -/
namespace Go.Proofs.Ythnfliopmjpdmaa.Av
set_option linter.unusedVariables false
set_option linter.unusedSimpArgs false

/-- A section without its numbers. -/
def secZ (x : Sec) : Sec := ⟨x.nm, 1, 1000, 0, x.stn⟩
def layZ (L : Lay) : Lay := { L with secs := L.secs.map secZ }
def Bld.z (b : Bld) : Bld := { b with L := layZ b.L }
def goodS (x : Sec) : Prop := 1 ≤ x.len ∧ x.len ≤ 400 ∧ 1000 ≤ x.lim ∧ x.lim ≤ 100000 ∧ -40 ≤ x.grd ∧ x.grd ≤ 40
theorem secB_z (n : Nat) (x : Sec) (h : goodS x) : secB n (secZ x) = secB n x := by
  obtain ⟨h1, h2, h3, h4, h5, h6⟩ := h
  unfold secB secZ
  simp only [decide_eq_decide]
  omega
theorem secsErr_z (n : Nat) : ∀ (l : List Sec) (seen : List ByteArray), (∀ x ∈ l, goodS x) → secsErr n seen (l.map secZ) = secsErr n seen l
  | [], _, _ => rfl
  | x :: r, seen, h => by
    rw [List.map_cons, secsErr, secsErr, secB_z n x (h x (List.mem_cons_self ..)), secsErr_z n r _ (fun y hy => h y (List.mem_cons_of_mem _ hy))]
    rfl
theorem layErr_z (L : Lay) (h : ∀ x ∈ L.secs, goodS x) : layErr (layZ L) = layErr L := by
  unfold layErr layZ
  simp only [List.length_map, secsErr_z _ _ _ h]
theorem sec_good (s : Src) (nm : ByteArray) (st : Int) : goodS (s.sec nm st) ∧ goodS { s.sec nm st with len := (s.sec nm st).len + 2 } := by
  have k1 := s.nx_lt (n := 9) (by omega)
  have k2 := s.af.nx_lt (n := 7) (by omega)
  have k3 := s.af.af.nx_lt (n := 21) (by omega)
  unfold goodS Src.sec
  simp only
  omega

/- The same steps without the numbers. -/
abbrev TB := List Int × Bld
def tLoopZ (i : Nat) : Nat → TB → TB
  | 0, x => x
  | k + 1, x => tLoopZ i k (x.1 ++ [(x.2.L.secs.length : Int)], x.2.add ⟨nameN (nameN ⟨#[84]⟩ i) (k + 1), 1, 1000, 0, i⟩)
def oStepZ (i c : Nat) (b : Bld) : Bld := let y := tLoopZ i c ([], b.addSt (nameN ⟨#[83]⟩ i)); y.2.addTr y.1
def lLoopZ (i : Nat) : Nat → TB → TB
  | 0, x => x
  | k + 1, x => lLoopZ i k (x.1 ++ [(x.2.L.secs.length : Int)], x.2.add ⟨nameN (nameN ⟨#[76]⟩ i) (k + 1), 1, 1000, 0, -1⟩)
def pStepZ (i n : Nat) (b : Bld) : Bld :=
  let y := lLoopZ i n ([], b)
  let c := cLoop y.2 y.1 (y.1.length - 1)
  let d := c.fan (y.1.getD 0 0) (c.tracks.getD i []) false
  let e := d.fan (y.1.getD (y.1.length - 1) 0) (d.tracks.getD (i + 1) []) true
  e.addBt y.1
theorem add_z (b : Bld) (x : Sec) : (b.add x).z = b.z.add (secZ x) := by simp [Bld.z, Bld.add, layZ]
theorem len_z (b : Bld) : b.z.L.secs.length = b.L.secs.length := by simp [Bld.z, layZ]
theorem tLoop_z (i : Nat) : ∀ (k : Nat) (x : TBS), ((tLoop i k x).1, (tLoop i k x).2.1.z) = tLoopZ i k (x.1, x.2.1.z)
  | 0, x => rfl
  | k + 1, x => by
    rw [tLoop, tLoop_z i k, tLoopZ, len_z]
    simp only [tStep, add_z]
    rfl
theorem lLoop_z (i : Nat) : ∀ (k : Nat) (x : TBS), ((lLoop i k x).1, (lLoop i k x).2.1.z) = lLoopZ i k (x.1, x.2.1.z)
  | 0, x => rfl
  | k + 1, x => by
    rw [lLoop, lLoop_z i k, lLoopZ, len_z]
    simp only [lStep, add_z]
    rfl
theorem oStep_z (i : Nat) (x : Bld × Src) : (oStep i x).1.z = oStepZ i (1 + x.2.nx 2) x.1.z := by
  have h := tLoop_z i (1 + x.2.nx 2) ([], x.1.addSt (nameN ⟨#[83]⟩ i), x.2.af)
  have h1 := congrArg Prod.fst h
  have h2 := congrArg Prod.snd h
  simp only at h1 h2
  unfold oStep oStepZ
  simp only
  rw [show (x.1.z.addSt (nameN ⟨#[83]⟩ i)) = (x.1.addSt (nameN ⟨#[83]⟩ i)).z from rfl, ← h1, ← h2]
  rfl
theorem links_z (b : Bld) (x pt : Int) (east : Bool) (ts : List Int) : ∀ i, (b.links x pt east ts i).z = b.z.links x pt east ts i
  | 0 => rfl
  | i + 1 => by
    rw [Bld.links, Bld.links, ← links_z b x pt east ts i]
    rfl
theorem fan_z (b : Bld) (x : Int) (ts : List Int) (east : Bool) : (b.fan x ts east).z = b.z.fan x ts east := by
  unfold Bld.fan
  split
  · rw [links_z]; rfl
  · rw [links_z]
theorem cLoop_z (b : Bld) (t : List Int) : ∀ k, (cLoop b t k).z = cLoop b.z t k
  | 0 => rfl
  | k + 1 => by
    rw [cLoop, cLoop, ← cLoop_z b t k]
    rfl
theorem tracks_z (b : Bld) : b.z.tracks = b.tracks := rfl
theorem addBt_z (b : Bld) (t : List Int) : (b.addBt t).z = b.z.addBt t := rfl
theorem pStep_z (i : Nat) (x : Bld × Src) : (pStep i x).1.z = pStepZ i (1 + x.2.nx 2) x.1.z := by
  have h := lLoop_z i (1 + x.2.nx 2) ([], x.1, x.2.af)
  have h1 := congrArg Prod.fst h
  have h2 := congrArg Prod.snd h
  simp only at h1 h2
  unfold pStep pStepZ
  generalize lLoop i (1 + x.2.nx 2) ([], x.1, x.2.af) = y at h1 h2 ⊢
  generalize lLoopZ i (1 + x.2.nx 2) ([], x.1.z) = u at h1 h2 ⊢
  obtain ⟨u1, u2⟩ := u
  obtain ⟨y1, y2, y3⟩ := y
  simp only at h1 h2 ⊢
  subst h1 h2
  simp only [← cLoop_z, tracks_z, ← fan_z, ← addBt_z]
def iterZ (f : Nat → Nat → Bld → Bld) (c : Nat → Nat) (b : Bld) : Nat → Bld
  | 0 => b
  | i + 1 => f i (c i) (iterZ f c b i)
theorem iter_z {f : Nat → Bld × Src → Bld × Src} {g : Nat → Nat → Bld → Bld} (h : ∀ i x, (f i x).1.z = g i (1 + x.2.nx 2) x.1.z) (x : Bld × Src) : ∀ i, (iter f x i).1.z = iterZ g (fun i => 1 + (iter f x i).2.nx 2) x.1.z i
  | 0 => rfl
  | i + 1 => by
    rw [iter, h, iter_z h x i]
    rfl
/-- The shape: two or three stations, tracks and lines. -/
def shapeB (n a0 a1 a2 c0 c1 : Nat) : Bld := iterZ pStepZ (fun i => [c0, c1].getD i 1) (iterZ oStepZ (fun i => [a0, a1, a2].getD i 1) Bld.zero (2 + n)) (1 + n)
def shapesB : Bool := [0, 1].all fun n => [1, 2].all fun a0 => [1, 2].all fun a1 => [1, 2].all fun a2 => [1, 2].all fun c0 => [1, 2].all fun c1 => decide (layErr (shapeB n a0 a1 a2 c0 c1).L = 0)
set_option maxRecDepth 100000 in
theorem shapes_ok : shapesB = true := by kernel_rfl
theorem two_mem (s : Src) : 1 + s.nx 2 ∈ [1, 2] := by
  have := s.nx_lt (n := 2) (by omega)
  generalize s.nx 2 = k at this ⊢
  match k, this with
  | 0, _ => simp
  | 1, _ => simp
theorem shape_ok {n a0 a1 a2 c0 c1 : Nat} (hn : n ∈ [0, 1]) (h0 : a0 ∈ [1, 2]) (h1 : a1 ∈ [1, 2]) (h2 : a2 ∈ [1, 2]) (h3 : c0 ∈ [1, 2]) (h4 : c1 ∈ [1, 2]) : layErr (shapeB n a0 a1 a2 c0 c1).L = 0 := by
  have h := shapes_ok
  unfold shapesB at h
  have h := List.all_eq_true.1 h n hn
  have h := List.all_eq_true.1 h a0 h0
  have h := List.all_eq_true.1 h a1 h1
  have h := List.all_eq_true.1 h a2 h2
  have h := List.all_eq_true.1 h c0 h3
  have h := List.all_eq_true.1 h c1 h4
  exact of_decide_eq_true h
theorem iterZ_congr (f : Nat → Nat → Bld → Bld) (c c' : Nat → Nat) (b : Bld) : ∀ i, (∀ j, j < i → c j = c' j) → iterZ f c b i = iterZ f c' b i
  | 0, _ => rfl
  | i + 1, h => by rw [iterZ, iterZ, h i (by omega), iterZ_congr f c c' b i (fun j hj => h j (by omega))]
/-- All sections are good. -/
def GS (b : Bld) : Prop := ∀ x ∈ b.L.secs, goodS x
theorem GS.add {b : Bld} (h : GS b) {x : Sec} (hx : goodS x) : GS (b.add x) := fun y hy => by
  simp only [Bld.add, List.mem_append, List.mem_singleton] at hy
  rcases hy with hy | rfl
  · exact h y hy
  · exact hx
theorem GS.of {b c : Bld} (h : GS b) (e : c.L.secs = b.L.secs) : GS c := fun y hy => h y (e ▸ hy)
theorem tLoop_gs (i : Nat) : ∀ (k : Nat) (x : TBS), GS x.2.1 → GS (tLoop i k x).2.1
  | 0, x, h => h
  | k + 1, x, h => tLoop_gs i k _ (h.add (sec_good _ _ _).2)
theorem lLoop_gs (i : Nat) : ∀ (k : Nat) (x : TBS), GS x.2.1 → GS (lLoop i k x).2.1
  | 0, x, h => h
  | k + 1, x, h => lLoop_gs i k _ (h.add (sec_good _ _ _).1)
theorem oStep_gs (i : Nat) (x : Bld × Src) (h : GS x.1) : GS (oStep i x).1 :=
  (tLoop_gs i (1 + x.2.nx 2) ([], x.1.addSt (nameN ⟨#[83]⟩ i), x.2.af) (h.of rfl)).of rfl
theorem links_secs (b : Bld) (x pt : Int) (east : Bool) (ts : List Int) : ∀ i, (b.links x pt east ts i).L.secs = b.L.secs
  | 0 => rfl
  | i + 1 => links_secs b x pt east ts i
theorem fan_secs (b : Bld) (x : Int) (ts : List Int) (east : Bool) : (b.fan x ts east).L.secs = b.L.secs := by
  unfold Bld.fan
  split
  · rw [links_secs]; rfl
  · rw [links_secs]
theorem cLoop_secs (b : Bld) (t : List Int) : ∀ k, (cLoop b t k).L.secs = b.L.secs
  | 0 => rfl
  | k + 1 => cLoop_secs b t k
theorem pStep_gs (i : Nat) (x : Bld × Src) (h : GS x.1) : GS (pStep i x).1 := by
  have hl := lLoop_gs i (1 + x.2.nx 2) ([], x.1, x.2.af) h
  unfold pStep
  generalize lLoop i (1 + x.2.nx 2) ([], x.1, x.2.af) = y at hl ⊢
  refine hl.of ?_
  simp only
  show (Bld.fan _ _ _ _).L.secs = _
  rw [fan_secs, fan_secs, cLoop_secs]
theorem iter_gs {f : Nat → Bld × Src → Bld × Src} (hf : ∀ i x, GS x.1 → GS (f i x).1) {x : Bld × Src} (h : GS x.1) : ∀ i, GS (iter f x i).1
  | 0 => h
  | i + 1 => hf _ _ (iter_gs hf h i)
theorem shapeAny (n : Nat) (hn : n < 2) (c1 c2 : Nat → Nat) (h1 : ∀ i, c1 i ∈ [1, 2]) (h2 : ∀ i, c2 i ∈ [1, 2]) : layErr (iterZ pStepZ c2 (iterZ oStepZ c1 Bld.zero (2 + n)) (1 + n)).L = 0 := by
  rw [iterZ_congr oStepZ c1 (fun i => [c1 0, c1 1, c1 2].getD i 1) _ (2 + n) (fun j hj => by
    match j, (show j < 3 by omega) with
    | 0, _ => rfl
    | 1, _ => rfl
    | 2, _ => rfl), iterZ_congr pStepZ c2 (fun i => [c2 0, c2 1].getD i 1) _ (1 + n) (fun j hj => by
    match j, (show j < 2 by omega) with
    | 0, _ => rfl
    | 1, _ => rfl)]
  have hm : n ∈ [0, 1] := by
    match n, hn with
    | 0, _ => simp
    | 1, _ => simp
  exact shape_ok hm (h1 0) (h1 1) (h1 2) (h2 0) (h2 1)
theorem genL_ok (l : List Int) : layErr (genL l) = 0 := by
  have hk := (⟨l, 0⟩ : Src).nx_lt (n := 2) (by omega)
  have g0 : GS Bld.zero := fun x hx => by cases hx
  have g1 := iter_gs oStep_gs (x := (Bld.zero, (⟨l, 0⟩ : Src).af)) g0 (2 + (⟨l, 0⟩ : Src).nx 2)
  have g2 := iter_gs pStep_gs g1 (1 + (⟨l, 0⟩ : Src).nx 2)
  have e1 := iter_z oStep_z (Bld.zero, (⟨l, 0⟩ : Src).af) (2 + (⟨l, 0⟩ : Src).nx 2)
  have e2 := iter_z pStep_z (iter oStep (Bld.zero, (⟨l, 0⟩ : Src).af) (2 + (⟨l, 0⟩ : Src).nx 2)) (1 + (⟨l, 0⟩ : Src).nx 2)
  rw [e1, show Bld.z (Bld.zero, (⟨l, 0⟩ : Src).af).1 = Bld.zero from rfl] at e2
  have hs := shapeAny ((⟨l, 0⟩ : Src).nx 2) hk _ _ (fun i => two_mem (iter oStep (Bld.zero, (⟨l, 0⟩ : Src).af) i).2) (fun i => two_mem (iter pStep (iter oStep (Bld.zero, (⟨l, 0⟩ : Src).af) (2 + (⟨l, 0⟩ : Src).nx 2)) i).2)
  rw [← e2] at hs
  have hz := layErr_z _ g2
  unfold genL rowB
  rw [← hz]
  exact hs
end Go.Proofs.Ythnfliopmjpdmaa.Av
/- The cursor of layoutbin: what its methods return. -/
namespace Go.Proofs.Ythnfliopmjpdmaa.Av
set_option linter.unusedVariables false
set_option linter.unusedSimpArgs false
set_option maxRecDepth 4000
set_option maxHeartbeats 4000000

/-- A cursor: the code, the position, whether it was short. -/
structure Cur where
  code : ByteArray
  pos : Nat
  short : Bool
def Cur.ok (c : Cur) : Prop := c.pos ≤ c.code.size ∧ c.code.size < 9223372036854775807
def Cur.box (c : Cur) : SB := .cells [xS c.code, xI c.pos, xB c.short]
def Cur.bytes (c : Cur) (n : Nat) : ByteArray × Cur :=
  if c.short = true ∨ c.code.size < c.pos + n then (⟨#[]⟩, { c with short := true }) else (c.code.extract c.pos (c.pos + n), { c with pos := c.pos + n })
def Cur.af (c : Cur) (k : Nat) : Cur := (c.bytes k).2
theorem cursor_bytes (c : Cur) (n : Nat) (hc : c.ok) (hn : n < 1000000) : OkV Try.prog 31 [.c (pB 0), vI n] [some c.box] (vS (c.bytes n).1) [some (c.af n).box] := by
  obtain ⟨code, pos, short⟩ := c
  obtain ⟨h1, h2⟩ := hc
  simp only at h1 h2
  unfold Cur.af Cur.bytes Cur.box
  simp only
  refine X_fn mixedX Try.func31 rfl (by kernel_rfl) (Nat.le_of_ble_eq_true (by kernel_rfl)) (by kernel_rfl) rfl rfl (Nat.le_of_ble_eq_true rfl) rfl rfl ?_
  simp only [sl0, Nat.zero_add, Nat.reduceAdd]
  repeat' (first
    |with_reducible (first|refine WR_pp ?_|refine WR_pd ?_|refine W_seq ?_|refine seqK_n ?_|refine seqK_r ?_|refine seqK_e ?_|refine W_block ?_|refine blockK_n ?_|refine blockK_r ?_|refine LoopK_e ?_|refine LoopK_r ?_|refine LoopX_r ?_|refine W_skip ?_|refine W_exit ?_|refine W_ret ?_|refine W_region (WOps_WR ?_)|refine W_draw (WOpsD_WR ?_)|refine WR_nil ?_|refine q_and ?_ ?_|exact True.intro|assumption|refine blockK_e rfl ?_|refine blockK_o (by decide) ?_|refine LoopX_e (by decide) ?_)
    |((with_reducible apply q_WR);first|refine X_run rfl ?_ ?_|refine WR_nilD (by kernel_rfl) ?_)
    |((with_reducible apply q_cond);refine X_cond rfl ?_ ?_;all_goals (intro hbq;(try simp only [bq] at hbq);(try (exfalso;omega))))
    |((with_reducible apply q_ret);refine X_ret tabOk trivial rfl rfl ?_ ?_)
    |((with_reducible apply q_retP);refine X_retP tabOk trivial rfl rfl ?_ ?_)
    |(intro (hgq : (_ : Bool) = true);(try simp only [bq] at hgq))
    |(intro (hgq : (_ : Bool) = false);(try simp only [bq] at hgq))
    |((with_reducible apply q_VOk);exact fun _ => ⟨rfl,rfl⟩)
    |(intro _;exact rfl)
    |((with_reducible apply q_bt);simp only [bq])
    |((with_reducible apply q_eqN);rfl)
    |with_reducible exact isByte_wrap _
    |with_reducible exact isByte_nat _
    |(simp only [hgq,bq];done)
    |omega)
  · rw [if_pos (hbq.imp id (fun h => by omega))]
    repeat' (first|with_reducible (first|exact TkEq.nil _|refine TkEq.none ?_|refine TkEq.cells ?_ ?_|refine TkEq.els ?_ ?_|exact SEqL.nil|refine SEqL.cons ?_ ?_|exact TEqL.nil|refine TEqL.c ?_ ?_|refine TEqL.agg ?_ ?_|exact CEq.refl _|refine CEq.int ?_|refine CEq.bool ?_|refine CEq.str ?_|refine CEq.rows ?_|refine CEq.row ?_ ?_|refine CEq.tips ?_|refine CEq.tip ?_ ?_|refine CEq.raw ?_ ?_|refine CEq.arr ?_ ?_)|refine VEq.c ?_|refine VEq.agg ?_|refine VEq.tup ?_|refine TkEq.cells ?_ ?_|refine TkEq.els ?_ ?_|refine SEqL.cons ?_ ?_|refine TEqL.agg ?_ ?_|refine CEq.rows ?_|refine CEq.int ?_|rfl|omega)
  · rw [if_pos (hbq.imp id (fun h => by omega))]
    repeat' (first|with_reducible (first|exact TkEq.nil _|refine TkEq.none ?_|refine TkEq.cells ?_ ?_|refine TkEq.els ?_ ?_|exact SEqL.nil|refine SEqL.cons ?_ ?_|exact TEqL.nil|refine TEqL.c ?_ ?_|refine TEqL.agg ?_ ?_|exact CEq.refl _|refine CEq.int ?_|refine CEq.bool ?_|refine CEq.str ?_|refine CEq.rows ?_|refine CEq.row ?_ ?_|refine CEq.tips ?_|refine CEq.tip ?_ ?_|refine CEq.raw ?_ ?_|refine CEq.arr ?_ ?_)|refine VEq.c ?_|refine VEq.agg ?_|refine VEq.tup ?_|refine TkEq.cells ?_ ?_|refine TkEq.els ?_ ?_|refine SEqL.cons ?_ ?_|refine TEqL.agg ?_ ?_|refine CEq.rows ?_|refine CEq.int ?_|rfl|omega)
  · rw [if_neg (by rintro (h | h); rw [hbq.1] at h; cases h; omega)]
    rw [show ((pos : Int) + n).toNat = pos + n by omega]
    repeat' (first|with_reducible (first|exact TkEq.nil _|refine TkEq.none ?_|refine TkEq.cells ?_ ?_|refine TkEq.els ?_ ?_|exact SEqL.nil|refine SEqL.cons ?_ ?_|exact TEqL.nil|refine TEqL.c ?_ ?_|refine TEqL.agg ?_ ?_|exact CEq.refl _|refine CEq.int ?_|refine CEq.bool ?_|refine CEq.str ?_|refine CEq.rows ?_|refine CEq.row ?_ ?_|refine CEq.tips ?_|refine CEq.tip ?_ ?_|refine CEq.raw ?_ ?_|refine CEq.arr ?_ ?_)|refine VEq.c ?_|refine VEq.agg ?_|refine VEq.tup ?_|refine TkEq.cells ?_ ?_|refine TkEq.els ?_ ?_|refine SEqL.cons ?_ ?_|refine TEqL.agg ?_ ?_|refine CEq.rows ?_|refine CEq.int ?_|rfl|omega)
  · rw [if_neg (by rintro (h | h); rw [hbq.1] at h; cases h; omega)]
    repeat' (first|with_reducible (first|exact TkEq.nil _|refine TkEq.none ?_|refine TkEq.cells ?_ ?_|refine TkEq.els ?_ ?_|exact SEqL.nil|refine SEqL.cons ?_ ?_|exact TEqL.nil|refine TEqL.c ?_ ?_|refine TEqL.agg ?_ ?_|exact CEq.refl _|refine CEq.int ?_|refine CEq.bool ?_|refine CEq.str ?_|refine CEq.rows ?_|refine CEq.row ?_ ?_|refine CEq.tips ?_|refine CEq.tip ?_ ?_|refine CEq.raw ?_ ?_|refine CEq.arr ?_ ?_)|refine VEq.c ?_|refine VEq.agg ?_|refine VEq.tup ?_|refine TkEq.cells ?_ ?_|refine TkEq.els ?_ ?_|refine SEqL.cons ?_ ?_|refine TEqL.agg ?_ ?_|refine CEq.rows ?_|refine CEq.int ?_|rfl|omega)
/-- A number of little bytes. -/
def leNum (b : ByteArray) : Nat → Nat
  | 0 => 0
  | i + 1 => leNum b i ||| ((b.data.getD i 0).toNat <<< (8 * i))
theorem leNum_lt (b : ByteArray) : ∀ i, leNum b i < 2 ^ (8 * i)
  | 0 => by simp [leNum]
  | i + 1 => by
    have h1 := leNum_lt b i
    have h2 : (b.data.getD i 0).toNat < 256 := UInt8.toNat_lt _
    simp only [leNum]
    refine Nat.or_lt_two_pow (Nat.lt_of_lt_of_le h1 (Nat.pow_le_pow_right (by omega) (by omega))) ?_
    rw [Nat.shiftLeft_eq, show 8 * (i + 1) = 8 + 8 * i by omega, Nat.pow_add]
    exact Nat.mul_lt_mul_of_pos_right (by simpa using h2) (Nat.two_pow_pos _)
theorem or64 (a b : Nat) (ha : a < 2 ^ 62) (hb : b < 2 ^ 62) : IntKind.i64.wrap (((BitVec.ofInt 64 (a : Int) ||| BitVec.ofInt 64 (b : Int)).toNat : Nat) : Int) = ((a ||| b : Nat) : Int) := by
  have h1 : (BitVec.ofInt 64 (a : Int) ||| BitVec.ofInt 64 (b : Int)).toNat = a ||| b := by
    rw [BitVec.toNat_or, BitVec.ofInt_natCast, BitVec.ofInt_natCast, BitVec.toNat_ofNat, BitVec.toNat_ofNat, Nat.mod_eq_of_lt (by omega), Nat.mod_eq_of_lt (by omega)]
  have h2 : a ||| b < 2 ^ 62 := Nat.or_lt_two_pow ha hb
  rw [h1]
  exact wrap64 (by omega) (by omega)
theorem num_step (item : ByteArray) (i : Nat) (h : i < 4) : IntKind.i64.wrap (((BitVec.ofInt IntKind.i64.bits (leNum item i : Int) ||| BitVec.ofInt IntKind.i64.bits (IntKind.i64.wrap (((item.data.getD (i : Int).toNat 0).toNat : Int) * 2 ^ min (8 * (i : Int)).toNat IntKind.i64.bits))).toNat : Nat) : Int) = (leNum item (i + 1) : Int) := by
  have hx : (item.data.getD i 0).toNat < 256 := UInt8.toNat_lt _
  have h1 := leNum_lt item i
  have h2 : (2 : Nat) ^ (8 * i) ≤ 2 ^ 24 := Nat.pow_le_pow_right (by omega) (by omega)
  have h3 : (item.data.getD i 0).toNat * 2 ^ (8 * i) ≤ 255 * 2 ^ 24 := Nat.mul_le_mul (by omega) h2
  rw [Int.toNat_natCast]
  have e1 : min (8 * (i : Int)).toNat IntKind.i64.bits = 8 * i := by
    show min _ 64 = _
    omega
  rw [e1]
  have e2 : ((item.data.getD i 0).toNat : Int) * 2 ^ (8 * i) = (((item.data.getD i 0).toNat * 2 ^ (8 * i) : Nat) : Int) := by simp
  rw [e2, wrap64 (n := (((item.data.getD i 0).toNat * 2 ^ (8 * i) : Nat) : Int)) (by omega) (by omega)]
  have := or64 (leNum item i) ((item.data.getD i 0).toNat * 2 ^ (8 * i)) (by omega) (by omega)
  refine this.trans ?_
  simp only [leNum, Nat.shiftLeft_eq]
def Cur.n (c : Cur) (k : Nat) : Nat := leNum (c.bytes k).1 (c.bytes k).1.size
theorem num_ok (c : Cur) (n : Nat) (hc : c.ok) (hn : n ≤ 4) : OkV Try.prog 33 [.c (pB 0), vI n] [some c.box] (vI (c.n n)) [some (c.af n).box] := by
  have hb := cursor_bytes c n hc (by omega)
  have hsz : (c.bytes n).1.size ≤ 4 := by
    unfold Cur.bytes
    split
    · simp [ByteArray.size]
    · simp; omega
  unfold Cur.n
  revert hb hsz
  generalize (c.bytes n).1 = item
  generalize c.af n = c2
  intro hb hsz
  refine X_fn mixedX Try.func33 rfl (by kernel_rfl) (Nat.le_of_ble_eq_true (by kernel_rfl)) (by kernel_rfl) rfl rfl (Nat.le_of_ble_eq_true rfl) rfl rfl ?_
  simp only [sl0, Nat.zero_add, Nat.reduceAdd]
  repeat' (first
    |with_reducible (first|refine WR_pp ?_|refine WR_pd ?_|refine W_seq ?_|refine seqK_n ?_|refine seqK_r ?_|refine seqK_e ?_|refine W_block ?_|refine blockK_n ?_|refine blockK_r ?_|refine LoopK_e ?_|refine LoopK_r ?_|refine LoopX_r ?_|refine W_skip ?_|refine W_exit ?_|refine W_ret ?_|refine W_region (WOps_WR ?_)|refine W_draw (WOpsD_WR ?_)|refine WR_nil ?_|refine q_and ?_ ?_|exact True.intro|assumption|refine blockK_e rfl ?_|refine blockK_o (by decide) ?_|refine LoopX_e (by decide) ?_)
    |((with_reducible apply q_call);refine X_call [0] (hb) rfl rfl rfl rfl rfl rfl rfl rfl rfl rfl rfl rfl rfl ?_)
    |((with_reducible apply q_WR);first|refine X_run rfl ?_ ?_|refine WR_nilD (by kernel_rfl) ?_)
    |((with_reducible apply q_cond);refine X_cond rfl ?_ ?_;all_goals (intro hbq;(try simp only [bq] at hbq);(try (exfalso;omega))))
    |((with_reducible apply q_ret);refine X_ret tabOk trivial rfl rfl ?_ ?_)
    |((with_reducible apply q_retP);refine X_retP tabOk trivial rfl rfl ?_ ?_)
    |(intro (hgq : (_ : Bool) = true);(try simp only [bq] at hgq))
    |(intro (hgq : (_ : Bool) = false);(try simp only [bq] at hgq))
    |((with_reducible apply q_VOk);exact fun _ => ⟨rfl,rfl⟩)
    |(intro _;exact rfl)
    |((with_reducible apply q_bt);simp only [bq])
    |((with_reducible apply q_eqN);rfl)
    |with_reducible exact isByte_wrap _
    |with_reducible exact isByte_nat _
    |(simp only [hgq,bq];done)
    |omega)
  refine W_loopS (fun i : Nat => SS [sS 5 item, sI 6 (leNum item i), sI 12 item.size, sI 13 i] [some c2.box]) (fun i => i ≤ item.size) (fun i => item.size - i) 0 ?_ (by omega) ?_
  ·
    refine X_weak rfl rfl rfl ?_ ?_ <;> repeat' (first|with_reducible (first|exact q_AgS0|exact HLe.nil _|refine HLe.none ?_|refine HLe.cells ?_ ?_|refine HLe.els ?_ ?_|exact SLe.nil|refine SLe.cons ?_ ?_|exact ELe.refl _|refine ELe.c rfl ?_|exact CLe.refl _|exact CLe.nil_row|exact CLe.nil_rowS|exact CLe.nil_tip|exact CLe.nil_tipS|exact CLe.int (by omega)|refine CLe.tip ?_ ?_|refine CLe.tip_row ?_ ?_|refine CLe.row ?_ ?_|refine CLe.tipr_row ?_|refine CLe.rows ?_|refine CLe.tips ?_|refine CLe.int ?_|refine CLe.bool ?_|refine CLe.str ?_|refine CLe.arr ?_ ?_)|refine q_AgS rfl ?_ ?_|exact CLe.nil_tipS|exact CLe.nil_rowS|refine HLe.cells ?_ ?_|refine HLe.els ?_ ?_|refine SLe.cons ?_ ?_|with_reducible rfl|omega)
    all_goals rfl
  · intro i hi
    have hx : (item.data.getD (i : Int).toNat 0).toNat < 256 := UInt8.toNat_lt _
    repeat' (first
      |with_reducible (first|refine WR_pp ?_|refine WR_pd ?_|refine W_seq ?_|refine seqK_n ?_|refine seqK_r ?_|refine seqK_e ?_|refine W_block ?_|refine blockK_n ?_|refine blockK_r ?_|refine LoopK_e ?_|refine LoopK_r ?_|refine LoopX_r ?_|refine W_skip ?_|refine W_exit ?_|refine W_ret ?_|refine W_region (WOps_WR ?_)|refine W_draw (WOpsD_WR ?_)|refine WR_nil ?_|refine q_and ?_ ?_|exact True.intro|assumption|refine blockK_e rfl ?_|refine blockK_o (by decide) ?_|refine LoopX_e (by decide) ?_)
      |((with_reducible apply q_WR);first|refine X_run rfl ?_ ?_|refine WR_nilD (by kernel_rfl) ?_)
      |((with_reducible apply q_cond);refine X_cond rfl ?_ ?_;all_goals (intro hbq;(try simp only [bq] at hbq);(try (exfalso;omega))))
      |((with_reducible apply q_ret);refine X_ret tabOk trivial rfl rfl ?_ ?_)
      |((with_reducible apply q_retP);refine X_retP tabOk trivial rfl rfl ?_ ?_)
      |(intro (hgq : (_ : Bool) = true);(try simp only [bq] at hgq))
      |(intro (hgq : (_ : Bool) = false);(try simp only [bq] at hgq))
      |((with_reducible apply q_VOk);exact fun _ => ⟨rfl,rfl⟩)
      |(intro _;exact rfl)
      |((with_reducible apply q_bt);simp only [bq])
      |((with_reducible apply q_eqN);rfl)
      |with_reducible exact isByte_wrap _
      |with_reducible exact isByte_nat _
      |(simp only [hgq,bq];done)
      |omega)
    ·
      refine LoopK_n (i + 1) ?_ ?_ ?_
      rotate_left
      · (try dsimp only); omega
      · (try dsimp only); omega
      refine X_weak rfl rfl rfl ?_ ?_ <;> repeat' (first|with_reducible (first|exact q_AgS0|exact HLe.nil _|refine HLe.none ?_|refine HLe.cells ?_ ?_|refine HLe.els ?_ ?_|exact SLe.nil|refine SLe.cons ?_ ?_|exact ELe.refl _|refine ELe.c rfl ?_|exact CLe.refl _|exact CLe.nil_row|exact CLe.nil_rowS|exact CLe.nil_tip|exact CLe.nil_tipS|exact CLe.int (by omega)|refine CLe.tip ?_ ?_|refine CLe.tip_row ?_ ?_|refine CLe.row ?_ ?_|refine CLe.tipr_row ?_|refine CLe.rows ?_|refine CLe.tips ?_|refine CLe.int ?_|refine CLe.bool ?_|refine CLe.str ?_|refine CLe.arr ?_ ?_)|refine q_AgS rfl ?_ ?_|exact CLe.nil_tipS|exact CLe.nil_rowS|refine HLe.cells ?_ ?_|refine HLe.els ?_ ?_|refine SLe.cons ?_ ?_|with_reducible rfl|omega)
      rw [num_step item i (by omega)]
    all_goals (have hie : i = item.size := by omega)
    all_goals subst hie
    ·
      repeat' (first|with_reducible (first|exact TkEq.nil _|refine TkEq.none ?_|refine TkEq.cells ?_ ?_|refine TkEq.els ?_ ?_|exact SEqL.nil|refine SEqL.cons ?_ ?_|exact TEqL.nil|refine TEqL.c ?_ ?_|refine TEqL.agg ?_ ?_|exact CEq.refl _|refine CEq.int ?_|refine CEq.bool ?_|refine CEq.str ?_|refine CEq.rows ?_|refine CEq.row ?_ ?_|refine CEq.tips ?_|refine CEq.tip ?_ ?_|refine CEq.raw ?_ ?_|refine CEq.arr ?_ ?_)|refine VEq.c ?_|refine VEq.agg ?_|refine VEq.tup ?_|refine TkEq.cells ?_ ?_|refine TkEq.els ?_ ?_|refine SEqL.cons ?_ ?_|refine TEqL.agg ?_ ?_|refine CEq.rows ?_|refine CEq.int ?_|rfl|omega)
    ·
      repeat' (first|with_reducible (first|exact TkEq.nil _|refine TkEq.none ?_|refine TkEq.cells ?_ ?_|refine TkEq.els ?_ ?_|exact SEqL.nil|refine SEqL.cons ?_ ?_|exact TEqL.nil|refine TEqL.c ?_ ?_|refine TEqL.agg ?_ ?_|exact CEq.refl _|refine CEq.int ?_|refine CEq.bool ?_|refine CEq.str ?_|refine CEq.rows ?_|refine CEq.row ?_ ?_|refine CEq.tips ?_|refine CEq.tip ?_ ?_|refine CEq.raw ?_ ?_|refine CEq.arr ?_ ?_)|refine VEq.c ?_|refine VEq.agg ?_|refine VEq.tup ?_|refine TkEq.cells ?_ ?_|refine TkEq.els ?_ ?_|refine SEqL.cons ?_ ?_|refine TEqL.agg ?_ ?_|refine CEq.rows ?_|refine CEq.int ?_|rfl|omega)
def Cur.name (c : Cur) : ByteArray × Cur :=
  if c.short = true ∨ c.pos = c.code.size then (⟨#[]⟩, { c with short := true }) else
  if (c.bytes (1 + (c.code.data.getD c.pos 0).toNat)).2.short = true then (⟨#[]⟩, (c.bytes (1 + (c.code.data.getD c.pos 0).toNat)).2) else
  ((c.bytes (1 + (c.code.data.getD c.pos 0).toNat)).1.extract 1 (c.bytes (1 + (c.code.data.getD c.pos 0).toNat)).1.size, (c.bytes (1 + (c.code.data.getD c.pos 0).toNat)).2)
theorem Cur.bytes_size (c : Cur) (n : Nat) (hc : c.ok) : (c.bytes n).2.short = false → (c.bytes n).1.size = n := by
  unfold Cur.bytes
  split
  · intro h; cases h
  · rename_i hh
    intro _
    simp at hh ⊢
    have := hc.1
    omega
def Cur.nm (c : Cur) : ByteArray := c.name.1
def Cur.afn (c : Cur) : Cur := c.name.2
theorem nm_ok (c : Cur) (hc : c.ok) : OkV Try.prog 52 [.c (pB 0)] [some c.box] (vS c.nm) [some c.afn.box] := by
  obtain ⟨code, pos, short⟩ := c
  have hx : (code.data.getD (pos : Int).toNat 0).toNat < 256 := UInt8.toNat_lt _
  have hb := cursor_bytes ⟨code, pos, short⟩ (1 + (code.data.getD (pos : Int).toNat 0).toNat) hc (by omega)
  have hs := Cur.bytes_size ⟨code, pos, short⟩ (1 + (code.data.getD (pos : Int).toNat 0).toNat) hc
  obtain ⟨h1, h2⟩ := hc
  simp only at h1 h2
  unfold Cur.nm Cur.afn Cur.name
  unfold Cur.af at hb
  revert hb hs
  dsimp only
  rw [show code.data.getD pos 0 = code.data.getD (pos : Int).toNat 0 from rfl]
  generalize (Cur.bytes ⟨code, pos, short⟩ (1 + (code.data.getD (pos : Int).toNat 0).toNat)).1 = item
  generalize (Cur.bytes ⟨code, pos, short⟩ (1 + (code.data.getD (pos : Int).toNat 0).toNat)).2 = c2
  intro hb hs
  have hs2 : c2.short = true ∨ (c2.short = false ∧ 1 ≤ item.size) := by
    cases hc : c2.short with
    | true => exact .inl rfl
    | false => exact .inr ⟨rfl, by have := hs hc; omega⟩
  unfold Cur.box at hb ⊢
  dsimp only at hb ⊢
  refine X_fn mixedX Try.func52 rfl (by kernel_rfl) (Nat.le_of_ble_eq_true (by kernel_rfl)) (by kernel_rfl) rfl rfl (Nat.le_of_ble_eq_true rfl) rfl rfl ?_
  simp only [sl0, Nat.zero_add, Nat.reduceAdd]
  repeat' (first
    |with_reducible (first|refine WR_pp ?_|refine WR_pd ?_|refine W_seq ?_|refine seqK_n ?_|refine seqK_r ?_|refine seqK_e ?_|refine W_block ?_|refine blockK_n ?_|refine blockK_r ?_|refine LoopK_e ?_|refine LoopK_r ?_|refine LoopX_r ?_|refine W_skip ?_|refine W_exit ?_|refine W_ret ?_|refine W_region (WOps_WR ?_)|refine W_draw (WOpsD_WR ?_)|refine WR_nil ?_|refine q_and ?_ ?_|exact True.intro|assumption|refine blockK_e rfl ?_|refine blockK_o (by decide) ?_|refine LoopX_e (by decide) ?_)
    |((with_reducible apply q_call);refine X_call [0] (hb) rfl rfl rfl rfl rfl rfl rfl rfl rfl rfl rfl rfl rfl ?_)
    |((with_reducible apply q_WR);first|refine X_run rfl ?_ ?_|refine WR_nilD (by kernel_rfl) ?_)
    |((with_reducible apply q_cond);refine X_cond rfl ?_ ?_;all_goals (intro hbq;(try simp only [bq] at hbq);(try (exfalso;omega))))
    |((with_reducible apply q_ret);refine X_ret tabOk trivial rfl rfl ?_ ?_)
    |((with_reducible apply q_retP);refine X_retP tabOk trivial rfl rfl ?_ ?_)
    |(intro (hgq : (_ : Bool) = true);(try simp only [bq] at hgq))
    |(intro (hgq : (_ : Bool) = false);(try simp only [bq] at hgq))
    |((with_reducible apply q_VOk);exact fun _ => ⟨rfl,rfl⟩)
    |(intro _;exact rfl)
    |((with_reducible apply q_bt);simp only [bq])
    |((with_reducible apply q_eqN);rfl)
    |with_reducible exact isByte_wrap _
    |with_reducible exact isByte_nat _
    |(simp only [hgq,bq];done)
    |omega)
  · rw [if_pos (hbq.imp id (fun h => by omega))]
    repeat' (first|with_reducible (first|exact TkEq.nil _|refine TkEq.none ?_|refine TkEq.cells ?_ ?_|refine TkEq.els ?_ ?_|exact SEqL.nil|refine SEqL.cons ?_ ?_|exact TEqL.nil|refine TEqL.c ?_ ?_|refine TEqL.agg ?_ ?_|exact CEq.refl _|refine CEq.int ?_|refine CEq.bool ?_|refine CEq.str ?_|refine CEq.rows ?_|refine CEq.row ?_ ?_|refine CEq.tips ?_|refine CEq.tip ?_ ?_|refine CEq.raw ?_ ?_|refine CEq.arr ?_ ?_)|refine VEq.c ?_|refine VEq.agg ?_|refine VEq.tup ?_|refine TkEq.cells ?_ ?_|refine TkEq.els ?_ ?_|refine SEqL.cons ?_ ?_|refine TEqL.agg ?_ ?_|refine CEq.rows ?_|refine CEq.int ?_|rfl|omega)
  · rw [if_pos (hbq.imp id (fun h => by omega))]
    repeat' (first|with_reducible (first|exact TkEq.nil _|refine TkEq.none ?_|refine TkEq.cells ?_ ?_|refine TkEq.els ?_ ?_|exact SEqL.nil|refine SEqL.cons ?_ ?_|exact TEqL.nil|refine TEqL.c ?_ ?_|refine TEqL.agg ?_ ?_|exact CEq.refl _|refine CEq.int ?_|refine CEq.bool ?_|refine CEq.str ?_|refine CEq.rows ?_|refine CEq.row ?_ ?_|refine CEq.tips ?_|refine CEq.tip ?_ ?_|refine CEq.raw ?_ ?_|refine CEq.arr ?_ ?_)|refine VEq.c ?_|refine VEq.agg ?_|refine VEq.tup ?_|refine TkEq.cells ?_ ?_|refine TkEq.els ?_ ?_|refine SEqL.cons ?_ ?_|refine TEqL.agg ?_ ?_|refine CEq.rows ?_|refine CEq.int ?_|rfl|omega)
  · rename_i hq
    rw [if_neg (by rintro (h | h); rw [hq.1] at h; cases h; omega), if_pos hbq]
    repeat' (first|with_reducible (first|exact TkEq.nil _|refine TkEq.none ?_|refine TkEq.cells ?_ ?_|refine TkEq.els ?_ ?_|exact SEqL.nil|refine SEqL.cons ?_ ?_|exact TEqL.nil|refine TEqL.c ?_ ?_|refine TEqL.agg ?_ ?_|exact CEq.refl _|refine CEq.int ?_|refine CEq.bool ?_|refine CEq.str ?_|refine CEq.rows ?_|refine CEq.row ?_ ?_|refine CEq.tips ?_|refine CEq.tip ?_ ?_|refine CEq.raw ?_ ?_|refine CEq.arr ?_ ?_)|refine VEq.c ?_|refine VEq.agg ?_|refine VEq.tup ?_|refine TkEq.cells ?_ ?_|refine TkEq.els ?_ ?_|refine SEqL.cons ?_ ?_|refine TEqL.agg ?_ ?_|refine CEq.rows ?_|refine CEq.int ?_|rfl|omega)
  · rename_i hq
    rw [if_neg (by rintro (h | h); rw [hq.1] at h; cases h; omega), if_pos hbq]
    repeat' (first|with_reducible (first|exact TkEq.nil _|refine TkEq.none ?_|refine TkEq.cells ?_ ?_|refine TkEq.els ?_ ?_|exact SEqL.nil|refine SEqL.cons ?_ ?_|exact TEqL.nil|refine TEqL.c ?_ ?_|refine TEqL.agg ?_ ?_|exact CEq.refl _|refine CEq.int ?_|refine CEq.bool ?_|refine CEq.str ?_|refine CEq.rows ?_|refine CEq.row ?_ ?_|refine CEq.tips ?_|refine CEq.tip ?_ ?_|refine CEq.raw ?_ ?_|refine CEq.arr ?_ ?_)|refine VEq.c ?_|refine VEq.agg ?_|refine VEq.tup ?_|refine TkEq.cells ?_ ?_|refine TkEq.els ?_ ?_|refine SEqL.cons ?_ ?_|refine TEqL.agg ?_ ?_|refine CEq.rows ?_|refine CEq.int ?_|rfl|omega)
  · rcases hs2 with h | h
    · rw [hbq] at h; cases h
    · omega
  · rename_i hq
    rw [if_neg (by rintro (h | h); rw [hq.1] at h; cases h; omega), if_neg (by rw [hbq]; decide)]
    repeat' (first|with_reducible (first|exact TkEq.nil _|refine TkEq.none ?_|refine TkEq.cells ?_ ?_|refine TkEq.els ?_ ?_|exact SEqL.nil|refine SEqL.cons ?_ ?_|exact TEqL.nil|refine TEqL.c ?_ ?_|refine TEqL.agg ?_ ?_|exact CEq.refl _|refine CEq.int ?_|refine CEq.bool ?_|refine CEq.str ?_|refine CEq.rows ?_|refine CEq.row ?_ ?_|refine CEq.tips ?_|refine CEq.tip ?_ ?_|refine CEq.raw ?_ ?_|refine CEq.arr ?_ ?_)|refine VEq.c ?_|refine VEq.agg ?_|refine VEq.tup ?_|refine TkEq.cells ?_ ?_|refine TkEq.els ?_ ?_|refine SEqL.cons ?_ ?_|refine TEqL.agg ?_ ?_|refine CEq.rows ?_|refine CEq.int ?_|rfl|omega)
  · rename_i hq
    rw [if_neg (by rintro (h | h); rw [hq.1] at h; cases h; omega), if_neg (by rw [hbq]; decide)]
    repeat' (first|with_reducible (first|exact TkEq.nil _|refine TkEq.none ?_|refine TkEq.cells ?_ ?_|refine TkEq.els ?_ ?_|exact SEqL.nil|refine SEqL.cons ?_ ?_|exact TEqL.nil|refine TEqL.c ?_ ?_|refine TEqL.agg ?_ ?_|exact CEq.refl _|refine CEq.int ?_|refine CEq.bool ?_|refine CEq.str ?_|refine CEq.rows ?_|refine CEq.row ?_ ?_|refine CEq.tips ?_|refine CEq.tip ?_ ?_|refine CEq.raw ?_ ?_|refine CEq.arr ?_ ?_)|refine VEq.c ?_|refine VEq.agg ?_|refine VEq.tup ?_|refine TkEq.cells ?_ ?_|refine TkEq.els ?_ ?_|refine SEqL.cons ?_ ?_|refine TEqL.agg ?_ ?_|refine CEq.rows ?_|refine CEq.int ?_|rfl|omega)
end Go.Proofs.Ythnfliopmjpdmaa.Av
/- The cursor of layoutbin reads a layout. -/
namespace Go.Proofs.Ythnfliopmjpdmaa.Av
set_option linter.unusedVariables false
set_option linter.unusedSimpArgs false
set_option maxRecDepth 4000
set_option maxHeartbeats 4000000

/-- What a step reads, again and again. -/
def loopN {σ α : Type} (step : σ → α × σ) (c : σ) : Nat → List α × σ
  | 0 => ([], c)
  | i + 1 => ((loopN step c i).1 ++ [(step (loopN step c i).2).1], (step (loopN step c i).2).2)
theorem loopN_len {σ α : Type} (step : σ → α × σ) (c : σ) : ∀ i, (loopN step c i).1.length = i
  | 0 => rfl
  | i + 1 => by simp [loopN, loopN_len step c i]
theorem Cur.bytes_le (c : Cur) (k : Nat) : (c.bytes k).1.size ≤ k := by
  unfold Cur.bytes
  split
  · simp [ByteArray.size]
  · simp; omega
theorem Cur.n_lt (c : Cur) (k : Nat) : c.n k < 2 ^ (8 * k) :=
  Nat.lt_of_lt_of_le (leNum_lt _ _) (Nat.pow_le_pow_right (by omega) (by have := c.bytes_le k; omega))
theorem Cur.n1 (c : Cur) : c.n 1 < 256 := c.n_lt 1
theorem Cur.af_ok {c : Cur} (h : c.ok) (k : Nat) : (c.af k).ok := by
  obtain ⟨h1, h2⟩ := h
  unfold Cur.af Cur.bytes
  split
  · exact ⟨h1, h2⟩
  · rename_i hh
    refine ⟨?_, h2⟩
    simp at hh ⊢
    omega
theorem Cur.afn_ok {c : Cur} (h : c.ok) : c.afn.ok := by
  unfold Cur.afn Cur.name
  split
  · exact h
  · split
    · exact Cur.af_ok h _
    · exact Cur.af_ok h _
def Cur.stepN (c : Cur) : ByteArray × Cur := (c.nm, c.afn)
def Cur.stepS (c : Cur) : Sec × Cur := (⟨c.nm, c.afn.n 2, (c.afn.af 2).n 3, ((c.afn.af 2).af 3).n 1 - 40, (((c.afn.af 2).af 3).af 1).n 1 - 1⟩, (((c.afn.af 2).af 3).af 1).af 1)
def Cur.stepL (c : Cur) : Lnk × Cur := (⟨(c.n 1 / 2 : Nat), (c.n 1 % 2 : Nat), ((c.af 1).n 1 / 2 : Nat), ((c.af 1).n 1 % 2 : Nat), ((c.af 1).af 1).n 1 - 1, (((c.af 1).af 1).af 1).n 1⟩, (((c.af 1).af 1).af 1).af 1)
theorem loopN_ok {α : Type} {step : Cur → α × Cur} (hs : ∀ c : Cur, c.ok → (step c).2.ok) {c : Cur} (h : c.ok) : ∀ i, (loopN step c i).2.ok
  | 0 => h
  | i + 1 => hs _ (loopN_ok hs h i)
theorem stepN_ok (c : Cur) (h : c.ok) : c.stepN.2.ok := Cur.afn_ok h
theorem stepS_ok (c : Cur) (h : c.ok) : c.stepS.2.ok := Cur.af_ok (Cur.af_ok (Cur.af_ok (Cur.af_ok (Cur.afn_ok h) _) _) _) _
theorem stepL_ok (c : Cur) (h : c.ok) : c.stepL.2.ok := Cur.af_ok (Cur.af_ok (Cur.af_ok (Cur.af_ok h _) _) _) _
def Cur.lay (c : Cur) : Lay × Cur :=
  let c4 := (((c.af 1).af 1).af 1).af 1
  let A := loopN Cur.stepN c4 (c.n 1)
  let B := loopN Cur.stepN A.2 ((c.af 1).n 1)
  let C := loopN Cur.stepS B.2 (((c.af 1).af 1).n 1)
  let D := loopN Cur.stepL C.2 ((((c.af 1).af 1).af 1).n 1)
  (⟨A.1, B.1, C.1, D.1⟩, D.2)
abbrev nil4 : SB := .cells [.c (.f .nils), .c (.f .nils), .c (.f .nils), .c (.f .nils)]
abbrev slC : SL := [sC 0 (pB 0), sC 2 (pB 1), sC 3 (pB 2)]
theorem lay_ok (c : Cur) (hc : c.ok) : OkV Try.prog 32 [.c (pB 0)] [some c.box] (vLay c.lay.1) [some c.lay.2.box] := by
  have k1 := c.n1
  have k2 := (c.af 1).n1
  have k3 := ((c.af 1).af 1).n1
  have k4 := (((c.af 1).af 1).af 1).n1
  have o1 := Cur.af_ok hc 1
  have o2 := Cur.af_ok o1 1
  have o3 := Cur.af_ok o2 1
  have hc4 := Cur.af_ok o3 1
  have h1 := num_ok c 1 hc (by omega)
  have h2 := num_ok _ 1 o1 (by omega)
  have h3 := num_ok _ 1 o2 (by omega)
  have h4 := num_ok _ 1 o3 (by omega)
  obtain ⟨c4, e4⟩ : ∃ c4, (((c.af 1).af 1).af 1).af 1 = c4 := ⟨_, rfl⟩
  rw [e4] at h4 hc4
  refine X_fn mixedX Try.func32 rfl (by kernel_rfl) (Nat.le_of_ble_eq_true (by kernel_rfl)) (by kernel_rfl) rfl rfl (Nat.le_of_ble_eq_true rfl) rfl rfl ?_
  simp only [sl0, Nat.zero_add, Nat.reduceAdd]
  repeat' (first
    |with_reducible (first|refine WR_pp ?_|refine WR_pd ?_|refine W_seq ?_|refine seqK_n ?_|refine seqK_r ?_|refine seqK_e ?_|refine W_block ?_|refine blockK_n ?_|refine blockK_r ?_|refine LoopK_e ?_|refine LoopK_r ?_|refine LoopX_r ?_|refine W_skip ?_|refine W_exit ?_|refine W_ret ?_|refine W_region (WOps_WR ?_)|refine W_draw (WOpsD_WR ?_)|refine WR_nil ?_|refine q_and ?_ ?_|exact True.intro|assumption|refine blockK_e rfl ?_|refine blockK_o (by decide) ?_|refine LoopX_e (by decide) ?_)
    |((with_reducible apply q_call);first|refine X_call [0] (h1) rfl rfl rfl rfl rfl rfl rfl rfl rfl rfl rfl rfl rfl ?_|refine X_call [0] (h2) rfl rfl rfl rfl rfl rfl rfl rfl rfl rfl rfl rfl rfl ?_|refine X_call [0] (h3) rfl rfl rfl rfl rfl rfl rfl rfl rfl rfl rfl rfl rfl ?_|refine X_call [0] (h4) rfl rfl rfl rfl rfl rfl rfl rfl rfl rfl rfl rfl rfl ?_)
    |((with_reducible apply q_WR);first|refine X_run rfl ?_ ?_|refine WR_nilD (by kernel_rfl) ?_)
    |((with_reducible apply q_cond);refine X_cond rfl ?_ ?_;all_goals (intro hbq;(try simp only [bq] at hbq);(try (exfalso;omega))))
    |((with_reducible apply q_ret);refine X_ret tabOk trivial rfl rfl ?_ ?_)
    |((with_reducible apply q_retP);refine X_retP tabOk trivial rfl rfl ?_ ?_)
    |(intro (hgq : (_ : Bool) = true);(try simp only [bq] at hgq))
    |(intro (hgq : (_ : Bool) = false);(try simp only [bq] at hgq))
    |((with_reducible apply q_VOk);exact fun _ => ⟨rfl,rfl⟩)
    |(intro _;exact rfl)
    |((with_reducible apply q_bt);simp only [bq])
    |((with_reducible apply q_eqN);rfl)
    |with_reducible exact isByte_wrap _
    |with_reducible exact isByte_nat _
    |(simp only [hgq,bq];done)
    |omega)
  clear h1 h2 h3 h4
  refine W_loopS (fun i : Nat => SS (sI 5 ((c.af 1).n 1) :: sI 6 (((c.af 1).af 1).n 1) :: sI 7 ((((c.af 1).af 1).af 1).n 1) :: sI 18 (c.n 1) :: sI 19 i :: slC) [some (loopN Cur.stepN c4 i).2.box, some nil4, some (.cells [tStr (loopN Cur.stepN c4 i).1, .c (.f .nils), .c (.f .nils), .c (.f .nils)])]) (fun i => i ≤ c.n 1) (fun i => c.n 1 - i) 0 ?_ (by omega) ?_
  ·
    refine X_weak rfl rfl rfl ?_ ?_ <;> repeat' (first|with_reducible (first|exact q_AgS0|exact HLe.nil _|refine HLe.none ?_|refine HLe.cells ?_ ?_|refine HLe.els ?_ ?_|exact SLe.nil|refine SLe.cons ?_ ?_|exact ELe.refl _|refine ELe.c rfl ?_|exact CLe.refl _|exact CLe.nil_row|exact CLe.nil_rowS|exact CLe.nil_tip|exact CLe.nil_tipS|exact CLe.int (by omega)|refine CLe.tip ?_ ?_|refine CLe.tip_row ?_ ?_|refine CLe.row ?_ ?_|refine CLe.tipr_row ?_|refine CLe.rows ?_|refine CLe.tips ?_|refine CLe.int ?_|refine CLe.bool ?_|refine CLe.str ?_|refine CLe.arr ?_ ?_)|refine q_AgS rfl ?_ ?_|exact CLe.nil_tipS|exact CLe.nil_rowS|refine HLe.cells ?_ ?_|refine HLe.els ?_ ?_|refine SLe.cons ?_ ?_|with_reducible rfl|omega)
    all_goals rfl
  intro i hi
  have hci := loopN_ok stepN_ok hc4 i
  have hL := loopN_len Cur.stepN c4 i
  have hN := nm_ok _ hci
  repeat' (first
    |with_reducible (first|refine WR_pp ?_|refine WR_pd ?_|refine W_seq ?_|refine seqK_n ?_|refine seqK_r ?_|refine seqK_e ?_|refine W_block ?_|refine blockK_n ?_|refine blockK_r ?_|refine LoopK_e ?_|refine LoopK_r ?_|refine LoopX_r ?_|refine W_skip ?_|refine W_exit ?_|refine W_ret ?_|refine W_region (WOps_WR ?_)|refine W_draw (WOpsD_WR ?_)|refine WR_nil ?_|refine q_and ?_ ?_|exact True.intro|assumption|refine blockK_e rfl ?_|refine blockK_o (by decide) ?_|refine LoopX_e (by decide) ?_)
    |((with_reducible apply q_call);refine X_call [0] (hN) rfl rfl rfl rfl rfl rfl rfl rfl rfl rfl rfl rfl rfl ?_)
    |((with_reducible apply q_WR);first|refine X_run rfl ?_ ?_|refine WR_nilD (by kernel_rfl) ?_)
    |((with_reducible apply q_cond);refine X_cond rfl ?_ ?_;all_goals (intro hbq;(try simp only [bq] at hbq);(try (exfalso;omega))))
    |((with_reducible apply q_ret);refine X_ret tabOk trivial rfl rfl ?_ ?_)
    |((with_reducible apply q_retP);refine X_retP tabOk trivial rfl rfl ?_ ?_)
    |(intro (hgq : (_ : Bool) = true);(try simp only [bq] at hgq))
    |(intro (hgq : (_ : Bool) = false);(try simp only [bq] at hgq))
    |((with_reducible apply q_VOk);exact fun _ => ⟨rfl,rfl⟩)
    |(intro _;exact rfl)
    |((with_reducible apply q_bt);simp only [bq])
    |((with_reducible apply q_eqN);rfl)
    |with_reducible exact isByte_wrap _
    |with_reducible exact isByte_nat _
    |(simp only [hgq,bq];done)
    |omega)
  ·
    refine LoopK_n (i + 1) ?_ ?_ ?_
    rotate_left
    · (try dsimp only); omega
    · (try dsimp only); omega
    refine X_weak rfl rfl rfl ?_ ?_ <;> repeat' (first|with_reducible (first|exact q_AgS0|exact HLe.nil _|refine HLe.none ?_|refine HLe.cells ?_ ?_|refine HLe.els ?_ ?_|exact SLe.nil|refine SLe.cons ?_ ?_|exact ELe.refl _|refine ELe.c rfl ?_|exact CLe.refl _|exact CLe.nil_row|exact CLe.nil_rowS|exact CLe.nil_tip|exact CLe.nil_tipS|exact CLe.int (by omega)|refine CLe.tip ?_ ?_|refine CLe.tip_row ?_ ?_|refine CLe.row ?_ ?_|refine CLe.tipr_row ?_|refine CLe.rows ?_|refine CLe.tips ?_|refine CLe.int ?_|refine CLe.bool ?_|refine CLe.str ?_|refine CLe.arr ?_ ?_)|refine q_AgS rfl ?_ ?_|exact CLe.nil_tipS|exact CLe.nil_rowS|refine HLe.cells ?_ ?_|refine HLe.els ?_ ?_|refine SLe.cons ?_ ?_|with_reducible rfl|omega)
    all_goals (simp [loopN, Cur.stepN, fStr, fS]; done)
  have hie : i = c.n 1 := by omega
  subst hie
  obtain ⟨A, eA⟩ : ∃ A, loopN Cur.stepN c4 (c.n 1) = A := ⟨_, rfl⟩
  rw [eA] at hci ⊢
  clear hN hL
  refine W_loopS (fun i : Nat => SS (sI 6 (((c.af 1).af 1).n 1) :: sI 7 ((((c.af 1).af 1).af 1).n 1) :: sI 29 ((c.af 1).n 1) :: sI 30 i :: slC) [some (loopN Cur.stepN A.2 i).2.box, some nil4, some (.cells [tStr A.1, tStr (loopN Cur.stepN A.2 i).1, .c (.f .nils), .c (.f .nils)])]) (fun i => i ≤ (c.af 1).n 1) (fun i => (c.af 1).n 1 - i) 0 ?_ (by omega) ?_
  ·
    refine X_weak rfl rfl rfl ?_ ?_ <;> repeat' (first|with_reducible (first|exact q_AgS0|exact HLe.nil _|refine HLe.none ?_|refine HLe.cells ?_ ?_|refine HLe.els ?_ ?_|exact SLe.nil|refine SLe.cons ?_ ?_|exact ELe.refl _|refine ELe.c rfl ?_|exact CLe.refl _|exact CLe.nil_row|exact CLe.nil_rowS|exact CLe.nil_tip|exact CLe.nil_tipS|exact CLe.int (by omega)|refine CLe.tip ?_ ?_|refine CLe.tip_row ?_ ?_|refine CLe.row ?_ ?_|refine CLe.tipr_row ?_|refine CLe.rows ?_|refine CLe.tips ?_|refine CLe.int ?_|refine CLe.bool ?_|refine CLe.str ?_|refine CLe.arr ?_ ?_)|refine q_AgS rfl ?_ ?_|exact CLe.nil_tipS|exact CLe.nil_rowS|refine HLe.cells ?_ ?_|refine HLe.els ?_ ?_|refine SLe.cons ?_ ?_|with_reducible rfl|omega)
    all_goals rfl
  clear hbq hi
  intro i hi
  have hcj := loopN_ok stepN_ok hci i
  have hL := loopN_len Cur.stepN A.2 i
  have hN := nm_ok _ hcj
  repeat' (first
    |with_reducible (first|refine WR_pp ?_|refine WR_pd ?_|refine W_seq ?_|refine seqK_n ?_|refine seqK_r ?_|refine seqK_e ?_|refine W_block ?_|refine blockK_n ?_|refine blockK_r ?_|refine LoopK_e ?_|refine LoopK_r ?_|refine LoopX_r ?_|refine W_skip ?_|refine W_exit ?_|refine W_ret ?_|refine W_region (WOps_WR ?_)|refine W_draw (WOpsD_WR ?_)|refine WR_nil ?_|refine q_and ?_ ?_|exact True.intro|assumption|refine blockK_e rfl ?_|refine blockK_o (by decide) ?_|refine LoopX_e (by decide) ?_)
    |((with_reducible apply q_call);refine X_call [0] (hN) rfl rfl rfl rfl rfl rfl rfl rfl rfl rfl rfl rfl rfl ?_)
    |((with_reducible apply q_WR);first|refine X_run rfl ?_ ?_|refine WR_nilD (by kernel_rfl) ?_)
    |((with_reducible apply q_cond);refine X_cond rfl ?_ ?_;all_goals (intro hbq;(try simp only [bq] at hbq);(try (exfalso;omega))))
    |((with_reducible apply q_ret);refine X_ret tabOk trivial rfl rfl ?_ ?_)
    |((with_reducible apply q_retP);refine X_retP tabOk trivial rfl rfl ?_ ?_)
    |(intro (hgq : (_ : Bool) = true);(try simp only [bq] at hgq))
    |(intro (hgq : (_ : Bool) = false);(try simp only [bq] at hgq))
    |((with_reducible apply q_VOk);exact fun _ => ⟨rfl,rfl⟩)
    |(intro _;exact rfl)
    |((with_reducible apply q_bt);simp only [bq])
    |((with_reducible apply q_eqN);rfl)
    |with_reducible exact isByte_wrap _
    |with_reducible exact isByte_nat _
    |(simp only [hgq,bq];done)
    |omega)
  ·
    refine LoopK_n (i + 1) ?_ ?_ ?_
    rotate_left
    · (try dsimp only); omega
    · (try dsimp only); omega
    refine X_weak rfl rfl rfl ?_ ?_ <;> repeat' (first|with_reducible (first|exact q_AgS0|exact HLe.nil _|refine HLe.none ?_|refine HLe.cells ?_ ?_|refine HLe.els ?_ ?_|exact SLe.nil|refine SLe.cons ?_ ?_|exact ELe.refl _|refine ELe.c rfl ?_|exact CLe.refl _|exact CLe.nil_row|exact CLe.nil_rowS|exact CLe.nil_tip|exact CLe.nil_tipS|exact CLe.int (by omega)|refine CLe.tip ?_ ?_|refine CLe.tip_row ?_ ?_|refine CLe.row ?_ ?_|refine CLe.tipr_row ?_|refine CLe.rows ?_|refine CLe.tips ?_|refine CLe.int ?_|refine CLe.bool ?_|refine CLe.str ?_|refine CLe.arr ?_ ?_)|refine q_AgS rfl ?_ ?_|exact CLe.nil_tipS|exact CLe.nil_rowS|refine HLe.cells ?_ ?_|refine HLe.els ?_ ?_|refine SLe.cons ?_ ?_|with_reducible rfl|omega)
    all_goals (simp [loopN, Cur.stepN, fStr, fS]; done)
  have hie : i = (c.af 1).n 1 := by omega
  subst hie
  obtain ⟨B, eB⟩ : ∃ B, loopN Cur.stepN A.2 ((c.af 1).n 1) = B := ⟨_, rfl⟩
  rw [eB] at hcj ⊢
  clear hN hL
  refine W_loopS (fun i : Nat => SS (sI 7 ((((c.af 1).af 1).af 1).n 1) :: sI 40 (((c.af 1).af 1).n 1) :: sI 41 i :: slC) [some (loopN Cur.stepS B.2 i).2.box, some nil4, some (.cells [tStr A.1, tStr B.1, tSec (loopN Cur.stepS B.2 i).1, .c (.f .nils)])]) (fun i => i ≤ ((c.af 1).af 1).n 1) (fun i => ((c.af 1).af 1).n 1 - i) 0 ?_ (by omega) ?_
  ·
    refine X_weak rfl rfl rfl ?_ ?_ <;> repeat' (first|with_reducible (first|exact q_AgS0|exact HLe.nil _|refine HLe.none ?_|refine HLe.cells ?_ ?_|refine HLe.els ?_ ?_|exact SLe.nil|refine SLe.cons ?_ ?_|exact ELe.refl _|refine ELe.c rfl ?_|exact CLe.refl _|exact CLe.nil_row|exact CLe.nil_rowS|exact CLe.nil_tip|exact CLe.nil_tipS|exact CLe.int (by omega)|refine CLe.tip ?_ ?_|refine CLe.tip_row ?_ ?_|refine CLe.row ?_ ?_|refine CLe.tipr_row ?_|refine CLe.rows ?_|refine CLe.tips ?_|refine CLe.int ?_|refine CLe.bool ?_|refine CLe.str ?_|refine CLe.arr ?_ ?_)|refine q_AgS rfl ?_ ?_|exact CLe.nil_tipS|exact CLe.nil_rowS|refine HLe.cells ?_ ?_|refine HLe.els ?_ ?_|refine SLe.cons ?_ ?_|with_reducible rfl|omega)
    all_goals rfl
  clear hbq hi
  intro i hi
  have hck := loopN_ok stepS_ok hcj i
  have hL := loopN_len Cur.stepS B.2 i
  obtain ⟨x, ex⟩ : ∃ x, (loopN Cur.stepS B.2 i).2 = x := ⟨_, rfl⟩
  rw [ex] at hck ⊢
  have m0 := (x.afn).n_lt 2
  have m00 := (x.afn.af 2).n_lt 3
  have m1 := ((x.afn.af 2).af 3).n1
  have m2 := (((x.afn.af 2).af 3).af 1).n1
  have p1 := Cur.afn_ok hck
  have p2 := Cur.af_ok p1 2
  have p3 := Cur.af_ok p2 3
  have p4 := Cur.af_ok p3 1
  have hN := nm_ok _ hck
  have h1 := num_ok _ 2 p1 (by omega)
  have h2 := num_ok _ 3 p2 (by omega)
  have h3 := num_ok _ 1 p3 (by omega)
  have h4 := num_ok _ 1 p4 (by omega)
  repeat' (first
    |with_reducible (first|refine WR_pp ?_|refine WR_pd ?_|refine W_seq ?_|refine seqK_n ?_|refine seqK_r ?_|refine seqK_e ?_|refine W_block ?_|refine blockK_n ?_|refine blockK_r ?_|refine LoopK_e ?_|refine LoopK_r ?_|refine LoopX_r ?_|refine W_skip ?_|refine W_exit ?_|refine W_ret ?_|refine W_region (WOps_WR ?_)|refine W_draw (WOpsD_WR ?_)|refine WR_nil ?_|refine q_and ?_ ?_|exact True.intro|assumption|refine blockK_e rfl ?_|refine blockK_o (by decide) ?_|refine LoopX_e (by decide) ?_)
    |((with_reducible apply q_call);first|refine X_call [0] (hN) rfl rfl rfl rfl rfl rfl rfl rfl rfl rfl rfl rfl rfl ?_|refine X_call [0] (h1) rfl rfl rfl rfl rfl rfl rfl rfl rfl rfl rfl rfl rfl ?_|refine X_call [0] (h2) rfl rfl rfl rfl rfl rfl rfl rfl rfl rfl rfl rfl rfl ?_|refine X_call [0] (h3) rfl rfl rfl rfl rfl rfl rfl rfl rfl rfl rfl rfl rfl ?_|refine X_call [0] (h4) rfl rfl rfl rfl rfl rfl rfl rfl rfl rfl rfl rfl rfl ?_)
    |((with_reducible apply q_WR);first|refine X_run rfl ?_ ?_|refine WR_nilD (by kernel_rfl) ?_)
    |((with_reducible apply q_cond);refine X_cond rfl ?_ ?_;all_goals (intro hbq;(try simp only [bq] at hbq);(try (exfalso;omega))))
    |((with_reducible apply q_ret);refine X_ret tabOk trivial rfl rfl ?_ ?_)
    |((with_reducible apply q_retP);refine X_retP tabOk trivial rfl rfl ?_ ?_)
    |(intro (hgq : (_ : Bool) = true);(try simp only [bq] at hgq))
    |(intro (hgq : (_ : Bool) = false);(try simp only [bq] at hgq))
    |((with_reducible apply q_VOk);exact fun _ => ⟨rfl,rfl⟩)
    |(intro _;exact rfl)
    |((with_reducible apply q_bt);simp only [bq])
    |((with_reducible apply q_eqN);rfl)
    |with_reducible exact isByte_wrap _
    |with_reducible exact isByte_nat _
    |(simp only [hgq,bq];done)
    |omega)
  ·
    refine LoopK_n (i + 1) ?_ ?_ ?_
    rotate_left
    · (try dsimp only); omega
    · (try dsimp only); omega
    refine X_weak rfl rfl rfl ?_ ?_ <;> repeat' (first|with_reducible (first|exact q_AgS0|exact HLe.nil _|refine HLe.none ?_|refine HLe.cells ?_ ?_|refine HLe.els ?_ ?_|exact SLe.nil|refine SLe.cons ?_ ?_|exact ELe.refl _|refine ELe.c rfl ?_|exact CLe.refl _|exact CLe.nil_row|exact CLe.nil_rowS|exact CLe.nil_tip|exact CLe.nil_tipS|exact CLe.int (by omega)|refine CLe.tip ?_ ?_|refine CLe.tip_row ?_ ?_|refine CLe.row ?_ ?_|refine CLe.tipr_row ?_|refine CLe.rows ?_|refine CLe.tips ?_|refine CLe.int ?_|refine CLe.bool ?_|refine CLe.str ?_|refine CLe.arr ?_ ?_)|refine q_AgS rfl ?_ ?_|exact CLe.nil_tipS|exact CLe.nil_rowS|refine HLe.cells ?_ ?_|refine HLe.els ?_ ?_|refine SLe.cons ?_ ?_|with_reducible rfl|omega)
    all_goals (simp [loopN, Cur.stepS, ex, fSec, fS, fI]; done)
  have hie : i = ((c.af 1).af 1).n 1 := by omega
  subst hie
  obtain ⟨C, eC⟩ : ∃ C, loopN Cur.stepS B.2 (((c.af 1).af 1).n 1) = C := ⟨_, rfl⟩
  rw [eC] at ex ⊢
  rw [← ex] at hck ⊢
  clear hN hL h1 h2 h3 h4 p1 p2 p3 p4 m0 m00 m1 m2
  refine W_loopS (fun i : Nat => SS (sI 62 ((((c.af 1).af 1).af 1).n 1) :: sI 63 i :: slC) [some (loopN Cur.stepL C.2 i).2.box, some nil4, some (.cells [tStr A.1, tStr B.1, tSec C.1, tLnk (loopN Cur.stepL C.2 i).1])]) (fun i => i ≤ (((c.af 1).af 1).af 1).n 1) (fun i => (((c.af 1).af 1).af 1).n 1 - i) 0 ?_ (by omega) ?_
  ·
    refine X_weak rfl rfl rfl ?_ ?_ <;> repeat' (first|with_reducible (first|exact q_AgS0|exact HLe.nil _|refine HLe.none ?_|refine HLe.cells ?_ ?_|refine HLe.els ?_ ?_|exact SLe.nil|refine SLe.cons ?_ ?_|exact ELe.refl _|refine ELe.c rfl ?_|exact CLe.refl _|exact CLe.nil_row|exact CLe.nil_rowS|exact CLe.nil_tip|exact CLe.nil_tipS|exact CLe.int (by omega)|refine CLe.tip ?_ ?_|refine CLe.tip_row ?_ ?_|refine CLe.row ?_ ?_|refine CLe.tipr_row ?_|refine CLe.rows ?_|refine CLe.tips ?_|refine CLe.int ?_|refine CLe.bool ?_|refine CLe.str ?_|refine CLe.arr ?_ ?_)|refine q_AgS rfl ?_ ?_|exact CLe.nil_tipS|exact CLe.nil_rowS|refine HLe.cells ?_ ?_|refine HLe.els ?_ ?_|refine SLe.cons ?_ ?_|with_reducible rfl|omega)
    all_goals rfl
  clear hbq hi
  intro i hi
  have hcl := loopN_ok stepL_ok hck i
  have hL := loopN_len Cur.stepL C.2 i
  obtain ⟨y, ey⟩ : ∃ y, (loopN Cur.stepL C.2 i).2 = y := ⟨_, rfl⟩
  rw [ey] at hcl ⊢
  have m3 := y.n1
  have m4 := (y.af 1).n1
  have m5 := ((y.af 1).af 1).n1
  have m6 := (((y.af 1).af 1).af 1).n1
  have p1 := Cur.af_ok hcl 1
  have p2 := Cur.af_ok p1 1
  have p3 := Cur.af_ok p2 1
  have h1 := num_ok _ 1 hcl (by omega)
  have h2 := num_ok _ 1 p1 (by omega)
  have h3 := num_ok _ 1 p2 (by omega)
  have h4 := num_ok _ 1 p3 (by omega)
  repeat' (first
    |with_reducible (first|refine WR_pp ?_|refine WR_pd ?_|refine W_seq ?_|refine seqK_n ?_|refine seqK_r ?_|refine seqK_e ?_|refine W_block ?_|refine blockK_n ?_|refine blockK_r ?_|refine LoopK_e ?_|refine LoopK_r ?_|refine LoopX_r ?_|refine W_skip ?_|refine W_exit ?_|refine W_ret ?_|refine W_region (WOps_WR ?_)|refine W_draw (WOpsD_WR ?_)|refine WR_nil ?_|refine q_and ?_ ?_|exact True.intro|assumption|refine blockK_e rfl ?_|refine blockK_o (by decide) ?_|refine LoopX_e (by decide) ?_)
    |((with_reducible apply q_call);first|refine X_call [0] (h1) rfl rfl rfl rfl rfl rfl rfl rfl rfl rfl rfl rfl rfl ?_|refine X_call [0] (h2) rfl rfl rfl rfl rfl rfl rfl rfl rfl rfl rfl rfl rfl ?_|refine X_call [0] (h3) rfl rfl rfl rfl rfl rfl rfl rfl rfl rfl rfl rfl rfl ?_|refine X_call [0] (h4) rfl rfl rfl rfl rfl rfl rfl rfl rfl rfl rfl rfl rfl ?_)
    |((with_reducible apply q_WR);first|refine X_run rfl ?_ ?_|refine WR_nilD (by kernel_rfl) ?_)
    |((with_reducible apply q_cond);refine X_cond rfl ?_ ?_;all_goals (intro hbq;(try simp only [bq] at hbq);(try (exfalso;omega))))
    |((with_reducible apply q_ret);refine X_ret tabOk trivial rfl rfl ?_ ?_)
    |((with_reducible apply q_retP);refine X_retP tabOk trivial rfl rfl ?_ ?_)
    |(intro (hgq : (_ : Bool) = true);(try simp only [bq] at hgq))
    |(intro (hgq : (_ : Bool) = false);(try simp only [bq] at hgq))
    |((with_reducible apply q_VOk);exact fun _ => ⟨rfl,rfl⟩)
    |(intro _;exact rfl)
    |((with_reducible apply q_bt);simp only [bq])
    |((with_reducible apply q_eqN);rfl)
    |with_reducible exact isByte_wrap _
    |with_reducible exact isByte_nat _
    |(simp only [hgq,bq];done)
    |omega)
  ·
    refine LoopK_n (i + 1) ?_ ?_ ?_
    rotate_left
    · (try dsimp only); omega
    · (try dsimp only); omega
    refine X_weak rfl rfl rfl ?_ ?_ <;> repeat' (first|with_reducible (first|exact q_AgS0|exact HLe.nil _|refine HLe.none ?_|refine HLe.cells ?_ ?_|refine HLe.els ?_ ?_|exact SLe.nil|refine SLe.cons ?_ ?_|exact ELe.refl _|refine ELe.c rfl ?_|exact CLe.refl _|exact CLe.nil_row|exact CLe.nil_rowS|exact CLe.nil_tip|exact CLe.nil_tipS|exact CLe.int (by omega)|refine CLe.tip ?_ ?_|refine CLe.tip_row ?_ ?_|refine CLe.row ?_ ?_|refine CLe.tipr_row ?_|refine CLe.rows ?_|refine CLe.tips ?_|refine CLe.int ?_|refine CLe.bool ?_|refine CLe.str ?_|refine CLe.arr ?_ ?_)|refine q_AgS rfl ?_ ?_|exact CLe.nil_tipS|exact CLe.nil_rowS|refine HLe.cells ?_ ?_|refine HLe.els ?_ ?_|refine SLe.cons ?_ ?_|with_reducible rfl|omega)
    all_goals (simp [loopN, Cur.stepL, ey, fLnk, fI]; done)
  all_goals (have hie : i = (((c.af 1).af 1).af 1).n 1 := by omega)
  all_goals subst hie
  all_goals (have hl : c.lay = (⟨A.1, B.1, C.1, (loopN Cur.stepL C.2 ((((c.af 1).af 1).af 1).n 1)).1⟩, (loopN Cur.stepL C.2 ((((c.af 1).af 1).af 1).n 1)).2) := by simp only [Cur.lay, e4, eA, eB, eC])
  all_goals rw [hl]
  ·
    repeat' (first|with_reducible (first|exact TkEq.nil _|refine TkEq.none ?_|refine TkEq.cells ?_ ?_|refine TkEq.els ?_ ?_|exact SEqL.nil|refine SEqL.cons ?_ ?_|exact TEqL.nil|refine TEqL.c ?_ ?_|refine TEqL.agg ?_ ?_|exact CEq.refl _|refine CEq.int ?_|refine CEq.bool ?_|refine CEq.str ?_|refine CEq.rows ?_|refine CEq.row ?_ ?_|refine CEq.tips ?_|refine CEq.tip ?_ ?_|refine CEq.raw ?_ ?_|refine CEq.arr ?_ ?_)|refine VEq.c ?_|refine VEq.agg ?_|refine VEq.tup ?_|refine TkEq.cells ?_ ?_|refine TkEq.els ?_ ?_|refine SEqL.cons ?_ ?_|refine TEqL.agg ?_ ?_|refine CEq.rows ?_|refine CEq.int ?_|rfl|omega)
  · rw [← ey]
    repeat' (first|with_reducible (first|exact TkEq.nil _|refine TkEq.none ?_|refine TkEq.cells ?_ ?_|refine TkEq.els ?_ ?_|exact SEqL.nil|refine SEqL.cons ?_ ?_|exact TEqL.nil|refine TEqL.c ?_ ?_|refine TEqL.agg ?_ ?_|exact CEq.refl _|refine CEq.int ?_|refine CEq.bool ?_|refine CEq.str ?_|refine CEq.rows ?_|refine CEq.row ?_ ?_|refine CEq.tips ?_|refine CEq.tip ?_ ?_|refine CEq.raw ?_ ?_|refine CEq.arr ?_ ?_)|refine VEq.c ?_|refine VEq.agg ?_|refine VEq.tup ?_|refine TkEq.cells ?_ ?_|refine TkEq.els ?_ ?_|refine SEqL.cons ?_ ?_|refine TEqL.agg ?_ ?_|refine CEq.rows ?_|refine CEq.int ?_|rfl|omega)
end Go.Proofs.Ythnfliopmjpdmaa.Av
/- The reader of the reference: it reads as the cursor does. -/
namespace Go.Proofs.Ythnfliopmjpdmaa.Av
set_option linter.unusedVariables false
set_option linter.unusedSimpArgs false
set_option maxRecDepth 4000
set_option maxHeartbeats 4000000

theorem leNum_add (b : ByteArray) (i : Nat) : leNum b (i + 1) = leNum b i + (b.data.getD i 0).toNat * 2 ^ (8 * i) := by
  simp only [leNum]
  rw [Nat.or_comm, ← Nat.shiftLeft_add_eq_or_of_lt (leNum_lt b i), Nat.shiftLeft_eq, Nat.add_comm]
/-- The number of the highest j of n bytes, from k on. -/
def hiNum (b : ByteArray) (k n : Nat) : Nat → Nat
  | 0 => 0
  | j + 1 => hiNum b k n j * 256 + (b.data.getD (k + (n - 1 - j)) 0).toNat
theorem hiNum_lt (b : ByteArray) (k n : Nat) : ∀ j, hiNum b k n j < 2 ^ (8 * j)
  | 0 => by simp [hiNum]
  | j + 1 => by
    have h1 := hiNum_lt b k n j
    have h2 : (b.data.getD (k + (n - 1 - j)) 0).toNat < 256 := UInt8.toNat_lt _
    simp only [hiNum]
    rw [show 8 * (j + 1) = 8 * j + 8 by omega, Nat.pow_add]
    omega
theorem hi_le (b x : ByteArray) (k n : Nat) (hx : ∀ i, i < n → x.data.getD i 0 = b.data.getD (k + i) 0) : ∀ j, j ≤ n → leNum x n = hiNum b k n j * 2 ^ (8 * (n - j)) + leNum x (n - j)
  | 0, _ => by simp [hiNum]
  | j + 1, h => by
    rw [hi_le b x k n hx j (by omega)]
    have e : n - j = (n - (j + 1)) + 1 := by omega
    rw [e, leNum_add, hx _ (by omega), show n - (j + 1) = n - 1 - j by omega]
    simp only [hiNum]
    rw [show 8 * (n - 1 - j + 1) = 8 + 8 * (n - 1 - j) by omega, Nat.pow_add, Nat.add_mul, Nat.mul_assoc, show (2 : Nat) ^ 8 = 256 from rfl]
    omega
theorem hi_all (b x : ByteArray) (k n : Nat) (hx : ∀ i, i < n → x.data.getD i 0 = b.data.getD (k + i) 0) : hiNum b k n n = leNum x n := by
  have := hi_le b x k n hx n (Nat.le_refl _)
  simp [leNum] at this
  exact this.symm
theorem extract_at (b : ByteArray) (k m i : Nat) (h : m ≤ b.size) (hi : k + i < m) : (b.extract k m).data.getD i 0 = b.data.getD (k + i) 0 := by
  have h1 : (b.extract k m).data = b.data.extract k m := by simp [ByteArray.data_extract]
  rw [h1, Array.getD_eq_getD_getElem?, Array.getD_eq_getD_getElem?, Array.getElem?_extract]
  have h2 : b.data.size = b.size := rfl
  rw [if_pos (by rw [h2]; omega)]
theorem hi_step (b : ByteArray) (k n j : Nat) (hj : j < n) (hn : n ≤ 4) : IntKind.i64.wrap (((BitVec.ofInt IntKind.i64.bits (IntKind.i64.wrap ((hiNum b k n j : Int) * 2 ^ min (8 : Int).toNat IntKind.i64.bits)) ||| BitVec.ofInt IntKind.i64.bits (((b.data.getD (k + (n - 1 - j)) 0).toNat : Nat) : Int)).toNat : Nat) : Int) = (hiNum b k n (j + 1) : Int) := by
  have hx : (b.data.getD (k + (n - 1 - j)) 0).toNat < 256 := UInt8.toNat_lt _
  have h1 := hiNum_lt b k n j
  have h2 : (2 : Nat) ^ (8 * j) ≤ 2 ^ 24 := Nat.pow_le_pow_right (by omega) (by omega)
  have e1 : (hiNum b k n j : Int) * 2 ^ min (8 : Int).toNat IntKind.i64.bits = ((hiNum b k n j * 256 : Nat) : Int) := by
    have : min (8 : Int).toNat IntKind.i64.bits = 8 := rfl
    rw [this]; simp
  rw [e1, wrap64 (n := ((hiNum b k n j * 256 : Nat) : Int)) (by omega) (by omega)]
  have := or64 (hiNum b k n j * 256) ((b.data.getD (k + (n - 1 - j)) 0).toNat) (by omega) (by omega)
  refine this.trans ?_
  simp only [hiNum]
  congr 1
  have e : hiNum b k n j * 256 = hiNum b k n j <<< 8 := by rw [Nat.shiftLeft_eq]
  rw [e, Nat.shiftLeft_add_eq_or_of_lt (by simpa using hx)]
theorem rd_number (c : Cur) (n : Nat) (hc : c.ok) (hn : n ≤ 4) : OkV Try.prog 50 [.c (pB 0), vI n] [some c.box] (vI (c.n n)) [some (c.af n).box] := by
  obtain ⟨code, pos, short⟩ := c
  obtain ⟨h1, h2⟩ := hc
  simp only at h1 h2
  unfold Cur.n Cur.af Cur.bytes Cur.box
  dsimp only
  refine X_fn mixedX Try.func50 rfl (by kernel_rfl) (Nat.le_of_ble_eq_true (by kernel_rfl)) (by kernel_rfl) rfl rfl (Nat.le_of_ble_eq_true rfl) rfl rfl ?_
  simp only [sl0, Nat.zero_add, Nat.reduceAdd]
  repeat' (first
    |with_reducible (first|refine WR_pp ?_|refine WR_pd ?_|refine W_seq ?_|refine seqK_n ?_|refine seqK_r ?_|refine seqK_e ?_|refine W_block ?_|refine blockK_n ?_|refine blockK_r ?_|refine LoopK_e ?_|refine LoopK_r ?_|refine LoopX_r ?_|refine W_skip ?_|refine W_exit ?_|refine W_ret ?_|refine W_region (WOps_WR ?_)|refine W_draw (WOpsD_WR ?_)|refine WR_nil ?_|refine q_and ?_ ?_|exact True.intro|assumption|refine blockK_e rfl ?_|refine blockK_o (by decide) ?_|refine LoopX_e (by decide) ?_)
    |((with_reducible apply q_WR);first|refine X_run rfl ?_ ?_|refine WR_nilD (by kernel_rfl) ?_)
    |((with_reducible apply q_cond);refine X_cond rfl ?_ ?_;all_goals (intro hbq;(try simp only [bq] at hbq);(try (exfalso;omega))))
    |((with_reducible apply q_ret);refine X_ret tabOk trivial rfl rfl ?_ ?_)
    |((with_reducible apply q_retP);refine X_retP tabOk trivial rfl rfl ?_ ?_)
    |(intro (hgq : (_ : Bool) = true);(try simp only [bq] at hgq))
    |(intro (hgq : (_ : Bool) = false);(try simp only [bq] at hgq))
    |((with_reducible apply q_VOk);exact fun _ => ⟨rfl,rfl⟩)
    |(intro _;exact rfl)
    |((with_reducible apply q_bt);simp only [bq])
    |((with_reducible apply q_eqN);rfl)
    |with_reducible exact isByte_wrap _
    |with_reducible exact isByte_nat _
    |(simp only [hgq,bq];done)
    |omega)
  · rw [if_pos (hbq.imp id (fun h => by omega))]
    repeat' (first|with_reducible (first|exact TkEq.nil _|refine TkEq.none ?_|refine TkEq.cells ?_ ?_|refine TkEq.els ?_ ?_|exact SEqL.nil|refine SEqL.cons ?_ ?_|exact TEqL.nil|refine TEqL.c ?_ ?_|refine TEqL.agg ?_ ?_|exact CEq.refl _|refine CEq.int ?_|refine CEq.bool ?_|refine CEq.str ?_|refine CEq.rows ?_|refine CEq.row ?_ ?_|refine CEq.tips ?_|refine CEq.tip ?_ ?_|refine CEq.raw ?_ ?_|refine CEq.arr ?_ ?_)|refine VEq.c ?_|refine VEq.agg ?_|refine VEq.tup ?_|refine TkEq.cells ?_ ?_|refine TkEq.els ?_ ?_|refine SEqL.cons ?_ ?_|refine TEqL.agg ?_ ?_|refine CEq.rows ?_|refine CEq.int ?_|rfl|omega)
  · rw [if_pos (hbq.imp id (fun h => by omega))]
    repeat' (first|with_reducible (first|exact TkEq.nil _|refine TkEq.none ?_|refine TkEq.cells ?_ ?_|refine TkEq.els ?_ ?_|exact SEqL.nil|refine SEqL.cons ?_ ?_|exact TEqL.nil|refine TEqL.c ?_ ?_|refine TEqL.agg ?_ ?_|exact CEq.refl _|refine CEq.int ?_|refine CEq.bool ?_|refine CEq.str ?_|refine CEq.rows ?_|refine CEq.row ?_ ?_|refine CEq.tips ?_|refine CEq.tip ?_ ?_|refine CEq.raw ?_ ?_|refine CEq.arr ?_ ?_)|refine VEq.c ?_|refine VEq.agg ?_|refine VEq.tup ?_|refine TkEq.cells ?_ ?_|refine TkEq.els ?_ ?_|refine SEqL.cons ?_ ?_|refine TEqL.agg ?_ ?_|refine CEq.rows ?_|refine CEq.int ?_|rfl|omega)
  have hno : ¬ (short = true ∨ code.size < pos + n) := by rintro (h | h); rw [hbq.1] at h; cases h; omega
  rw [if_neg hno]
  dsimp only
  refine W_loopS (fun j : Nat => SS [sC 0 (pB 0), sI 1 n, sI 5 (hiNum code pos n j), sI 6 ((n : Int) - 1 - j)] [some (.cells [xS code, xI pos, xB short])]) (fun j => j ≤ n) (fun j => n - j) 0 ?_ (by omega) ?_
  ·
    refine X_weak rfl rfl rfl ?_ ?_ <;> repeat' (first|with_reducible (first|exact q_AgS0|exact HLe.nil _|refine HLe.none ?_|refine HLe.cells ?_ ?_|refine HLe.els ?_ ?_|exact SLe.nil|refine SLe.cons ?_ ?_|exact ELe.refl _|refine ELe.c rfl ?_|exact CLe.refl _|exact CLe.nil_row|exact CLe.nil_rowS|exact CLe.nil_tip|exact CLe.nil_tipS|exact CLe.int (by omega)|refine CLe.tip ?_ ?_|refine CLe.tip_row ?_ ?_|refine CLe.row ?_ ?_|refine CLe.tipr_row ?_|refine CLe.rows ?_|refine CLe.tips ?_|refine CLe.int ?_|refine CLe.bool ?_|refine CLe.str ?_|refine CLe.arr ?_ ?_)|refine q_AgS rfl ?_ ?_|exact CLe.nil_tipS|exact CLe.nil_rowS|refine HLe.cells ?_ ?_|refine HLe.els ?_ ?_|refine SLe.cons ?_ ?_|with_reducible rfl|omega)
    all_goals rfl
  · intro j hj
    have hx : (code.data.getD ((pos : Int) + ((n : Int) - 1 - j)).toNat 0).toNat < 256 := UInt8.toNat_lt _
    repeat' (first
      |with_reducible (first|refine WR_pp ?_|refine WR_pd ?_|refine W_seq ?_|refine seqK_n ?_|refine seqK_r ?_|refine seqK_e ?_|refine W_block ?_|refine blockK_n ?_|refine blockK_r ?_|refine LoopK_e ?_|refine LoopK_r ?_|refine LoopX_r ?_|refine W_skip ?_|refine W_exit ?_|refine W_ret ?_|refine W_region (WOps_WR ?_)|refine W_draw (WOpsD_WR ?_)|refine WR_nil ?_|refine q_and ?_ ?_|exact True.intro|assumption|refine blockK_e rfl ?_|refine blockK_o (by decide) ?_|refine LoopX_e (by decide) ?_)
      |((with_reducible apply q_WR);first|refine X_run rfl ?_ ?_|refine WR_nilD (by kernel_rfl) ?_)
      |((with_reducible apply q_cond);refine X_cond rfl ?_ ?_;all_goals (intro hbq;(try simp only [bq] at hbq);(try (exfalso;omega))))
      |((with_reducible apply q_ret);refine X_ret tabOk trivial rfl rfl ?_ ?_)
      |((with_reducible apply q_retP);refine X_retP tabOk trivial rfl rfl ?_ ?_)
      |(intro (hgq : (_ : Bool) = true);(try simp only [bq] at hgq))
      |(intro (hgq : (_ : Bool) = false);(try simp only [bq] at hgq))
      |((with_reducible apply q_VOk);exact fun _ => ⟨rfl,rfl⟩)
      |(intro _;exact rfl)
      |((with_reducible apply q_bt);simp only [bq])
      |((with_reducible apply q_eqN);rfl)
      |with_reducible exact isByte_wrap _
      |with_reducible exact isByte_nat _
      |(simp only [hgq,bq];done)
      |omega)
    ·
      refine LoopK_n (j + 1) ?_ ?_ ?_
      rotate_left
      · (try dsimp only); omega
      · (try dsimp only); omega
      refine X_weak rfl rfl rfl ?_ ?_ <;> repeat' (first|with_reducible (first|exact q_AgS0|exact HLe.nil _|refine HLe.none ?_|refine HLe.cells ?_ ?_|refine HLe.els ?_ ?_|exact SLe.nil|refine SLe.cons ?_ ?_|exact ELe.refl _|refine ELe.c rfl ?_|exact CLe.refl _|exact CLe.nil_row|exact CLe.nil_rowS|exact CLe.nil_tip|exact CLe.nil_tipS|exact CLe.int (by omega)|refine CLe.tip ?_ ?_|refine CLe.tip_row ?_ ?_|refine CLe.row ?_ ?_|refine CLe.tipr_row ?_|refine CLe.rows ?_|refine CLe.tips ?_|refine CLe.int ?_|refine CLe.bool ?_|refine CLe.str ?_|refine CLe.arr ?_ ?_)|refine q_AgS rfl ?_ ?_|exact CLe.nil_tipS|exact CLe.nil_rowS|refine HLe.cells ?_ ?_|refine HLe.els ?_ ?_|refine SLe.cons ?_ ?_|with_reducible rfl|omega)
      rw [show ((pos : Int) + ((n : Int) - 1 - j)).toNat = pos + (n - 1 - j) by omega, hi_step code pos n j (by omega) hn]
    all_goals (have hje : j = n := by omega)
    all_goals subst hje
    · rw [hi_all code (code.extract pos (pos + j)) pos j (fun i hi => extract_at _ _ _ _ (by omega) (by omega)), show (code.extract pos (pos + j)).size = j by simp; omega]
      repeat' (first|with_reducible (first|exact TkEq.nil _|refine TkEq.none ?_|refine TkEq.cells ?_ ?_|refine TkEq.els ?_ ?_|exact SEqL.nil|refine SEqL.cons ?_ ?_|exact TEqL.nil|refine TEqL.c ?_ ?_|refine TEqL.agg ?_ ?_|exact CEq.refl _|refine CEq.int ?_|refine CEq.bool ?_|refine CEq.str ?_|refine CEq.rows ?_|refine CEq.row ?_ ?_|refine CEq.tips ?_|refine CEq.tip ?_ ?_|refine CEq.raw ?_ ?_|refine CEq.arr ?_ ?_)|refine VEq.c ?_|refine VEq.agg ?_|refine VEq.tup ?_|refine TkEq.cells ?_ ?_|refine TkEq.els ?_ ?_|refine SEqL.cons ?_ ?_|refine TEqL.agg ?_ ?_|refine CEq.rows ?_|refine CEq.int ?_|rfl|omega)
    ·
      repeat' (first|with_reducible (first|exact TkEq.nil _|refine TkEq.none ?_|refine TkEq.cells ?_ ?_|refine TkEq.els ?_ ?_|exact SEqL.nil|refine SEqL.cons ?_ ?_|exact TEqL.nil|refine TEqL.c ?_ ?_|refine TEqL.agg ?_ ?_|exact CEq.refl _|refine CEq.int ?_|refine CEq.bool ?_|refine CEq.str ?_|refine CEq.rows ?_|refine CEq.row ?_ ?_|refine CEq.tips ?_|refine CEq.tip ?_ ?_|refine CEq.raw ?_ ?_|refine CEq.arr ?_ ?_)|refine VEq.c ?_|refine VEq.agg ?_|refine VEq.tup ?_|refine TkEq.cells ?_ ?_|refine TkEq.els ?_ ?_|refine SEqL.cons ?_ ?_|refine TEqL.agg ?_ ?_|refine CEq.rows ?_|refine CEq.int ?_|rfl|omega)
theorem name_bad (code : ByteArray) (pos : Nat) (short : Bool) (h1 : pos ≤ code.size) (h : short = true ∨ code.size ≤ pos ∨ code.size < pos + 1 + (code.data.getD pos 0).toNat) : (Cur.mk code pos short).nm = ⟨#[]⟩ ∧ (Cur.mk code pos short).afn = ⟨code, pos, true⟩ := by
  unfold Cur.nm Cur.afn Cur.name
  simp only
  by_cases hh : short = true ∨ pos = code.size
  · rw [if_pos hh]; exact ⟨rfl, rfl⟩
  · rw [if_neg hh]
    have hb : (Cur.mk code pos short).bytes (1 + (code.data.getD pos 0).toNat) = (⟨#[]⟩, ⟨code, pos, true⟩) := by
      unfold Cur.bytes
      rw [if_pos]
      simp only
      rcases h with h | h | h
      · exact .inl h
      · exact absurd (.inr (by omega)) hh
      · exact .inr (by omega)
    rw [hb]
    exact ⟨rfl, rfl⟩
theorem name_good (code : ByteArray) (pos : Nat) (short : Bool) (hs : short = false) (h2 : pos + 1 + (code.data.getD pos 0).toNat ≤ code.size) : (Cur.mk code pos short).nm = code.extract (pos + 1) (pos + 1 + (code.data.getD pos 0).toNat) ∧ (Cur.mk code pos short).afn = ⟨code, pos + 1 + (code.data.getD pos 0).toNat, false⟩ := by
  subst hs
  unfold Cur.nm Cur.afn Cur.name
  simp only
  revert h2
  generalize (code.data.getD pos 0).toNat = q
  intro h2
  rw [if_neg (by simp; omega)]
  have hb : (Cur.mk code pos false).bytes (1 + q) = (code.extract pos (pos + 1 + q), ⟨code, pos + 1 + q, false⟩) := by
    unfold Cur.bytes
    rw [if_neg (by simp; omega)]
    simp only [Nat.add_assoc]
  rw [hb]
  refine ⟨?_, rfl⟩
  simp only [Bool.false_eq_true, if_false]
  rw [ByteArray.extract_extract]
  congr 1
  simp
  omega
theorem rd_name (c : Cur) (hc : c.ok) : OkV Try.prog 51 [.c (pB 0)] [some c.box] (vS c.nm) [some c.afn.box] := by
  obtain ⟨code, pos, short⟩ := c
  obtain ⟨h1, h2⟩ := hc
  simp only at h1 h2
  have hx : (code.data.getD (pos : Int).toNat 0).toNat < 256 := UInt8.toNat_lt _
  have hbad := name_bad code pos short h1
  have hgood := name_good code pos short
  rw [show code.data.getD pos 0 = code.data.getD (pos : Int).toNat 0 from rfl] at hbad hgood
  revert hbad hgood
  generalize (Cur.mk code pos short).nm = N
  generalize (Cur.mk code pos short).afn = C
  intro hbad hgood
  unfold Cur.box
  dsimp only
  refine X_fn mixedX Try.func51 rfl (by kernel_rfl) (Nat.le_of_ble_eq_true (by kernel_rfl)) (by kernel_rfl) rfl rfl (Nat.le_of_ble_eq_true rfl) rfl rfl ?_
  simp only [sl0, Nat.zero_add, Nat.reduceAdd]
  repeat' (first
    |with_reducible (first|refine WR_pp ?_|refine WR_pd ?_|refine W_seq ?_|refine seqK_n ?_|refine seqK_r ?_|refine seqK_e ?_|refine W_block ?_|refine blockK_n ?_|refine blockK_r ?_|refine LoopK_e ?_|refine LoopK_r ?_|refine LoopX_r ?_|refine W_skip ?_|refine W_exit ?_|refine W_ret ?_|refine W_region (WOps_WR ?_)|refine W_draw (WOpsD_WR ?_)|refine WR_nil ?_|refine q_and ?_ ?_|exact True.intro|assumption|refine blockK_e rfl ?_|refine blockK_o (by decide) ?_|refine LoopX_e (by decide) ?_)
    |((with_reducible apply q_WR);first|refine X_run rfl ?_ ?_|refine WR_nilD (by kernel_rfl) ?_)
    |((with_reducible apply q_cond);refine X_cond rfl ?_ ?_;all_goals (intro hbq;(try simp only [bq] at hbq);(try (exfalso;omega))))
    |((with_reducible apply q_ret);refine X_ret tabOk trivial rfl rfl ?_ ?_)
    |((with_reducible apply q_retP);refine X_retP tabOk trivial rfl rfl ?_ ?_)
    |(intro (hgq : (_ : Bool) = true);(try simp only [bq] at hgq))
    |(intro (hgq : (_ : Bool) = false);(try simp only [bq] at hgq))
    |((with_reducible apply q_VOk);exact fun _ => ⟨rfl,rfl⟩)
    |(intro _;exact rfl)
    |((with_reducible apply q_bt);simp only [bq])
    |((with_reducible apply q_eqN);rfl)
    |with_reducible exact isByte_wrap _
    |with_reducible exact isByte_nat _
    |(simp only [hgq,bq];done)
    |omega)
  iterate 2
    · obtain ⟨rfl, rfl⟩ := hbad (by
        rcases hbq with (h | h) | h
        · exact .inl h
        · exact .inr (.inl (by omega))
        · exact .inr (.inr (by omega)))
      repeat' (first|with_reducible (first|exact TkEq.nil _|refine TkEq.none ?_|refine TkEq.cells ?_ ?_|refine TkEq.els ?_ ?_|exact SEqL.nil|refine SEqL.cons ?_ ?_|exact TEqL.nil|refine TEqL.c ?_ ?_|refine TEqL.agg ?_ ?_|exact CEq.refl _|refine CEq.int ?_|refine CEq.bool ?_|refine CEq.str ?_|refine CEq.rows ?_|refine CEq.row ?_ ?_|refine CEq.tips ?_|refine CEq.tip ?_ ?_|refine CEq.raw ?_ ?_|refine CEq.arr ?_ ?_)|refine VEq.c ?_|refine VEq.agg ?_|refine VEq.tup ?_|refine TkEq.cells ?_ ?_|refine TkEq.els ?_ ?_|refine SEqL.cons ?_ ?_|refine TEqL.agg ?_ ?_|refine CEq.rows ?_|refine CEq.int ?_|rfl|omega)
  iterate 2
    · obtain ⟨⟨q1, q2⟩, q3⟩ := hbq
      obtain ⟨rfl, rfl⟩ := hgood q1 (by omega)
      try rw [show ((pos : Int) + 1).toNat = pos + 1 by omega, show ((pos : Int) + 1 + ((code.data.getD (pos : Int).toNat 0).toNat : Int)).toNat = pos + 1 + (code.data.getD (pos : Int).toNat 0).toNat by omega]
      try subst q1
      repeat' (first|with_reducible (first|exact TkEq.nil _|refine TkEq.none ?_|refine TkEq.cells ?_ ?_|refine TkEq.els ?_ ?_|exact SEqL.nil|refine SEqL.cons ?_ ?_|exact TEqL.nil|refine TEqL.c ?_ ?_|refine TEqL.agg ?_ ?_|exact CEq.refl _|refine CEq.int ?_|refine CEq.bool ?_|refine CEq.str ?_|refine CEq.rows ?_|refine CEq.row ?_ ?_|refine CEq.tips ?_|refine CEq.tip ?_ ?_|refine CEq.raw ?_ ?_|refine CEq.arr ?_ ?_)|refine VEq.c ?_|refine VEq.agg ?_|refine VEq.tup ?_|refine TkEq.cells ?_ ?_|refine TkEq.els ?_ ?_|refine SEqL.cons ?_ ?_|refine TEqL.agg ?_ ?_|refine CEq.rows ?_|refine CEq.int ?_|rfl|omega)
      all_goals (try (dsimp only; omega))
end Go.Proofs.Ythnfliopmjpdmaa.Av
/- Decode of the program. -/
namespace Go.Proofs.Ythnfliopmjpdmaa.Av
set_option linter.unusedVariables false
set_option linter.unusedSimpArgs false
set_option maxRecDepth 4000
set_option maxHeartbeats 4000000

def emptyL : Lay := ⟨[], [], [], []⟩
def rpl : ByteArray := ⟨#[82, 80, 76, 49]⟩
def Cur.of (s : ByteArray) : Cur := ⟨s, 0, false⟩
def decOf (s m : ByteArray) (c1 c2 c3 : Cur) (q z : Nat) (L : Lay) : Lay × Int × Int :=
  if c1.short = false ∧ (m.toList == rpl.toList) = false then (emptyL, 0, 2) else
  if c3.short = true then (emptyL, c3.pos, 10) else
  if q ≠ z then (emptyL, c2.pos, 9) else
  if c3.pos < s.size then (emptyL, c3.pos, 2) else
  if layErr L ≠ 0 then (emptyL, 0, layErr L) else (L, 0, 0)
def decode (s : ByteArray) : Lay × Int × Int :=
  decOf s ((Cur.of s).bytes 4).1 ((Cur.of s).af 4) ((Cur.of s).af 4).lay.2 (((Cur.of s).af 4).lay.2.af 4) (((Cur.of s).af 4).lay.2.n 4) (Pl.crc (s.extract 0 ((Cur.of s).af 4).lay.2.pos).data.toList) ((Cur.of s).af 4).lay.1
def vDec (x : Lay × Int × Int) : SV := .tup [.agg [rStr x.1.sts, rStr x.1.pts, rSec x.1.secs, rLnk x.1.lnks], .c (xI x.2.1), .c (xI x.2.2)]

theorem loopN_all {σ α : Type} {step : σ → α × σ} (p : σ → Prop) (q : α → Prop) (hs : ∀ c, p c → p (step c).2 ∧ q (step c).1) {c : σ} (hc : p c) : ∀ i, p (loopN step c i).2 ∧ ∀ x ∈ (loopN step c i).1, q x
  | 0 => ⟨hc, fun x hx => by cases hx⟩
  | i + 1 => by
    obtain ⟨h1, h2⟩ := loopN_all p q hs hc i
    obtain ⟨h3, h4⟩ := hs _ h1
    refine ⟨h3, fun x hx => ?_⟩
    simp only [loopN, List.mem_append, List.mem_singleton] at hx
    rcases hx with hx | rfl
    · exact h2 x hx
    · exact h4
/-- A cursor of this code. -/
def Cur.In (s : ByteArray) (c : Cur) : Prop := c.code = s ∧ c.pos ≤ s.size
theorem Cur.In.af {s : ByteArray} {c : Cur} (h : c.In s) (k : Nat) : (c.af k).In s := by
  obtain ⟨rfl, h2⟩ := h
  unfold Cur.af Cur.bytes
  split
  · exact ⟨rfl, h2⟩
  · rename_i hh
    refine ⟨rfl, ?_⟩
    simp at hh ⊢
    omega
theorem Cur.In.afn {s : ByteArray} {c : Cur} (h : c.In s) : c.afn.In s := by
  unfold Cur.afn Cur.name
  split
  · exact ⟨h.1, h.2⟩
  · split
    · exact h.af _
    · exact h.af _
theorem Cur.nm_size (c : Cur) : c.nm.size ≤ 256 := by
  unfold Cur.nm Cur.name
  split
  · simp [ByteArray.size]
  · split
    · simp [ByteArray.size]
    · have h1 := c.bytes_le (1 + (c.code.data.getD c.pos 0).toNat)
      have h2 : (c.code.data.getD c.pos 0).toNat < 256 := UInt8.toNat_lt _
      simp only [ByteArray.size_extract]
      omega
theorem lay_in {s : ByteArray} {c : Cur} (h : c.In s) : c.lay.2.In s ∧ LayFits c.lay.1 := by
  have h4 : ((((c.af 1).af 1).af 1).af 1).In s := (((h.af 1).af 1).af 1).af 1
  have hN : ∀ x : Cur, x.In s → x.stepN.2.In s ∧ x.stepN.1.size ≤ 256 := fun x hx => ⟨hx.afn, x.nm_size⟩
  have hS : ∀ x : Cur, x.In s → x.stepS.2.In s ∧ x.stepS.1.nm.size ≤ 256 := fun x hx => ⟨(((hx.afn.af 2).af 3).af 1).af 1, x.nm_size⟩
  have hL : ∀ x : Cur, x.In s → x.stepL.2.In s ∧ True := fun x hx => ⟨(((hx.af 1).af 1).af 1).af 1, trivial⟩
  obtain ⟨a1, a2⟩ := loopN_all (Cur.In s) (fun x : ByteArray => x.size ≤ 256) hN h4 (c.n 1)
  obtain ⟨b1, b2⟩ := loopN_all (Cur.In s) (fun x : ByteArray => x.size ≤ 256) hN a1 ((c.af 1).n 1)
  obtain ⟨d1, d2⟩ := loopN_all (Cur.In s) (fun x : Sec => x.nm.size ≤ 256) hS b1 (((c.af 1).af 1).n 1)
  obtain ⟨e1, e2⟩ := loopN_all (Cur.In s) (fun x : Lnk => True) hL d1 ((((c.af 1).af 1).af 1).n 1)
  have k1 := c.n1
  have k2 := (c.af 1).n1
  have k3 := ((c.af 1).af 1).n1
  have k4 := (((c.af 1).af 1).af 1).n1
  refine ⟨e1, fun x hx => ?_, fun x hx => ?_, fun x hx => ?_, ?_, ?_, ?_, ?_⟩
  · have := a2 x hx; omega
  · have := b2 x hx; omega
  · obtain ⟨y, hy, rfl⟩ := List.mem_map.1 hx
    have := d2 y hy; omega
  all_goals (show List.length (loopN _ _ _).1 ≤ _; rw [loopN_len]; omega)
theorem decode_ok (s : ByteArray) (hs : s.size < 9223372036854775807) : OkV Try.prog 20 [vS s] [] (vDec (decode s)) [] := by
  have hc0 : (Cur.of s).ok := ⟨Nat.zero_le _, hs⟩
  have hi1 : ((Cur.of s).af 4).In s := Cur.In.af ⟨rfl, Nat.zero_le _⟩ 4
  have hB := cursor_bytes (Cur.of s) 4 hc0 (by decide)
  unfold decode
  revert hi1 hB
  generalize (Cur.of s).af 4 = c1
  generalize ((Cur.of s).bytes 4).1 = m
  intro hi1 hB
  obtain ⟨hi2, hf⟩ := lay_in hi1
  have hc1 : c1.ok := ⟨by rw [hi1.1]; exact hi1.2, by rw [hi1.1]; exact hs⟩
  have hL := lay_ok c1 hc1
  have hC := check_okV c1.lay.1 hf
  revert hi2 hL hC
  generalize c1.lay.1 = L
  generalize c1.lay.2 = c2
  intro hi2 hL hC
  have hc2 : c2.ok := ⟨by rw [hi2.1]; exact hi2.2, by rw [hi2.1]; exact hs⟩
  have hN := num_ok c2 4 hc2 (by decide)
  have hn4 := c2.n_lt 4
  have hi3 := hi2.af 4
  revert hN hn4 hi3
  generalize c2.af 4 = c3
  generalize c2.n 4 = q
  intro hN hn4 hi3
  have hp2 := hi2.2
  have hS := sum_okV (s.extract 0 c2.pos) (by simp; omega)
  have hcl := Pl.crc_lt (s.extract 0 c2.pos).data.toList
  revert hS hcl
  generalize Pl.crc (s.extract 0 c2.pos).data.toList = z
  intro hS hcl
  refine X_fnP mixedX Try.func20 rfl (by kernel_rfl) (Nat.le_of_ble_eq_true (by kernel_rfl)) (by kernel_rfl) rfl rfl ?_
  simp only [sl0, Nat.zero_add, Nat.reduceAdd]
  repeat' (first
    |with_reducible (first|refine WR_pp ?_|refine WR_pd ?_|refine W_seq ?_|refine seqK_n ?_|refine seqK_r ?_|refine seqK_e ?_|refine W_block ?_|refine blockK_n ?_|refine blockK_r ?_|refine LoopK_e ?_|refine LoopK_r ?_|refine LoopX_r ?_|refine W_skip ?_|refine W_exit ?_|refine W_ret ?_|refine W_region (WOps_WR ?_)|refine W_draw (WOpsD_WR ?_)|refine WR_nil ?_|refine q_and ?_ ?_|exact True.intro|assumption|refine blockK_e rfl ?_|refine blockK_o (by decide) ?_|refine LoopX_e (by decide) ?_)
    |((with_reducible apply q_call);first|refine X_call [1] (hB) rfl rfl rfl rfl rfl rfl rfl rfl rfl rfl rfl rfl rfl ?_|refine X_call [1] (hL) rfl rfl rfl rfl rfl rfl rfl rfl rfl rfl rfl rfl rfl ?_|refine X_call [1] (hN) rfl rfl rfl rfl rfl rfl rfl rfl rfl rfl rfl rfl rfl ?_|refine X_pure (hS) rfl ?_|refine X_pure (hC) rfl ?_)
    |((with_reducible apply q_WR);first|refine X_run rfl ?_ ?_|refine WR_nilD (by kernel_rfl) ?_)
    |((with_reducible apply q_cond);refine X_cond rfl ?_ ?_;all_goals (intro hbq;(try simp only [bq] at hbq);(try (exfalso;omega))))
    |((with_reducible apply q_ret);refine X_ret tabOk trivial rfl rfl ?_ ?_)
    |((with_reducible apply q_retP);refine X_retP tabOk trivial rfl rfl ?_ ?_)
    |(intro (hgq : (_ : Bool) = true);(try simp only [bq] at hgq))
    |(intro (hgq : (_ : Bool) = false);(try simp only [bq] at hgq))
    |((with_reducible apply q_VOk);exact fun _ => ⟨rfl,rfl⟩)
    |(intro _;exact rfl)
    |((with_reducible apply q_bt);simp only [bq])
    |((with_reducible apply q_eqN);rfl)
    |with_reducible exact isByte_wrap _
    |with_reducible exact isByte_nat _
    |(simp only [hgq,bq];done)
    |omega)
  all_goals (clear hB hL hC hN hS)
  all_goals (unfold decOf rpl)
  all_goals (repeat' split)
  all_goals (try (exfalso; simp_all; done))
  all_goals (try (exfalso; simp_all; omega))
  all_goals repeat' (first|with_reducible (first|exact TkEq.nil _|refine TkEq.none ?_|refine TkEq.cells ?_ ?_|refine TkEq.els ?_ ?_|exact SEqL.nil|refine SEqL.cons ?_ ?_|exact TEqL.nil|refine TEqL.c ?_ ?_|refine TEqL.agg ?_ ?_|exact CEq.refl _|refine CEq.int ?_|refine CEq.bool ?_|refine CEq.str ?_|refine CEq.rows ?_|refine CEq.row ?_ ?_|refine CEq.tips ?_|refine CEq.tip ?_ ?_|refine CEq.raw ?_ ?_|refine CEq.arr ?_ ?_)|refine VEq.c ?_|refine VEq.agg ?_|refine VEq.tup ?_|refine TkEq.cells ?_ ?_|refine TkEq.els ?_ ?_|refine SEqL.cons ?_ ?_|refine TEqL.agg ?_ ?_|refine CEq.rows ?_|refine CEq.int ?_|rfl|omega)
end Go.Proofs.Ythnfliopmjpdmaa.Av
/- Decode of the reference. -/
namespace Go.Proofs.Ythnfliopmjpdmaa.Av
set_option linter.unusedVariables false
set_option linter.unusedSimpArgs false
set_option maxRecDepth 4000
set_option maxHeartbeats 4000000

theorem Cur.af_short {c : Cur} (h : c.short = true) (k : Nat) : c.af k = c := by
  obtain ⟨a, b, s⟩ := c
  simp only at h
  subst h
  unfold Cur.af Cur.bytes
  rw [if_pos (.inl rfl)]
theorem Cur.afn_short {c : Cur} (h : c.short = true) : c.afn = c := by
  obtain ⟨a, b, s⟩ := c
  simp only at h
  subst h
  unfold Cur.afn Cur.name
  rw [if_pos (.inl rfl)]
theorem loopN_stop {α : Type} {step : Cur → α × Cur} (hst : ∀ c : Cur, c.short = true → (step c).2 = c) {c : Cur} {i : Nat} (h : (loopN step c i).2.short = true) : ∀ k, (loopN step c (i + k)).2 = (loopN step c i).2
  | 0 => rfl
  | k + 1 => by
    have := loopN_stop hst h k
    show (step (loopN step c (i + k)).2).2 = _
    rw [this, hst _ h]
/-- Where a loop that stops at a short cursor ends. -/
theorem loopN_end {α : Type} {step : Cur → α × Cur} (hst : ∀ c : Cur, c.short = true → (step c).2 = c) {c : Cur} {i n : Nat} (hi : i ≤ n) (h : i = n ∨ (loopN step c i).2.short = true) : (loopN step c i).2 = (loopN step c n).2 ∧ ((loopN step c n).2.short = false → (loopN step c i).1 = (loopN step c n).1) := by
  rcases h with rfl | h
  · exact ⟨rfl, fun _ => rfl⟩
  · have e := loopN_stop hst h (n - i)
    rw [show i + (n - i) = n by omega] at e
    exact ⟨e.symm, fun hs => by rw [e, h] at hs; cases hs⟩
theorem stpN (c : Cur) (h : c.short = true) : c.stepN.2 = c := Cur.afn_short h
theorem stpS (c : Cur) (h : c.short = true) : c.stepS.2 = c := by
  show (((c.afn.af 2).af 3).af 1).af 1 = c
  rw [Cur.afn_short h, Cur.af_short h, Cur.af_short h, Cur.af_short h, Cur.af_short h]
theorem stpL (c : Cur) (h : c.short = true) : c.stepL.2 = c := by
  show (((c.af 1).af 1).af 1).af 1 = c
  rw [Cur.af_short h, Cur.af_short h, Cur.af_short h, Cur.af_short h]
theorem loopN_shorts {α : Type} {step : Cur → α × Cur} (hst : ∀ c : Cur, c.short = true → (step c).2 = c) {c : Cur} (h : c.short = true) (n : Nat) : (loopN step c n).2 = c := by
  have := loopN_stop (i := 0) hst (c := c) h n
  rw [Nat.zero_add] at this
  exact this
theorem wrapU32 (q : Nat) (h : q < 2 ^ (8 * 4)) : IntKind.u32.wrap (q : Int) = q := by
  have h1 : (q : Int) < 4294967296 := by omega
  simp only [IntKind.wrap]
  simp [IntKind.bits, IntKind.signed]
  omega
theorem head4 (s : ByteArray) : (4 ≤ s.size → ((Cur.of s).af 4).short = false ∧ ((Cur.of s).bytes 4).1 = s.extract 0 4) ∧ (s.size < 4 → ((Cur.of s).af 4).short = true) := by
  unfold Cur.af Cur.bytes Cur.of
  constructor
  · intro h
    rw [if_neg (by simp; omega)]
    exact ⟨rfl, rfl⟩
  · intro h
    rw [if_pos (.inr (by simpa using h))]
theorem dec_end (c1 : Cur) {i1 i2 i3 i4 : Nat} {A B : List ByteArray × Cur} {C : List Sec × Cur} {D : List Lnk × Cur}
    (eA : loopN Cur.stepN ((((c1.af 1).af 1).af 1).af 1) i1 = A) (eB : loopN Cur.stepN A.2 i2 = B) (eC : loopN Cur.stepS B.2 i3 = C) (eD : loopN Cur.stepL C.2 i4 = D)
    (l1 : i1 ≤ c1.n 1) (l2 : i2 ≤ (c1.af 1).n 1) (l3 : i3 ≤ ((c1.af 1).af 1).n 1) (l4 : i4 ≤ (((c1.af 1).af 1).af 1).n 1)
    (h1 : i1 = c1.n 1 ∨ A.2.short = true) (h2 : i2 = (c1.af 1).n 1 ∨ B.2.short = true) (h3 : i3 = ((c1.af 1).af 1).n 1 ∨ C.2.short = true) (h4 : i4 = (((c1.af 1).af 1).af 1).n 1 ∨ D.2.short = true) :
    D.2 = c1.lay.2 ∧ (D.2.short = false → (⟨A.1, B.1, C.1, D.1⟩ : Lay) = c1.lay.1) := by
  obtain ⟨a1, a2⟩ := loopN_end stpN l1 (by rw [eA]; exact h1)
  rw [eA] at a1 a2
  rw [a1] at eB
  obtain ⟨b1, b2⟩ := loopN_end stpN l2 (by rw [eB]; exact h2)
  rw [eB] at b1 b2
  rw [b1] at eC
  obtain ⟨d1, d2⟩ := loopN_end stpS l3 (by rw [eC]; exact h3)
  rw [eC] at d1 d2
  rw [d1] at eD
  obtain ⟨e1, e2⟩ := loopN_end stpL l4 (by rw [eD]; exact h4)
  rw [eD] at e1 e2
  refine ⟨e1, fun hs => ?_⟩
  have nf : ∀ {α : Type} {step : Cur → α × Cur} (hst : ∀ c : Cur, c.short = true → (step c).2 = c) (c : Cur) (n : Nat), (loopN step c n).2.short = false → c.short = false := fun hst c n h => by
    cases hc : c.short with
    | false => rfl
    | true => rw [loopN_shorts hst hc, hc] at h; cases h
  rw [e1] at hs
  have s3 := nf stpL _ _ hs
  have s2 := nf stpS _ _ s3
  have s1 := nf stpN _ _ s2
  show _ = (⟨_, _, _, _⟩ : Lay)
  rw [a2 s1, b2 s2, d2 s3, e2 hs]
abbrev slD (s : ByteArray) : SL := [sS 0 s, sC 2 (pB 0), sC 5 (pB 1), sC 10 (pB 2)]
theorem refDecode_ok (s : ByteArray) (hs : s.size < 9223372036854775807) : OkV Try.prog 30 [vS s] [] (vDec (decode s)) [] := by
  have hc0 : (Cur.of s).ok := ⟨Nat.zero_le _, hs⟩
  have hi1 : ((Cur.of s).af 4).In s := Cur.In.af ⟨rfl, Nat.zero_le _⟩ 4
  have hB := rd_number (Cur.of s) 4 hc0 (by decide)
  obtain ⟨hh1, hh2⟩ := head4 s
  unfold decode
  revert hi1 hB hh1 hh2
  generalize (Cur.of s).af 4 = c1
  generalize ((Cur.of s).bytes 4).1 = m
  generalize (Cur.of s).n 4 = m4
  intro hi1 hB hh1 hh2
  obtain ⟨hi2, hf⟩ := lay_in hi1
  have hc1 : c1.ok := ⟨by rw [hi1.1]; exact hi1.2, by rw [hi1.1]; exact hs⟩
  have hC := refCheck_okV c1.lay.1 hf
  have k1 := c1.n1
  have k2 := (c1.af 1).n1
  have k3 := ((c1.af 1).af 1).n1
  have k4 := (((c1.af 1).af 1).af 1).n1
  have o1 := Cur.af_ok hc1 1
  have o2 := Cur.af_ok o1 1
  have o3 := Cur.af_ok o2 1
  have hc4 := Cur.af_ok o3 1
  have h1 := rd_number c1 1 hc1 (by omega)
  have h2 := rd_number _ 1 o1 (by omega)
  have h3 := rd_number _ 1 o2 (by omega)
  have h4 := rd_number _ 1 o3 (by omega)
  have hend := fun i1 i2 i3 i4 A B C D eA eB eC eD l1 l2 l3 l4 h1 h2 h3 h4 => dec_end c1 (i1 := i1) (i2 := i2) (i3 := i3) (i4 := i4) (A := A) (B := B) (C := C) (D := D) eA eB eC eD l1 l2 l3 l4 h1 h2 h3 h4
  obtain ⟨c4, e4⟩ : ∃ c4, (((c1.af 1).af 1).af 1).af 1 = c4 := ⟨_, rfl⟩
  rw [e4] at hend h4 hc4
  refine X_fnP mixedX Try.func30 rfl (by kernel_rfl) (Nat.le_of_ble_eq_true (by kernel_rfl)) (by kernel_rfl) rfl rfl ?_
  simp only [sl0, Nat.zero_add, Nat.reduceAdd]
  repeat' (first
    |with_reducible (first|refine WR_pp ?_|refine WR_pd ?_|refine W_seq ?_|refine seqK_n ?_|refine seqK_r ?_|refine seqK_e ?_|refine W_block ?_|refine blockK_n ?_|refine blockK_r ?_|refine LoopK_e ?_|refine LoopK_r ?_|refine LoopX_r ?_|refine W_skip ?_|refine W_exit ?_|refine W_ret ?_|refine W_region (WOps_WR ?_)|refine W_draw (WOpsD_WR ?_)|refine WR_nil ?_|refine q_and ?_ ?_|exact True.intro|assumption|refine blockK_e rfl ?_|refine blockK_o (by decide) ?_|refine LoopX_e (by decide) ?_)
    |((with_reducible apply q_call);first|refine X_call [1] (hB) rfl rfl rfl rfl rfl rfl rfl rfl rfl rfl rfl rfl rfl ?_|refine X_call [1] (h1) rfl rfl rfl rfl rfl rfl rfl rfl rfl rfl rfl rfl rfl ?_|refine X_call [1] (h2) rfl rfl rfl rfl rfl rfl rfl rfl rfl rfl rfl rfl rfl ?_|refine X_call [1] (h3) rfl rfl rfl rfl rfl rfl rfl rfl rfl rfl rfl rfl rfl ?_|refine X_call [1] (h4) rfl rfl rfl rfl rfl rfl rfl rfl rfl rfl rfl rfl rfl ?_)
    |((with_reducible apply q_WR);first|refine X_run rfl ?_ ?_|refine WR_nilD (by kernel_rfl) ?_)
    |((with_reducible apply q_cond);refine X_cond rfl ?_ ?_;all_goals (intro hbq;(try simp only [bq] at hbq);(try (exfalso;omega))))
    |((with_reducible apply q_ret);refine X_ret tabOk trivial rfl rfl ?_ ?_)
    |((with_reducible apply q_retP);refine X_retP tabOk trivial rfl rfl ?_ ?_)
    |(intro (hgq : (_ : Bool) = true);(try simp only [bq] at hgq))
    |(intro (hgq : (_ : Bool) = false);(try simp only [bq] at hgq))
    |((with_reducible apply q_VOk);exact fun _ => ⟨rfl,rfl⟩)
    |(intro _;exact rfl)
    |((with_reducible apply q_bt);simp only [bq])
    |((with_reducible apply q_eqN);rfl)
    |with_reducible exact isByte_wrap _
    |with_reducible exact isByte_nat _
    |(simp only [hgq,bq];done)
    |omega)
  · have h4 : 4 ≤ s.size := by omega
    obtain ⟨q1, q2⟩ := hh1 h4
    rw [q2]
    unfold decOf
    rw [if_pos ⟨q1, hbq.2⟩]
    repeat' (first|with_reducible (first|exact TkEq.nil _|refine TkEq.none ?_|refine TkEq.cells ?_ ?_|refine TkEq.els ?_ ?_|exact SEqL.nil|refine SEqL.cons ?_ ?_|exact TEqL.nil|refine TEqL.c ?_ ?_|refine TEqL.agg ?_ ?_|exact CEq.refl _|refine CEq.int ?_|refine CEq.bool ?_|refine CEq.str ?_|refine CEq.rows ?_|refine CEq.row ?_ ?_|refine CEq.tips ?_|refine CEq.tip ?_ ?_|refine CEq.raw ?_ ?_|refine CEq.arr ?_ ?_)|refine VEq.c ?_|refine VEq.agg ?_|refine VEq.tup ?_|refine TkEq.cells ?_ ?_|refine TkEq.els ?_ ?_|refine SEqL.cons ?_ ?_|refine TEqL.agg ?_ ?_|refine CEq.rows ?_|refine CEq.int ?_|rfl|omega)
  have hdr : ¬ (c1.short = false ∧ (m.toList == rpl.toList) = false) := by
    rintro ⟨q1, q2⟩
    rcases hbq with h | h
    · rw [hh2 (by omega)] at q1; cases q1
    · by_cases h4 : 4 ≤ s.size
      · rw [(hh1 h4).2] at q2
        have h : ((s.extract 0 4).toList == rpl.toList) = true := h
        rw [q2] at h
        cases h
      · rw [hh2 (by omega)] at q1; cases q1
  clear hh1 hh2 hB h1 h2 h3 h4 hbq
  refine W_loopS (fun i : Nat => SS (sI 6 (c1.n 1) :: sI 7 ((c1.af 1).n 1) :: sI 8 (((c1.af 1).af 1).n 1) :: sI 9 ((((c1.af 1).af 1).af 1).n 1) :: sI 11 i :: slD s) [some nil4, some (loopN Cur.stepN c4 i).2.box, some (.cells [tStr (loopN Cur.stepN c4 i).1, .c (.f .nils), .c (.f .nils), .c (.f .nils)])]) (fun i => i ≤ c1.n 1) (fun i => c1.n 1 - i) 0 ?_ (by omega) ?_
  ·
    refine X_weak rfl rfl rfl ?_ ?_ <;> repeat' (first|with_reducible (first|exact q_AgS0|exact HLe.nil _|refine HLe.none ?_|refine HLe.cells ?_ ?_|refine HLe.els ?_ ?_|exact SLe.nil|refine SLe.cons ?_ ?_|exact ELe.refl _|refine ELe.c rfl ?_|exact CLe.refl _|exact CLe.nil_row|exact CLe.nil_rowS|exact CLe.nil_tip|exact CLe.nil_tipS|exact CLe.int (by omega)|refine CLe.tip ?_ ?_|refine CLe.tip_row ?_ ?_|refine CLe.row ?_ ?_|refine CLe.tipr_row ?_|refine CLe.rows ?_|refine CLe.tips ?_|refine CLe.int ?_|refine CLe.bool ?_|refine CLe.str ?_|refine CLe.arr ?_ ?_)|refine q_AgS rfl ?_ ?_|exact CLe.nil_tipS|exact CLe.nil_rowS|refine HLe.cells ?_ ?_|refine HLe.els ?_ ?_|refine SLe.cons ?_ ?_|with_reducible rfl|omega)
    all_goals rfl
  intro i1 l1
  have hcA := loopN_ok stepN_ok hc4 i1
  have lA := loopN_len Cur.stepN c4 i1
  obtain ⟨A, eA⟩ : ∃ A, loopN Cur.stepN c4 i1 = A := ⟨_, rfl⟩
  have eA1 : loopN Cur.stepN c4 (i1 + 1) = (A.1 ++ [A.2.nm], A.2.afn) := by rw [← eA]; rfl
  rw [eA] at hcA lA ⊢
  have hN := rd_name _ hcA
  repeat' (first
    |with_reducible (first|refine WR_pp ?_|refine WR_pd ?_|refine W_seq ?_|refine seqK_n ?_|refine seqK_r ?_|refine seqK_e ?_|refine W_block ?_|refine blockK_n ?_|refine blockK_r ?_|refine LoopK_e ?_|refine LoopK_r ?_|refine LoopX_r ?_|refine W_skip ?_|refine W_exit ?_|refine W_ret ?_|refine W_region (WOps_WR ?_)|refine W_draw (WOpsD_WR ?_)|refine WR_nil ?_|refine q_and ?_ ?_|exact True.intro|assumption|refine blockK_e rfl ?_|refine blockK_o (by decide) ?_|refine LoopX_e (by decide) ?_)
    |((with_reducible apply q_call);refine X_call [1] (hN) rfl rfl rfl rfl rfl rfl rfl rfl rfl rfl rfl rfl rfl ?_)
    |((with_reducible apply q_WR);first|refine X_run rfl ?_ ?_|refine WR_nilD (by kernel_rfl) ?_)
    |((with_reducible apply q_cond);refine X_cond rfl ?_ ?_;all_goals (intro hbq;(try simp only [bq] at hbq);(try (exfalso;omega))))
    |((with_reducible apply q_ret);refine X_ret tabOk trivial rfl rfl ?_ ?_)
    |((with_reducible apply q_retP);refine X_retP tabOk trivial rfl rfl ?_ ?_)
    |(intro (hgq : (_ : Bool) = true);(try simp only [bq] at hgq))
    |(intro (hgq : (_ : Bool) = false);(try simp only [bq] at hgq))
    |((with_reducible apply q_VOk);exact fun _ => ⟨rfl,rfl⟩)
    |(intro _;exact rfl)
    |((with_reducible apply q_bt);simp only [bq])
    |((with_reducible apply q_eqN);rfl)
    |with_reducible exact isByte_wrap _
    |with_reducible exact isByte_nat _
    |(simp only [hgq,bq];done)
    |omega)
  · refine LoopK_n (i1 + 1) ?_ (by omega) (by omega)
    rw [eA1]
    refine X_weak rfl rfl rfl ?_ ?_ <;> repeat' (first|with_reducible (first|exact q_AgS0|exact HLe.nil _|refine HLe.none ?_|refine HLe.cells ?_ ?_|refine HLe.els ?_ ?_|exact SLe.nil|refine SLe.cons ?_ ?_|exact ELe.refl _|refine ELe.c rfl ?_|exact CLe.refl _|exact CLe.nil_row|exact CLe.nil_rowS|exact CLe.nil_tip|exact CLe.nil_tipS|exact CLe.int (by omega)|refine CLe.tip ?_ ?_|refine CLe.tip_row ?_ ?_|refine CLe.row ?_ ?_|refine CLe.tipr_row ?_|refine CLe.rows ?_|refine CLe.tips ?_|refine CLe.int ?_|refine CLe.bool ?_|refine CLe.str ?_|refine CLe.arr ?_ ?_)|refine q_AgS rfl ?_ ?_|exact CLe.nil_tipS|exact CLe.nil_rowS|refine HLe.cells ?_ ?_|refine HLe.els ?_ ?_|refine SLe.cons ?_ ?_|with_reducible rfl|omega)
    all_goals (simp [fStr, fS]; done)
  have x1 : i1 = c1.n 1 ∨ A.2.short = true := by rcases hbq with h | h; exact .inl (by omega); exact .inr h
  clear hN hbq eA1
  refine W_loopS (fun i : Nat => SS (sI 7 ((c1.af 1).n 1) :: sI 8 (((c1.af 1).af 1).n 1) :: sI 9 ((((c1.af 1).af 1).af 1).n 1) :: sI 12 i :: slD s) [some nil4, some (loopN Cur.stepN A.2 i).2.box, some (.cells [tStr A.1, tStr (loopN Cur.stepN A.2 i).1, .c (.f .nils), .c (.f .nils)])]) (fun i => i ≤ (c1.af 1).n 1) (fun i => (c1.af 1).n 1 - i) 0 ?_ (by omega) ?_
  ·
    refine X_weak rfl rfl rfl ?_ ?_ <;> repeat' (first|with_reducible (first|exact q_AgS0|exact HLe.nil _|refine HLe.none ?_|refine HLe.cells ?_ ?_|refine HLe.els ?_ ?_|exact SLe.nil|refine SLe.cons ?_ ?_|exact ELe.refl _|refine ELe.c rfl ?_|exact CLe.refl _|exact CLe.nil_row|exact CLe.nil_rowS|exact CLe.nil_tip|exact CLe.nil_tipS|exact CLe.int (by omega)|refine CLe.tip ?_ ?_|refine CLe.tip_row ?_ ?_|refine CLe.row ?_ ?_|refine CLe.tipr_row ?_|refine CLe.rows ?_|refine CLe.tips ?_|refine CLe.int ?_|refine CLe.bool ?_|refine CLe.str ?_|refine CLe.arr ?_ ?_)|refine q_AgS rfl ?_ ?_|exact CLe.nil_tipS|exact CLe.nil_rowS|refine HLe.cells ?_ ?_|refine HLe.els ?_ ?_|refine SLe.cons ?_ ?_|with_reducible rfl|omega)
    all_goals rfl
  intro i2 l2
  have hcB := loopN_ok stepN_ok hcA i2
  have lB := loopN_len Cur.stepN A.2 i2
  obtain ⟨B, eB⟩ : ∃ B, loopN Cur.stepN A.2 i2 = B := ⟨_, rfl⟩
  have eB1 : loopN Cur.stepN A.2 (i2 + 1) = (B.1 ++ [B.2.nm], B.2.afn) := by rw [← eB]; rfl
  rw [eB] at hcB lB ⊢
  have hN := rd_name _ hcB
  repeat' (first
    |with_reducible (first|refine WR_pp ?_|refine WR_pd ?_|refine W_seq ?_|refine seqK_n ?_|refine seqK_r ?_|refine seqK_e ?_|refine W_block ?_|refine blockK_n ?_|refine blockK_r ?_|refine LoopK_e ?_|refine LoopK_r ?_|refine LoopX_r ?_|refine W_skip ?_|refine W_exit ?_|refine W_ret ?_|refine W_region (WOps_WR ?_)|refine W_draw (WOpsD_WR ?_)|refine WR_nil ?_|refine q_and ?_ ?_|exact True.intro|assumption|refine blockK_e rfl ?_|refine blockK_o (by decide) ?_|refine LoopX_e (by decide) ?_)
    |((with_reducible apply q_call);refine X_call [1] (hN) rfl rfl rfl rfl rfl rfl rfl rfl rfl rfl rfl rfl rfl ?_)
    |((with_reducible apply q_WR);first|refine X_run rfl ?_ ?_|refine WR_nilD (by kernel_rfl) ?_)
    |((with_reducible apply q_cond);refine X_cond rfl ?_ ?_;all_goals (intro hbq;(try simp only [bq] at hbq);(try (exfalso;omega))))
    |((with_reducible apply q_ret);refine X_ret tabOk trivial rfl rfl ?_ ?_)
    |((with_reducible apply q_retP);refine X_retP tabOk trivial rfl rfl ?_ ?_)
    |(intro (hgq : (_ : Bool) = true);(try simp only [bq] at hgq))
    |(intro (hgq : (_ : Bool) = false);(try simp only [bq] at hgq))
    |((with_reducible apply q_VOk);exact fun _ => ⟨rfl,rfl⟩)
    |(intro _;exact rfl)
    |((with_reducible apply q_bt);simp only [bq])
    |((with_reducible apply q_eqN);rfl)
    |with_reducible exact isByte_wrap _
    |with_reducible exact isByte_nat _
    |(simp only [hgq,bq];done)
    |omega)
  · refine LoopK_n (i2 + 1) ?_ (by omega) (by omega)
    rw [eB1]
    refine X_weak rfl rfl rfl ?_ ?_ <;> repeat' (first|with_reducible (first|exact q_AgS0|exact HLe.nil _|refine HLe.none ?_|refine HLe.cells ?_ ?_|refine HLe.els ?_ ?_|exact SLe.nil|refine SLe.cons ?_ ?_|exact ELe.refl _|refine ELe.c rfl ?_|exact CLe.refl _|exact CLe.nil_row|exact CLe.nil_rowS|exact CLe.nil_tip|exact CLe.nil_tipS|exact CLe.int (by omega)|refine CLe.tip ?_ ?_|refine CLe.tip_row ?_ ?_|refine CLe.row ?_ ?_|refine CLe.tipr_row ?_|refine CLe.rows ?_|refine CLe.tips ?_|refine CLe.int ?_|refine CLe.bool ?_|refine CLe.str ?_|refine CLe.arr ?_ ?_)|refine q_AgS rfl ?_ ?_|exact CLe.nil_tipS|exact CLe.nil_rowS|refine HLe.cells ?_ ?_|refine HLe.els ?_ ?_|refine SLe.cons ?_ ?_|with_reducible rfl|omega)
    all_goals (simp [fStr, fS]; done)
  have x2 : i2 = (c1.af 1).n 1 ∨ B.2.short = true := by rcases hbq with h | h; exact .inl (by omega); exact .inr h
  clear hN hbq eB1
  refine W_loopS (fun i : Nat => SS (sI 8 (((c1.af 1).af 1).n 1) :: sI 9 ((((c1.af 1).af 1).af 1).n 1) :: sI 13 i :: slD s) [some nil4, some (loopN Cur.stepS B.2 i).2.box, some (.cells [tStr A.1, tStr B.1, tSec (loopN Cur.stepS B.2 i).1, .c (.f .nils)])]) (fun i => i ≤ ((c1.af 1).af 1).n 1) (fun i => ((c1.af 1).af 1).n 1 - i) 0 ?_ (by omega) ?_
  ·
    refine X_weak rfl rfl rfl ?_ ?_ <;> repeat' (first|with_reducible (first|exact q_AgS0|exact HLe.nil _|refine HLe.none ?_|refine HLe.cells ?_ ?_|refine HLe.els ?_ ?_|exact SLe.nil|refine SLe.cons ?_ ?_|exact ELe.refl _|refine ELe.c rfl ?_|exact CLe.refl _|exact CLe.nil_row|exact CLe.nil_rowS|exact CLe.nil_tip|exact CLe.nil_tipS|exact CLe.int (by omega)|refine CLe.tip ?_ ?_|refine CLe.tip_row ?_ ?_|refine CLe.row ?_ ?_|refine CLe.tipr_row ?_|refine CLe.rows ?_|refine CLe.tips ?_|refine CLe.int ?_|refine CLe.bool ?_|refine CLe.str ?_|refine CLe.arr ?_ ?_)|refine q_AgS rfl ?_ ?_|exact CLe.nil_tipS|exact CLe.nil_rowS|refine HLe.cells ?_ ?_|refine HLe.els ?_ ?_|refine SLe.cons ?_ ?_|with_reducible rfl|omega)
    all_goals rfl
  intro i3 l3
  have hcC := loopN_ok stepS_ok hcB i3
  have lC := loopN_len Cur.stepS B.2 i3
  obtain ⟨C, eC⟩ : ∃ C, loopN Cur.stepS B.2 i3 = C := ⟨_, rfl⟩
  have eC1 : loopN Cur.stepS B.2 (i3 + 1) = (C.1 ++ [C.2.stepS.1], C.2.stepS.2) := by rw [← eC]; rfl
  rw [eC] at hcC lC ⊢
  have m0 := (C.2.afn).n_lt 2
  have m00 := (C.2.afn.af 2).n_lt 3
  have m1 := ((C.2.afn.af 2).af 3).n1
  have m2 := (((C.2.afn.af 2).af 3).af 1).n1
  have p1 := Cur.afn_ok hcC
  have p2 := Cur.af_ok p1 2
  have p3 := Cur.af_ok p2 3
  have p4 := Cur.af_ok p3 1
  have hN := rd_name _ hcC
  have h1 := rd_number _ 2 p1 (by omega)
  have h2 := rd_number _ 3 p2 (by omega)
  have h3 := rd_number _ 1 p3 (by omega)
  have h4 := rd_number _ 1 p4 (by omega)
  repeat' (first
    |with_reducible (first|refine WR_pp ?_|refine WR_pd ?_|refine W_seq ?_|refine seqK_n ?_|refine seqK_r ?_|refine seqK_e ?_|refine W_block ?_|refine blockK_n ?_|refine blockK_r ?_|refine LoopK_e ?_|refine LoopK_r ?_|refine LoopX_r ?_|refine W_skip ?_|refine W_exit ?_|refine W_ret ?_|refine W_region (WOps_WR ?_)|refine W_draw (WOpsD_WR ?_)|refine WR_nil ?_|refine q_and ?_ ?_|exact True.intro|assumption|refine blockK_e rfl ?_|refine blockK_o (by decide) ?_|refine LoopX_e (by decide) ?_)
    |((with_reducible apply q_call);first|refine X_call [1] (hN) rfl rfl rfl rfl rfl rfl rfl rfl rfl rfl rfl rfl rfl ?_|refine X_call [1] (h1) rfl rfl rfl rfl rfl rfl rfl rfl rfl rfl rfl rfl rfl ?_|refine X_call [1] (h2) rfl rfl rfl rfl rfl rfl rfl rfl rfl rfl rfl rfl rfl ?_|refine X_call [1] (h3) rfl rfl rfl rfl rfl rfl rfl rfl rfl rfl rfl rfl rfl ?_|refine X_call [1] (h4) rfl rfl rfl rfl rfl rfl rfl rfl rfl rfl rfl rfl rfl ?_)
    |((with_reducible apply q_WR);first|refine X_run rfl ?_ ?_|refine WR_nilD (by kernel_rfl) ?_)
    |((with_reducible apply q_cond);refine X_cond rfl ?_ ?_;all_goals (intro hbq;(try simp only [bq] at hbq);(try (exfalso;omega))))
    |((with_reducible apply q_ret);refine X_ret tabOk trivial rfl rfl ?_ ?_)
    |((with_reducible apply q_retP);refine X_retP tabOk trivial rfl rfl ?_ ?_)
    |(intro (hgq : (_ : Bool) = true);(try simp only [bq] at hgq))
    |(intro (hgq : (_ : Bool) = false);(try simp only [bq] at hgq))
    |((with_reducible apply q_VOk);exact fun _ => ⟨rfl,rfl⟩)
    |(intro _;exact rfl)
    |((with_reducible apply q_bt);simp only [bq])
    |((with_reducible apply q_eqN);rfl)
    |with_reducible exact isByte_wrap _
    |with_reducible exact isByte_nat _
    |(simp only [hgq,bq];done)
    |omega)
  · refine LoopK_n (i3 + 1) ?_ (by omega) (by omega)
    rw [eC1]
    refine X_weak rfl rfl rfl ?_ ?_ <;> repeat' (first|with_reducible (first|exact q_AgS0|exact HLe.nil _|refine HLe.none ?_|refine HLe.cells ?_ ?_|refine HLe.els ?_ ?_|exact SLe.nil|refine SLe.cons ?_ ?_|exact ELe.refl _|refine ELe.c rfl ?_|exact CLe.refl _|exact CLe.nil_row|exact CLe.nil_rowS|exact CLe.nil_tip|exact CLe.nil_tipS|exact CLe.int (by omega)|refine CLe.tip ?_ ?_|refine CLe.tip_row ?_ ?_|refine CLe.row ?_ ?_|refine CLe.tipr_row ?_|refine CLe.rows ?_|refine CLe.tips ?_|refine CLe.int ?_|refine CLe.bool ?_|refine CLe.str ?_|refine CLe.arr ?_ ?_)|refine q_AgS rfl ?_ ?_|exact CLe.nil_tipS|exact CLe.nil_rowS|refine HLe.cells ?_ ?_|refine HLe.els ?_ ?_|refine SLe.cons ?_ ?_|with_reducible rfl|omega)
    all_goals (simp [fSec, fS, fI, Cur.stepS]; done)
  have x3 : i3 = ((c1.af 1).af 1).n 1 ∨ C.2.short = true := by rcases hbq with h | h; exact .inl (by omega); exact .inr h
  clear hN hbq eC1 h1 h2 h3 h4 p1 p2 p3 p4 m0 m00 m1 m2
  refine W_loopS (fun i : Nat => SS (sI 9 ((((c1.af 1).af 1).af 1).n 1) :: sI 15 i :: slD s) [some nil4, some (loopN Cur.stepL C.2 i).2.box, some (.cells [tStr A.1, tStr B.1, tSec C.1, tLnk (loopN Cur.stepL C.2 i).1])]) (fun i => i ≤ (((c1.af 1).af 1).af 1).n 1) (fun i => (((c1.af 1).af 1).af 1).n 1 - i) 0 ?_ (by omega) ?_
  ·
    refine X_weak rfl rfl rfl ?_ ?_ <;> repeat' (first|with_reducible (first|exact q_AgS0|exact HLe.nil _|refine HLe.none ?_|refine HLe.cells ?_ ?_|refine HLe.els ?_ ?_|exact SLe.nil|refine SLe.cons ?_ ?_|exact ELe.refl _|refine ELe.c rfl ?_|exact CLe.refl _|exact CLe.nil_row|exact CLe.nil_rowS|exact CLe.nil_tip|exact CLe.nil_tipS|exact CLe.int (by omega)|refine CLe.tip ?_ ?_|refine CLe.tip_row ?_ ?_|refine CLe.row ?_ ?_|refine CLe.tipr_row ?_|refine CLe.rows ?_|refine CLe.tips ?_|refine CLe.int ?_|refine CLe.bool ?_|refine CLe.str ?_|refine CLe.arr ?_ ?_)|refine q_AgS rfl ?_ ?_|exact CLe.nil_tipS|exact CLe.nil_rowS|refine HLe.cells ?_ ?_|refine HLe.els ?_ ?_|refine SLe.cons ?_ ?_|with_reducible rfl|omega)
    all_goals rfl
  intro i4 l4
  have hcD := loopN_ok stepL_ok hcC i4
  have lD := loopN_len Cur.stepL C.2 i4
  obtain ⟨D, eD⟩ : ∃ D, loopN Cur.stepL C.2 i4 = D := ⟨_, rfl⟩
  have eD1 : loopN Cur.stepL C.2 (i4 + 1) = (D.1 ++ [D.2.stepL.1], D.2.stepL.2) := by rw [← eD]; rfl
  rw [eD] at hcD lD ⊢
  have m3 := D.2.n1
  have m4 := (D.2.af 1).n1
  have m5 := ((D.2.af 1).af 1).n1
  have m6 := (((D.2.af 1).af 1).af 1).n1
  have p1 := Cur.af_ok hcD 1
  have p2 := Cur.af_ok p1 1
  have p3 := Cur.af_ok p2 1
  have h1 := rd_number _ 1 hcD (by omega)
  have h2 := rd_number _ 1 p1 (by omega)
  have h3 := rd_number _ 1 p2 (by omega)
  have h4 := rd_number _ 1 p3 (by omega)
  repeat' (first
    |with_reducible (first|refine WR_pp ?_|refine WR_pd ?_|refine W_seq ?_|refine seqK_n ?_|refine seqK_r ?_|refine seqK_e ?_|refine W_block ?_|refine blockK_n ?_|refine blockK_r ?_|refine LoopK_e ?_|refine LoopK_r ?_|refine LoopX_r ?_|refine W_skip ?_|refine W_exit ?_|refine W_ret ?_|refine W_region (WOps_WR ?_)|refine W_draw (WOpsD_WR ?_)|refine WR_nil ?_|refine q_and ?_ ?_|exact True.intro|assumption|refine blockK_e rfl ?_|refine blockK_o (by decide) ?_|refine LoopX_e (by decide) ?_)
    |((with_reducible apply q_call);first|refine X_call [1] (h1) rfl rfl rfl rfl rfl rfl rfl rfl rfl rfl rfl rfl rfl ?_|refine X_call [1] (h2) rfl rfl rfl rfl rfl rfl rfl rfl rfl rfl rfl rfl rfl ?_|refine X_call [1] (h3) rfl rfl rfl rfl rfl rfl rfl rfl rfl rfl rfl rfl rfl ?_|refine X_call [1] (h4) rfl rfl rfl rfl rfl rfl rfl rfl rfl rfl rfl rfl rfl ?_)
    |((with_reducible apply q_WR);first|refine X_run rfl ?_ ?_|refine WR_nilD (by kernel_rfl) ?_)
    |((with_reducible apply q_cond);refine X_cond rfl ?_ ?_;all_goals (intro hbq;(try simp only [bq] at hbq);(try (exfalso;omega))))
    |((with_reducible apply q_ret);refine X_ret tabOk trivial rfl rfl ?_ ?_)
    |((with_reducible apply q_retP);refine X_retP tabOk trivial rfl rfl ?_ ?_)
    |(intro (hgq : (_ : Bool) = true);(try simp only [bq] at hgq))
    |(intro (hgq : (_ : Bool) = false);(try simp only [bq] at hgq))
    |((with_reducible apply q_VOk);exact fun _ => ⟨rfl,rfl⟩)
    |(intro _;exact rfl)
    |((with_reducible apply q_bt);simp only [bq])
    |((with_reducible apply q_eqN);rfl)
    |with_reducible exact isByte_wrap _
    |with_reducible exact isByte_nat _
    |(simp only [hgq,bq];done)
    |omega)
  · refine LoopK_n (i4 + 1) ?_ (by omega) (by omega)
    rw [eD1]
    refine X_weak rfl rfl rfl ?_ ?_ <;> repeat' (first|with_reducible (first|exact q_AgS0|exact HLe.nil _|refine HLe.none ?_|refine HLe.cells ?_ ?_|refine HLe.els ?_ ?_|exact SLe.nil|refine SLe.cons ?_ ?_|exact ELe.refl _|refine ELe.c rfl ?_|exact CLe.refl _|exact CLe.nil_row|exact CLe.nil_rowS|exact CLe.nil_tip|exact CLe.nil_tipS|exact CLe.int (by omega)|refine CLe.tip ?_ ?_|refine CLe.tip_row ?_ ?_|refine CLe.row ?_ ?_|refine CLe.tipr_row ?_|refine CLe.rows ?_|refine CLe.tips ?_|refine CLe.int ?_|refine CLe.bool ?_|refine CLe.str ?_|refine CLe.arr ?_ ?_)|refine q_AgS rfl ?_ ?_|exact CLe.nil_tipS|exact CLe.nil_rowS|refine HLe.cells ?_ ?_|refine HLe.els ?_ ?_|refine SLe.cons ?_ ?_|with_reducible rfl|omega)
    all_goals (simp [fLnk, fI, Cur.stepL]; done)
  have x4 : i4 = (((c1.af 1).af 1).af 1).n 1 ∨ D.2.short = true := by rcases hbq with h | h; exact .inl (by omega); exact .inr h
  clear hbq eD1 h1 h2 h3 h4 p1 p2 p3 m3 m4 m5 m6
  obtain ⟨f1, f2⟩ := hend i1 i2 i3 i4 A B C D eA eB eC eD l1 l2 l3 l4 x1 x2 x3 x4
  clear hend
  rw [← f1] at hi2 ⊢
  have hN := rd_number D.2 4 hcD (by omega)
  have hn4 := D.2.n_lt 4
  have hp2 := hi2.2
  have hp3 := (hi2.af 4).2
  have hw : IntKind.u32.wrap (D.2.n 4 : Int) = D.2.n 4 := wrapU32 _ hn4
  cases hss : D.2.short with
  | true =>
    rw [Cur.af_short hss 4] at hN ⊢
    repeat' (first
      |with_reducible (first|refine WR_pp ?_|refine WR_pd ?_|refine W_seq ?_|refine seqK_n ?_|refine seqK_r ?_|refine seqK_e ?_|refine W_block ?_|refine blockK_n ?_|refine blockK_r ?_|refine LoopK_e ?_|refine LoopK_r ?_|refine LoopX_r ?_|refine W_skip ?_|refine W_exit ?_|refine W_ret ?_|refine W_region (WOps_WR ?_)|refine W_draw (WOpsD_WR ?_)|refine WR_nil ?_|refine q_and ?_ ?_|exact True.intro|assumption|refine blockK_e rfl ?_|refine blockK_o (by decide) ?_|refine LoopX_e (by decide) ?_)
      |((with_reducible apply q_call);refine X_call [1] (hN) rfl rfl rfl rfl rfl rfl rfl rfl rfl rfl rfl rfl rfl ?_)
      |((with_reducible apply q_WR);first|refine X_run rfl ?_ ?_|refine WR_nilD (by kernel_rfl) ?_)
      |((with_reducible apply q_cond);refine X_cond rfl ?_ ?_;all_goals (intro hbq;(try simp only [bq] at hbq);(try (exfalso;omega))))
      |((with_reducible apply q_ret);refine X_ret tabOk trivial rfl rfl ?_ ?_)
      |((with_reducible apply q_retP);refine X_retP tabOk trivial rfl rfl ?_ ?_)
      |(intro (hgq : (_ : Bool) = true);(try simp only [bq] at hgq))
      |(intro (hgq : (_ : Bool) = false);(try simp only [bq] at hgq))
      |((with_reducible apply q_VOk);exact fun _ => ⟨rfl,rfl⟩)
      |(intro _;exact rfl)
      |((with_reducible apply q_bt);simp only [bq])
      |((with_reducible apply q_eqN);rfl)
      |with_reducible exact isByte_wrap _
      |with_reducible exact isByte_nat _
      |(simp only [hgq,bq];done)
      |omega)
    · unfold decOf
      rw [if_neg hdr, if_pos hss]
      repeat' (first|with_reducible (first|exact TkEq.nil _|refine TkEq.none ?_|refine TkEq.cells ?_ ?_|refine TkEq.els ?_ ?_|exact SEqL.nil|refine SEqL.cons ?_ ?_|exact TEqL.nil|refine TEqL.c ?_ ?_|refine TEqL.agg ?_ ?_|exact CEq.refl _|refine CEq.int ?_|refine CEq.bool ?_|refine CEq.str ?_|refine CEq.rows ?_|refine CEq.row ?_ ?_|refine CEq.tips ?_|refine CEq.tip ?_ ?_|refine CEq.raw ?_ ?_|refine CEq.arr ?_ ?_)|refine VEq.c ?_|refine VEq.agg ?_|refine VEq.tup ?_|refine TkEq.cells ?_ ?_|refine TkEq.els ?_ ?_|refine SEqL.cons ?_ ?_|refine TEqL.agg ?_ ?_|refine CEq.rows ?_|refine CEq.int ?_|rfl|omega)
    all_goals (exfalso; rw [hss] at hbq; cases hbq)
  | false =>
    have f2 := f2 hss
    rw [← f2] at hC hf ⊢
    have hS := refCrc_okV (s.extract 0 (D.2.pos : Int).toNat) (by simp; omega)
    have hcl := Pl.crc_lt (s.extract 0 D.2.pos).data.toList
    rw [Int.toNat_natCast] at hS
    repeat' (first
      |with_reducible (first|refine WR_pp ?_|refine WR_pd ?_|refine W_seq ?_|refine seqK_n ?_|refine seqK_r ?_|refine seqK_e ?_|refine W_block ?_|refine blockK_n ?_|refine blockK_r ?_|refine LoopK_e ?_|refine LoopK_r ?_|refine LoopX_r ?_|refine W_skip ?_|refine W_exit ?_|refine W_ret ?_|refine W_region (WOps_WR ?_)|refine W_draw (WOpsD_WR ?_)|refine WR_nil ?_|refine q_and ?_ ?_|exact True.intro|assumption|refine blockK_e rfl ?_|refine blockK_o (by decide) ?_|refine LoopX_e (by decide) ?_)
      |((with_reducible apply q_call);first|refine X_call [1] (hN) rfl rfl rfl rfl rfl rfl rfl rfl rfl rfl rfl rfl rfl ?_|refine X_pure (hS) rfl ?_|refine X_pure (hC) rfl ?_)
      |((with_reducible apply q_WR);first|refine X_run rfl ?_ ?_|refine WR_nilD (by kernel_rfl) ?_)
      |((with_reducible apply q_cond);refine X_cond rfl ?_ ?_;all_goals (intro hbq;(try simp only [bq] at hbq);(try (exfalso;omega))))
      |((with_reducible apply q_ret);refine X_ret tabOk trivial rfl rfl ?_ ?_)
      |((with_reducible apply q_retP);refine X_retP tabOk trivial rfl rfl ?_ ?_)
      |(intro (hgq : (_ : Bool) = true);(try simp only [bq] at hgq))
      |(intro (hgq : (_ : Bool) = false);(try simp only [bq] at hgq))
      |((with_reducible apply q_VOk);exact fun _ => ⟨rfl,rfl⟩)
      |(intro _;exact rfl)
      |((with_reducible apply q_bt);simp only [bq])
      |((with_reducible apply q_eqN);rfl)
      |with_reducible exact isByte_wrap _
      |with_reducible exact isByte_nat _
      |(simp only [hgq,bq];done)
      |omega)
    all_goals (clear hN hS hC)
    all_goals (try rw [hw] at *)
    all_goals (unfold decOf)
    all_goals (rw [if_neg hdr])
    all_goals (clear hdr f2 hf)
    all_goals (generalize D.2.n 4 = q at *)
    all_goals (generalize Pl.crc (s.extract 0 D.2.pos).data.toList = z at *)
    all_goals (generalize D.2.af 4 = c3 at *)
    all_goals (repeat' split)
    all_goals (try (exfalso; simp_all; done))
    all_goals (try (exfalso; simp_all; omega))
    all_goals repeat' (first|with_reducible (first|exact TkEq.nil _|refine TkEq.none ?_|refine TkEq.cells ?_ ?_|refine TkEq.els ?_ ?_|exact SEqL.nil|refine SEqL.cons ?_ ?_|exact TEqL.nil|refine TEqL.c ?_ ?_|refine TEqL.agg ?_ ?_|exact CEq.refl _|refine CEq.int ?_|refine CEq.bool ?_|refine CEq.str ?_|refine CEq.rows ?_|refine CEq.row ?_ ?_|refine CEq.tips ?_|refine CEq.tip ?_ ?_|refine CEq.raw ?_ ?_|refine CEq.arr ?_ ?_)|refine VEq.c ?_|refine VEq.agg ?_|refine VEq.tup ?_|refine TkEq.cells ?_ ?_|refine TkEq.els ?_ ?_|refine SEqL.cons ?_ ?_|refine TEqL.agg ?_ ?_|refine CEq.rows ?_|refine CEq.int ?_|rfl|omega)
end Go.Proofs.Ythnfliopmjpdmaa.Av
/- Same reports that two rows that are alike are alike; the two Decodes agree. -/
namespace Go.Proofs.Ythnfliopmjpdmaa.Av
set_option linter.unusedVariables false
set_option linter.unusedSimpArgs false
set_option maxRecDepth 4000
set_option maxHeartbeats 4000000

theorem same_str_ok (l : List ByteArray) (hl : l.length ≤ 9223372036854775807) : OkV Try.prog 34 [.c (rStr l), .c (rStr l)] [] (vB true) [] := by
  refine X_fnP mixedX Try.func34 rfl (by kernel_rfl) (Nat.le_of_ble_eq_true (by kernel_rfl)) (by kernel_rfl) rfl rfl ?_
  simp only [sl0, Nat.zero_add, Nat.reduceAdd]
  repeat' (first
    |with_reducible (first|refine WR_pp ?_|refine WR_pd ?_|refine W_seq ?_|refine seqK_n ?_|refine seqK_r ?_|refine seqK_e ?_|refine W_block ?_|refine blockK_n ?_|refine blockK_r ?_|refine LoopK_e ?_|refine LoopK_r ?_|refine LoopX_r ?_|refine W_skip ?_|refine W_exit ?_|refine W_ret ?_|refine W_region (WOps_WR ?_)|refine W_draw (WOpsD_WR ?_)|refine WR_nil ?_|refine q_and ?_ ?_|exact True.intro|assumption|refine blockK_e rfl ?_|refine blockK_o (by decide) ?_|refine LoopX_e (by decide) ?_)
    |((with_reducible apply q_WR);first|refine X_run rfl ?_ ?_|refine WR_nilD (by kernel_rfl) ?_)
    |((with_reducible apply q_cond);refine X_cond rfl ?_ ?_;all_goals (intro hbq;(try simp only [bq] at hbq);(try (exfalso;omega))))
    |((with_reducible apply q_ret);refine X_ret tabOk trivial rfl rfl ?_ ?_)
    |((with_reducible apply q_retP);refine X_retP tabOk trivial rfl rfl ?_ ?_)
    |(intro (hgq : (_ : Bool) = true);(try simp only [bq] at hgq))
    |(intro (hgq : (_ : Bool) = false);(try simp only [bq] at hgq))
    |((with_reducible apply q_VOk);exact fun _ => ⟨rfl,rfl⟩)
    |(intro _;exact rfl)
    |((with_reducible apply q_bt);simp only [bq])
    |((with_reducible apply q_eqN);rfl)
    |with_reducible exact isByte_wrap _
    |with_reducible exact isByte_nat _
    |(simp only [hgq,bq];done)
    |omega)
  refine W_loopS (fun i : Nat => SS [sC 0 (rStr l), sC 1 (rStr l), sI 12 l.length, sI 13 i] []) (fun i => i ≤ l.length) (fun i => l.length - i) 0 ?_ (by omega) ?_
  ·
    refine X_weak rfl rfl rfl ?_ ?_ <;> repeat' (first|with_reducible (first|exact q_AgS0|exact HLe.nil _|refine HLe.none ?_|refine HLe.cells ?_ ?_|refine HLe.els ?_ ?_|exact SLe.nil|refine SLe.cons ?_ ?_|exact ELe.refl _|refine ELe.c rfl ?_|exact CLe.refl _|exact CLe.nil_row|exact CLe.nil_rowS|exact CLe.nil_tip|exact CLe.nil_tipS|exact CLe.int (by omega)|refine CLe.tip ?_ ?_|refine CLe.tip_row ?_ ?_|refine CLe.row ?_ ?_|refine CLe.tipr_row ?_|refine CLe.rows ?_|refine CLe.tips ?_|refine CLe.int ?_|refine CLe.bool ?_|refine CLe.str ?_|refine CLe.arr ?_ ?_)|refine q_AgS rfl ?_ ?_|exact CLe.nil_tipS|exact CLe.nil_rowS|refine HLe.cells ?_ ?_|refine HLe.els ?_ ?_|refine SLe.cons ?_ ?_|with_reducible rfl|omega)
  · intro i hi
    repeat' (first
      |with_reducible (first|refine WR_pp ?_|refine WR_pd ?_|refine W_seq ?_|refine seqK_n ?_|refine seqK_r ?_|refine seqK_e ?_|refine W_block ?_|refine blockK_n ?_|refine blockK_r ?_|refine LoopK_e ?_|refine LoopK_r ?_|refine LoopX_r ?_|refine W_skip ?_|refine W_exit ?_|refine W_ret ?_|refine W_region (WOps_WR ?_)|refine W_draw (WOpsD_WR ?_)|refine WR_nil ?_|refine q_and ?_ ?_|exact True.intro|assumption|refine blockK_e rfl ?_|refine blockK_o (by decide) ?_|refine LoopX_e (by decide) ?_)
      |((with_reducible apply q_WR);first|refine X_run rfl ?_ ?_|refine WR_nilD (by kernel_rfl) ?_)
      |((with_reducible apply q_cond);refine X_cond rfl ?_ ?_;all_goals (intro hbq;(try simp only [bq] at hbq);(try (exfalso;omega))))
      |((with_reducible apply q_ret);refine X_ret tabOk trivial rfl rfl ?_ ?_)
      |((with_reducible apply q_retP);refine X_retP tabOk trivial rfl rfl ?_ ?_)
      |(intro (hgq : (_ : Bool) = true);(try simp only [bq] at hgq))
      |(intro (hgq : (_ : Bool) = false);(try simp only [bq] at hgq))
      |((with_reducible apply q_VOk);exact fun _ => ⟨rfl,rfl⟩)
      |(intro _;exact rfl)
      |((with_reducible apply q_bt);simp only [bq])
      |((with_reducible apply q_eqN);rfl)
      |with_reducible exact isByte_wrap _
      |with_reducible exact isByte_nat _
      |(simp only [hgq,bq];done)
      |omega)
    all_goals (try (exfalso; simp at hbq; done))
    ·
      refine LoopK_n (i + 1) ?_ ?_ ?_
      rotate_left
      · (try dsimp only); omega
      · (try dsimp only); omega
      refine X_weak rfl rfl rfl ?_ ?_ <;> repeat' (first|with_reducible (first|exact q_AgS0|exact HLe.nil _|refine HLe.none ?_|refine HLe.cells ?_ ?_|refine HLe.els ?_ ?_|exact SLe.nil|refine SLe.cons ?_ ?_|exact ELe.refl _|refine ELe.c rfl ?_|exact CLe.refl _|exact CLe.nil_row|exact CLe.nil_rowS|exact CLe.nil_tip|exact CLe.nil_tipS|exact CLe.int (by omega)|refine CLe.tip ?_ ?_|refine CLe.tip_row ?_ ?_|refine CLe.row ?_ ?_|refine CLe.tipr_row ?_|refine CLe.rows ?_|refine CLe.tips ?_|refine CLe.int ?_|refine CLe.bool ?_|refine CLe.str ?_|refine CLe.arr ?_ ?_)|refine q_AgS rfl ?_ ?_|exact CLe.nil_tipS|exact CLe.nil_rowS|refine HLe.cells ?_ ?_|refine HLe.els ?_ ?_|refine SLe.cons ?_ ?_|with_reducible rfl|omega)
    ·
      repeat' (first|with_reducible (first|exact TkEq.nil _|refine TkEq.none ?_|refine TkEq.cells ?_ ?_|refine TkEq.els ?_ ?_|exact SEqL.nil|refine SEqL.cons ?_ ?_|exact TEqL.nil|refine TEqL.c ?_ ?_|refine TEqL.agg ?_ ?_|exact CEq.refl _|refine CEq.int ?_|refine CEq.bool ?_|refine CEq.str ?_|refine CEq.rows ?_|refine CEq.row ?_ ?_|refine CEq.tips ?_|refine CEq.tip ?_ ?_|refine CEq.raw ?_ ?_|refine CEq.arr ?_ ?_)|refine VEq.c ?_|refine VEq.agg ?_|refine VEq.tup ?_|refine TkEq.cells ?_ ?_|refine TkEq.els ?_ ?_|refine SEqL.cons ?_ ?_|refine TEqL.agg ?_ ?_|refine CEq.rows ?_|refine CEq.int ?_|rfl|omega)
theorem same_sec_ok (l : List Sec) (hl : l.length ≤ 9223372036854775807) : OkV Try.prog 35 [.c (rSec l), .c (rSec l)] [] (vB true) [] := by
  refine X_fnP mixedX Try.func35 rfl (by kernel_rfl) (Nat.le_of_ble_eq_true (by kernel_rfl)) (by kernel_rfl) rfl rfl ?_
  simp only [sl0, Nat.zero_add, Nat.reduceAdd]
  repeat' (first
    |with_reducible (first|refine WR_pp ?_|refine WR_pd ?_|refine W_seq ?_|refine seqK_n ?_|refine seqK_r ?_|refine seqK_e ?_|refine W_block ?_|refine blockK_n ?_|refine blockK_r ?_|refine LoopK_e ?_|refine LoopK_r ?_|refine LoopX_r ?_|refine W_skip ?_|refine W_exit ?_|refine W_ret ?_|refine W_region (WOps_WR ?_)|refine W_draw (WOpsD_WR ?_)|refine WR_nil ?_|refine q_and ?_ ?_|exact True.intro|assumption|refine blockK_e rfl ?_|refine blockK_o (by decide) ?_|refine LoopX_e (by decide) ?_)
    |((with_reducible apply q_WR);first|refine X_run rfl ?_ ?_|refine WR_nilD (by kernel_rfl) ?_)
    |((with_reducible apply q_cond);refine X_cond rfl ?_ ?_;all_goals (intro hbq;(try simp only [bq] at hbq);(try (exfalso;omega))))
    |((with_reducible apply q_ret);refine X_ret tabOk trivial rfl rfl ?_ ?_)
    |((with_reducible apply q_retP);refine X_retP tabOk trivial rfl rfl ?_ ?_)
    |(intro (hgq : (_ : Bool) = true);(try simp only [bq] at hgq))
    |(intro (hgq : (_ : Bool) = false);(try simp only [bq] at hgq))
    |((with_reducible apply q_VOk);exact fun _ => ⟨rfl,rfl⟩)
    |(intro _;exact rfl)
    |((with_reducible apply q_bt);simp only [bq])
    |((with_reducible apply q_eqN);rfl)
    |with_reducible exact isByte_wrap _
    |with_reducible exact isByte_nat _
    |(simp only [hgq,bq];done)
    |omega)
  refine W_loopS (fun i : Nat => SS [sC 0 (rSec l), sC 1 (rSec l), sI 12 l.length, sI 13 i] []) (fun i => i ≤ l.length) (fun i => l.length - i) 0 ?_ (by omega) ?_
  ·
    refine X_weak rfl rfl rfl ?_ ?_ <;> repeat' (first|with_reducible (first|exact q_AgS0|exact HLe.nil _|refine HLe.none ?_|refine HLe.cells ?_ ?_|refine HLe.els ?_ ?_|exact SLe.nil|refine SLe.cons ?_ ?_|exact ELe.refl _|refine ELe.c rfl ?_|exact CLe.refl _|exact CLe.nil_row|exact CLe.nil_rowS|exact CLe.nil_tip|exact CLe.nil_tipS|exact CLe.int (by omega)|refine CLe.tip ?_ ?_|refine CLe.tip_row ?_ ?_|refine CLe.row ?_ ?_|refine CLe.tipr_row ?_|refine CLe.rows ?_|refine CLe.tips ?_|refine CLe.int ?_|refine CLe.bool ?_|refine CLe.str ?_|refine CLe.arr ?_ ?_)|refine q_AgS rfl ?_ ?_|exact CLe.nil_tipS|exact CLe.nil_rowS|refine HLe.cells ?_ ?_|refine HLe.els ?_ ?_|refine SLe.cons ?_ ?_|with_reducible rfl|omega)
  · intro i hi
    repeat' (first
      |with_reducible (first|refine WR_pp ?_|refine WR_pd ?_|refine W_seq ?_|refine seqK_n ?_|refine seqK_r ?_|refine seqK_e ?_|refine W_block ?_|refine blockK_n ?_|refine blockK_r ?_|refine LoopK_e ?_|refine LoopK_r ?_|refine LoopX_r ?_|refine W_skip ?_|refine W_exit ?_|refine W_ret ?_|refine W_region (WOps_WR ?_)|refine W_draw (WOpsD_WR ?_)|refine WR_nil ?_|refine q_and ?_ ?_|exact True.intro|assumption|refine blockK_e rfl ?_|refine blockK_o (by decide) ?_|refine LoopX_e (by decide) ?_)
      |((with_reducible apply q_WR);first|refine X_run rfl ?_ ?_|refine WR_nilD (by kernel_rfl) ?_)
      |((with_reducible apply q_cond);refine X_cond rfl ?_ ?_;all_goals (intro hbq;(try simp only [bq] at hbq);(try (exfalso;omega))))
      |((with_reducible apply q_ret);refine X_ret tabOk trivial rfl rfl ?_ ?_)
      |((with_reducible apply q_retP);refine X_retP tabOk trivial rfl rfl ?_ ?_)
      |(intro (hgq : (_ : Bool) = true);(try simp only [bq] at hgq))
      |(intro (hgq : (_ : Bool) = false);(try simp only [bq] at hgq))
      |((with_reducible apply q_VOk);exact fun _ => ⟨rfl,rfl⟩)
      |(intro _;exact rfl)
      |((with_reducible apply q_bt);simp only [bq])
      |((with_reducible apply q_eqN);rfl)
      |with_reducible exact isByte_wrap _
      |with_reducible exact isByte_nat _
      |(simp only [hgq,bq];done)
      |omega)
    all_goals (try (exfalso; simp at hbq; done))
    ·
      refine LoopK_n (i + 1) ?_ ?_ ?_
      rotate_left
      · (try dsimp only); omega
      · (try dsimp only); omega
      refine X_weak rfl rfl rfl ?_ ?_ <;> repeat' (first|with_reducible (first|exact q_AgS0|exact HLe.nil _|refine HLe.none ?_|refine HLe.cells ?_ ?_|refine HLe.els ?_ ?_|exact SLe.nil|refine SLe.cons ?_ ?_|exact ELe.refl _|refine ELe.c rfl ?_|exact CLe.refl _|exact CLe.nil_row|exact CLe.nil_rowS|exact CLe.nil_tip|exact CLe.nil_tipS|exact CLe.int (by omega)|refine CLe.tip ?_ ?_|refine CLe.tip_row ?_ ?_|refine CLe.row ?_ ?_|refine CLe.tipr_row ?_|refine CLe.rows ?_|refine CLe.tips ?_|refine CLe.int ?_|refine CLe.bool ?_|refine CLe.str ?_|refine CLe.arr ?_ ?_)|refine q_AgS rfl ?_ ?_|exact CLe.nil_tipS|exact CLe.nil_rowS|refine HLe.cells ?_ ?_|refine HLe.els ?_ ?_|refine SLe.cons ?_ ?_|with_reducible rfl|omega)
    ·
      repeat' (first|with_reducible (first|exact TkEq.nil _|refine TkEq.none ?_|refine TkEq.cells ?_ ?_|refine TkEq.els ?_ ?_|exact SEqL.nil|refine SEqL.cons ?_ ?_|exact TEqL.nil|refine TEqL.c ?_ ?_|refine TEqL.agg ?_ ?_|exact CEq.refl _|refine CEq.int ?_|refine CEq.bool ?_|refine CEq.str ?_|refine CEq.rows ?_|refine CEq.row ?_ ?_|refine CEq.tips ?_|refine CEq.tip ?_ ?_|refine CEq.raw ?_ ?_|refine CEq.arr ?_ ?_)|refine VEq.c ?_|refine VEq.agg ?_|refine VEq.tup ?_|refine TkEq.cells ?_ ?_|refine TkEq.els ?_ ?_|refine SEqL.cons ?_ ?_|refine TEqL.agg ?_ ?_|refine CEq.rows ?_|refine CEq.int ?_|rfl|omega)
theorem same_lnk_ok (l : List Lnk) (hl : l.length ≤ 9223372036854775807) : OkV Try.prog 36 [.c (rLnk l), .c (rLnk l)] [] (vB true) [] := by
  refine X_fnP mixedX Try.func36 rfl (by kernel_rfl) (Nat.le_of_ble_eq_true (by kernel_rfl)) (by kernel_rfl) rfl rfl ?_
  simp only [sl0, Nat.zero_add, Nat.reduceAdd]
  repeat' (first
    |with_reducible (first|refine WR_pp ?_|refine WR_pd ?_|refine W_seq ?_|refine seqK_n ?_|refine seqK_r ?_|refine seqK_e ?_|refine W_block ?_|refine blockK_n ?_|refine blockK_r ?_|refine LoopK_e ?_|refine LoopK_r ?_|refine LoopX_r ?_|refine W_skip ?_|refine W_exit ?_|refine W_ret ?_|refine W_region (WOps_WR ?_)|refine W_draw (WOpsD_WR ?_)|refine WR_nil ?_|refine q_and ?_ ?_|exact True.intro|assumption|refine blockK_e rfl ?_|refine blockK_o (by decide) ?_|refine LoopX_e (by decide) ?_)
    |((with_reducible apply q_WR);first|refine X_run rfl ?_ ?_|refine WR_nilD (by kernel_rfl) ?_)
    |((with_reducible apply q_cond);refine X_cond rfl ?_ ?_;all_goals (intro hbq;(try simp only [bq] at hbq);(try (exfalso;omega))))
    |((with_reducible apply q_ret);refine X_ret tabOk trivial rfl rfl ?_ ?_)
    |((with_reducible apply q_retP);refine X_retP tabOk trivial rfl rfl ?_ ?_)
    |(intro (hgq : (_ : Bool) = true);(try simp only [bq] at hgq))
    |(intro (hgq : (_ : Bool) = false);(try simp only [bq] at hgq))
    |((with_reducible apply q_VOk);exact fun _ => ⟨rfl,rfl⟩)
    |(intro _;exact rfl)
    |((with_reducible apply q_bt);simp only [bq])
    |((with_reducible apply q_eqN);rfl)
    |with_reducible exact isByte_wrap _
    |with_reducible exact isByte_nat _
    |(simp only [hgq,bq];done)
    |omega)
  refine W_loopS (fun i : Nat => SS [sC 0 (rLnk l), sC 1 (rLnk l), sI 12 l.length, sI 13 i] []) (fun i => i ≤ l.length) (fun i => l.length - i) 0 ?_ (by omega) ?_
  ·
    refine X_weak rfl rfl rfl ?_ ?_ <;> repeat' (first|with_reducible (first|exact q_AgS0|exact HLe.nil _|refine HLe.none ?_|refine HLe.cells ?_ ?_|refine HLe.els ?_ ?_|exact SLe.nil|refine SLe.cons ?_ ?_|exact ELe.refl _|refine ELe.c rfl ?_|exact CLe.refl _|exact CLe.nil_row|exact CLe.nil_rowS|exact CLe.nil_tip|exact CLe.nil_tipS|exact CLe.int (by omega)|refine CLe.tip ?_ ?_|refine CLe.tip_row ?_ ?_|refine CLe.row ?_ ?_|refine CLe.tipr_row ?_|refine CLe.rows ?_|refine CLe.tips ?_|refine CLe.int ?_|refine CLe.bool ?_|refine CLe.str ?_|refine CLe.arr ?_ ?_)|refine q_AgS rfl ?_ ?_|exact CLe.nil_tipS|exact CLe.nil_rowS|refine HLe.cells ?_ ?_|refine HLe.els ?_ ?_|refine SLe.cons ?_ ?_|with_reducible rfl|omega)
  · intro i hi
    repeat' (first
      |with_reducible (first|refine WR_pp ?_|refine WR_pd ?_|refine W_seq ?_|refine seqK_n ?_|refine seqK_r ?_|refine seqK_e ?_|refine W_block ?_|refine blockK_n ?_|refine blockK_r ?_|refine LoopK_e ?_|refine LoopK_r ?_|refine LoopX_r ?_|refine W_skip ?_|refine W_exit ?_|refine W_ret ?_|refine W_region (WOps_WR ?_)|refine W_draw (WOpsD_WR ?_)|refine WR_nil ?_|refine q_and ?_ ?_|exact True.intro|assumption|refine blockK_e rfl ?_|refine blockK_o (by decide) ?_|refine LoopX_e (by decide) ?_)
      |((with_reducible apply q_WR);first|refine X_run rfl ?_ ?_|refine WR_nilD (by kernel_rfl) ?_)
      |((with_reducible apply q_cond);refine X_cond rfl ?_ ?_;all_goals (intro hbq;(try simp only [bq] at hbq);(try (exfalso;omega))))
      |((with_reducible apply q_ret);refine X_ret tabOk trivial rfl rfl ?_ ?_)
      |((with_reducible apply q_retP);refine X_retP tabOk trivial rfl rfl ?_ ?_)
      |(intro (hgq : (_ : Bool) = true);(try simp only [bq] at hgq))
      |(intro (hgq : (_ : Bool) = false);(try simp only [bq] at hgq))
      |((with_reducible apply q_VOk);exact fun _ => ⟨rfl,rfl⟩)
      |(intro _;exact rfl)
      |((with_reducible apply q_bt);simp only [bq])
      |((with_reducible apply q_eqN);rfl)
      |with_reducible exact isByte_wrap _
      |with_reducible exact isByte_nat _
      |(simp only [hgq,bq];done)
      |omega)
    all_goals (try (exfalso; simp at hbq; done))
    ·
      refine LoopK_n (i + 1) ?_ ?_ ?_
      rotate_left
      · (try dsimp only); omega
      · (try dsimp only); omega
      refine X_weak rfl rfl rfl ?_ ?_ <;> repeat' (first|with_reducible (first|exact q_AgS0|exact HLe.nil _|refine HLe.none ?_|refine HLe.cells ?_ ?_|refine HLe.els ?_ ?_|exact SLe.nil|refine SLe.cons ?_ ?_|exact ELe.refl _|refine ELe.c rfl ?_|exact CLe.refl _|exact CLe.nil_row|exact CLe.nil_rowS|exact CLe.nil_tip|exact CLe.nil_tipS|exact CLe.int (by omega)|refine CLe.tip ?_ ?_|refine CLe.tip_row ?_ ?_|refine CLe.row ?_ ?_|refine CLe.tipr_row ?_|refine CLe.rows ?_|refine CLe.tips ?_|refine CLe.int ?_|refine CLe.bool ?_|refine CLe.str ?_|refine CLe.arr ?_ ?_)|refine q_AgS rfl ?_ ?_|exact CLe.nil_tipS|exact CLe.nil_rowS|refine HLe.cells ?_ ?_|refine HLe.els ?_ ?_|refine SLe.cons ?_ ?_|with_reducible rfl|omega)
    ·
      repeat' (first|with_reducible (first|exact TkEq.nil _|refine TkEq.none ?_|refine TkEq.cells ?_ ?_|refine TkEq.els ?_ ?_|exact SEqL.nil|refine SEqL.cons ?_ ?_|exact TEqL.nil|refine TEqL.c ?_ ?_|refine TEqL.agg ?_ ?_|exact CEq.refl _|refine CEq.int ?_|refine CEq.bool ?_|refine CEq.str ?_|refine CEq.rows ?_|refine CEq.row ?_ ?_|refine CEq.tips ?_|refine CEq.tip ?_ ?_|refine CEq.raw ?_ ?_|refine CEq.arr ?_ ?_)|refine VEq.c ?_|refine VEq.agg ?_|refine VEq.tup ?_|refine TkEq.cells ?_ ?_|refine TkEq.els ?_ ?_|refine SEqL.cons ?_ ?_|refine TEqL.agg ?_ ?_|refine CEq.rows ?_|refine CEq.int ?_|rfl|omega)
structure LayLens (L : Lay) : Prop where
  m1 : L.sts.length ≤ 9223372036854775807
  m2 : L.pts.length ≤ 9223372036854775807
  m3 : L.secs.length ≤ 9223372036854775807
  m4 : L.lnks.length ≤ 9223372036854775807
theorem LayFits.lens {L : Lay} (h : LayFits L) : LayLens L := ⟨h.m1, h.m2, h.m3, h.m4⟩
theorem sameLayout_ok (L : Lay) (hL : LayLens L) : OkV Try.prog 21 [vLay L, vLay L] [] (vB true) [] := by
  have h1 := same_str_ok L.sts hL.m1
  have h2 := same_str_ok L.pts hL.m2
  have h3 := same_sec_ok L.secs hL.m3
  have h4 := same_lnk_ok L.lnks hL.m4
  refine X_fnP mixedX Try.func21 rfl (by kernel_rfl) (Nat.le_of_ble_eq_true (by kernel_rfl)) (by kernel_rfl) rfl rfl ?_
  simp only [sl0, Nat.zero_add, Nat.reduceAdd]
  repeat' (first
    |with_reducible (first|refine WR_pp ?_|refine WR_pd ?_|refine W_seq ?_|refine seqK_n ?_|refine seqK_r ?_|refine seqK_e ?_|refine W_block ?_|refine blockK_n ?_|refine blockK_r ?_|refine LoopK_e ?_|refine LoopK_r ?_|refine LoopX_r ?_|refine W_skip ?_|refine W_exit ?_|refine W_ret ?_|refine W_region (WOps_WR ?_)|refine W_draw (WOpsD_WR ?_)|refine WR_nil ?_|refine q_and ?_ ?_|exact True.intro|assumption|refine blockK_e rfl ?_|refine blockK_o (by decide) ?_|refine LoopX_e (by decide) ?_)
    |((with_reducible apply q_call);refine X_pure (h1) rfl ?_)
    |((with_reducible apply q_callG);refine X_pureG ((fun _ => h2)) rfl ?_ ?_)
    |((with_reducible apply q_callG);refine X_pureG ((fun _ => h3)) rfl ?_ ?_)
    |((with_reducible apply q_callG);refine X_pureG ((fun _ => h4)) rfl ?_ ?_)
    |((with_reducible apply q_WR);first|refine X_run rfl ?_ ?_|refine WR_nilD (by kernel_rfl) ?_)
    |((with_reducible apply q_cond);refine X_cond rfl ?_ ?_;all_goals (intro hbq;(try simp only [bq] at hbq);(try (exfalso;omega))))
    |((with_reducible apply q_ret);refine X_ret tabOk trivial rfl rfl ?_ ?_)
    |((with_reducible apply q_retP);refine X_retP tabOk trivial rfl rfl ?_ ?_)
    |(intro (hgq : (_ : Bool) = true);(try simp only [bq] at hgq))
    |(intro (hgq : (_ : Bool) = false);(try simp only [bq] at hgq))
    |((with_reducible apply q_VOk);exact fun _ => ⟨rfl,rfl⟩)
    |(intro _;exact rfl)
    |((with_reducible apply q_bt);simp only [bq])
    |((with_reducible apply q_eqN);rfl)
    |with_reducible exact isByte_wrap _
    |with_reducible exact isByte_nat _
    |(simp only [hgq,bq];done)
    |omega)
  rfl
theorem decode_fits (s : ByteArray) : LayFits (decode s).1 := by
  have hi1 : ((Cur.of s).af 4).In s := Cur.In.af ⟨rfl, Nat.zero_le _⟩ 4
  have hf := (lay_in hi1).2
  have he : LayFits emptyL := ⟨fun x hx => (by cases hx), fun x hx => (by cases hx), fun x hx => (by cases hx), Nat.zero_le _, Nat.zero_le _, Nat.zero_le _, Nat.zero_le _⟩
  unfold decode decOf
  repeat' split
  all_goals first | exact he | exact hf
theorem decodes_ok (s : ByteArray) (hs : s.size < 9223372036854775807) : OkV Try.prog 17 [vS s] [] (vB true) [] := by
  have h1 := decode_ok s hs
  have h2 := refDecode_ok s hs
  have h3 := sameLayout_ok (decode s).1 (decode_fits s).lens
  revert h1 h2 h3
  generalize decode s = D
  intro h1 h2 h3
  obtain ⟨L, p, e⟩ := D
  refine X_fnP mixedX Try.func17 rfl (by kernel_rfl) (Nat.le_of_ble_eq_true (by kernel_rfl)) (by kernel_rfl) rfl rfl ?_
  simp only [sl0, Nat.zero_add, Nat.reduceAdd]
  repeat' (first
    |with_reducible (first|refine WR_pp ?_|refine WR_pd ?_|refine W_seq ?_|refine seqK_n ?_|refine seqK_r ?_|refine seqK_e ?_|refine W_block ?_|refine blockK_n ?_|refine blockK_r ?_|refine LoopK_e ?_|refine LoopK_r ?_|refine LoopX_r ?_|refine W_skip ?_|refine W_exit ?_|refine W_ret ?_|refine W_region (WOps_WR ?_)|refine W_draw (WOpsD_WR ?_)|refine WR_nil ?_|refine q_and ?_ ?_|exact True.intro|assumption|refine blockK_e rfl ?_|refine blockK_o (by decide) ?_|refine LoopX_e (by decide) ?_)
    |((with_reducible apply q_call);first|refine X_pure (h1) rfl ?_|refine X_pure (h2) rfl ?_|refine X_pure (h3) rfl ?_)
    |((with_reducible apply q_WR);first|refine X_run rfl ?_ ?_|refine WR_nilD (by kernel_rfl) ?_)
    |((with_reducible apply q_cond);refine X_cond rfl ?_ ?_;all_goals (intro hbq;(try simp only [bq] at hbq);(try (exfalso;omega))))
    |((with_reducible apply q_ret);refine X_ret tabOk trivial rfl rfl ?_ ?_)
    |((with_reducible apply q_retP);refine X_retP tabOk trivial rfl rfl ?_ ?_)
    |(intro (hgq : (_ : Bool) = true);(try simp only [bq] at hgq))
    |(intro (hgq : (_ : Bool) = false);(try simp only [bq] at hgq))
    |((with_reducible apply q_VOk);exact fun _ => ⟨rfl,rfl⟩)
    |(intro _;exact rfl)
    |((with_reducible apply q_bt);simp only [bq])
    |((with_reducible apply q_eqN);rfl)
    |with_reducible exact isByte_wrap _
    |with_reducible exact isByte_nat _
    |(simp only [hgq,bq];done)
    |omega)
  refine VEq.c (CEq.bool ?_)
  simp
end Go.Proofs.Ythnfliopmjpdmaa.Av
