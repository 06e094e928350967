/- Seat D, definitions: tables. -/
import Derived.Test.YtalfnpdgajfkiaaDoorAxQ
namespace Go.Proofs.YtalfnpdgajfkiaaDoor.Ax
open Go

def ipT : IpT := [(101, copyCheckH 70), (47, stringH 70 5)]
/-- How functions' data are handed over. -/
def sigT : SigT := [(41, [[], []], true), (42, [[]], true), (43, [[], []], true), (44, [[]], true), (50, [[], [], []], true), (11, [[some 2], [some 2]], true), (100, [[]], true), (142, [[], [], []], true),  
  (45, [[some 2]], true), (14, [[some 2]], true), (12, [[some 2]], true), (13, [[some 2]], true), (9, [[]], true), (10, [[]], true), (7, [[some 2]], true), (8, [], true), (22, [[some 1], [some 1]], true),
  (91, [[], []], true), (90, [[]], true), (40, [[]], true), (39, [[]], true), (92, [[]], true), (93, [[]], true), (94, [[]], true)]
def pk0 : List (Nat × PK) := [(41, cutH), (42, atoiH), (43, prefixH), (44, itoaH)]
abbrev I (n : Int) : PV := .lit (.int .i64 n)
abbrev S (s : ByteArray) : PV := .lit (.string s)
abbrev B (b : Bool) : PV := .lit (.bool b)
end Go.Proofs.YtalfnpdgajfkiaaDoor.Ax
