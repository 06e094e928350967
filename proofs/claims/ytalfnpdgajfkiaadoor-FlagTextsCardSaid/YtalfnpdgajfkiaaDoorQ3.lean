/- Seat D, definitions: texts of books. -/
import Derived.Test.YtalfnpdgajfkiaaDoorQ2
namespace Go.Proofs.YtalfnpdgajfkiaaDoor.Ax
open Go

def toB (l : List UInt8) : ByteArray := ⟨l.toArray⟩
def lineB (m : Mng) : List UInt8 := Lib.itoa m.n ++ [32] ++ m.s.data.toList ++ [10]
def fmtB : List Mng → List UInt8
  | [] => []
  | m :: r => lineB m ++ fmtB r
def fmt (l : List Mng) : ByteArray := if validBook l then toB (fmtB l) else ⟨#[]⟩
def h12 : PK := fun xs K => match xs with
  | [.sl 2 l] => cond (l.all okM && small l) (K [S (fmt (l.map decM))]) none
  | _ => none
def h13 : PK := fun xs K => match xs with
  | [.sl 2 l] => cond (l.all okM && small l && l.all smallS) (K [S (fmt (l.map decM))]) none
  | _ => none
def pk3 : List (Nat × PK) := (12, h12) :: (13, h13) :: pk2
end Go.Proofs.YtalfnpdgajfkiaaDoor.Ax
