/- Seat D, definitions: valid books. -/
import Derived.Test.YtalfnpdgajfkiaaDoorQ1
namespace Go.Proofs.YtalfnpdgajfkiaaDoor.Ax
open Go

/-- Books from a place on: p is the number ahead. -/
def validFrom : Option Int → List Mng → Bool
  | _, [] => true
  | p, m :: r => (match p with
      | none => true
      | some p => decide (p < m.n)) && mngOk m && validFrom (some m.n) r
def validBook (l : List Mng) : Bool := validFrom none l && decide (l.length ≤ 200)
def smallS (x : PV) : Bool := decide ((getS (cellAt x 1)).size < 4611686018427387904)
def h45 : PK := fun xs K => match xs with
  | [.sl 2 l] => cond (l.all okM && small l && l.all smallS) (K [B (validBook (l.map decM))]) none
  | _ => none
def h14 : PK := fun xs K => match xs with
  | [.sl 2 l] => cond (l.all okM && small l) (K [B (validBook (l.map decM))]) none
  | _ => none
def pk2 : List (Nat × PK) := (45, h45) :: (14, h14) :: pk1
end Go.Proofs.YtalfnpdgajfkiaaDoor.Ax
