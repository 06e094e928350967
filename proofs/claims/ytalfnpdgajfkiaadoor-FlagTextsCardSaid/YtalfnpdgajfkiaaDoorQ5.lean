/- Seat D, definitions: books that are looked at. -/
import Derived.Test.YtalfnpdgajfkiaaDoorQ4
namespace Go.Proofs.YtalfnpdgajfkiaaDoor.Ax
open Go

def fitB (l : List Mng) : Bool := l.all (fun m => decide (m.s.size ≤ 100)) && (decide (l.length ≤ 40) || (decide (200 ≤ l.length) && decide (l.length ≤ 203)))
def h7 : PK := fun xs K => match xs with
  | [.sl 2 l] => cond (l.all okM && small l) (K [B (fitB (l.map decM))]) none
  | _ => none
def h8 : PK := fun xs K => match xs with
  | [] => K [B true]
  | _ => none
def pk5 : List (Nat × PK) := (7, h7) :: (8, h8) :: pk4
end Go.Proofs.YtalfnpdgajfkiaaDoor.Ax
