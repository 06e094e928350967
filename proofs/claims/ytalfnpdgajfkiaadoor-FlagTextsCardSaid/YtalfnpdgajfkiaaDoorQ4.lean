/- Seat D, definitions: how texts of books are read. -/
import Derived.Test.YtalfnpdgajfkiaaDoorQ3
namespace Go.Proofs.YtalfnpdgajfkiaaDoor.Ax
open Go

def nl : ByteArray := ⟨#[10]⟩
def sp : ByteArray := ⟨#[32]⟩
/-- What the first line says. -/
def pM (s : ByteArray) : Mng := ⟨atoiV (cutA (cutA s nl) sp), cutB (cutA s nl) sp⟩
/-- Is the first line one of a book's, behind these? -/
def pGood (s : ByteArray) (b : List Mng) : Bool := cutOk s nl && decide ((itoaS (pM s).n ++ sp) ++ (pM s).s = cutA s nl) && validBook (b ++ [pM s])
def pRun : Nat → ByteArray → List Mng → Nat → Bool × List Mng × Nat
  | 0, _, _, _ => (false, [], 0)
  | k + 1, s, b, n => if s.size = 0 then (true, b, 0) else if pGood s b then pRun k (cutB s nl) (b ++ [pM s]) (n + 1) else (false, [], n)
def pOk (s : ByteArray) : Bool := (pRun (s.size + 1) s [] 0).1
def pBook (s : ByteArray) : List Mng := (pRun (s.size + 1) s [] 0).2.1
def pLine (s : ByteArray) : Nat := (pRun (s.size + 1) s [] 0).2.2
def hParse : PK := fun xs K => match xs with
  | [.lit (.string s)] => cond (decide (65536 < s.size)) (K [.lit (.slice none 0 0), I 0, I 3])
      (cond (pOk s) (K [.sl 2 ((pBook s).map encM), I 0, I 0]) (K [.lit (.slice none 0 0), I (pLine s : Nat), I 2]))
  | _ => none
def pk4 : List (Nat × PK) := (9, hParse) :: (10, hParse) :: pk3
end Go.Proofs.YtalfnpdgajfkiaaDoor.Ax
