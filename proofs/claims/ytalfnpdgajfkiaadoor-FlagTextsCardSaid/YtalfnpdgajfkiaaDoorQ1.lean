/- Seat D, definitions: the flag's books, functions of the first layer as they are told. -/
import Derived.Test.YtalfnpdgajfkiaaDoorQ0
namespace Go.Proofs.YtalfnpdgajfkiaaDoor.Ax
open Go

structure Mng where
  n : Int
  s : ByteArray
deriving DecidableEq
def encM (m : Mng) : PV := .agg [I m.n, S m.s]
def decM (x : PV) : Mng := ⟨getI (cellAt x 0), getS (cellAt x 1)⟩
def okM : PV → Bool
  | .agg [.lit (.int .i64 _), .lit (.string _)] => true
  | _ => false
def okB (b : UInt8) : Bool := decide (32 ≤ b.toNat) && decide (b.toNat ≤ 126)
def numOk (n : Int) : Bool := leI 0 n && leI n 9999
def lenOk (s : ByteArray) : Bool := decide (1 ≤ s.size) && decide (s.size ≤ 60)
def sOk (s : ByteArray) : Bool := s.data.toList.all okB
def mngOk (m : Mng) : Bool := sOk m.s && numOk m.n && lenOk m.s
/-- The first letter that is odd, or -1. -/
def oddFrom (l : List UInt8) (k : Nat) : Int := match l.findIdx? fun b => !okB b with
  | some i => ((i + k : Nat) : Int)
  | none => -1
def oddIdx (s : ByteArray) : Int := oddFrom s.data.toList 0
def isFn (g : FuncId) : PV → Bool
  | .lit (.func (.func g') a b) => decide (g' = g) && a.isEmpty && b.isEmpty
  | _ => false
def h50 : PK := fun xs K => match xs with
  | [.lit (.int .i64 a), .lit (.int .i64 lo), .lit (.int .i64 hi)] => K [B (leI lo a && leI a hi)]
  | _ => none
def h100 : PK := fun xs K => match xs with
  | [.agg [.lit (.int .i64 a), .lit (.string s)]] => cond (decide (s.size < 4611686018427387904)) (K [B (sOk s && numOk a && lenOk s)]) none
  | _ => none
def small (l : List PV) : Bool := decide (l.length < 4611686018427387904)
def h11 : PK := fun xs K => match xs with
  | [.sl 2 l, .sl 2 r] => cond (l.all okM && r.all okM && small l && small r) (K [B (decide (l.map decM = r.map decM))]) none
  | _ => none
def h142 : PK := fun xs K => match xs with
  | [.lit (.string s), f, .lit (.bool true)] => cond (isFn 48 f) (K [I (oddIdx s)]) none
  | _ => none
def pk1 : List (Nat × PK) := (50, h50) :: (100, h100) :: (11, h11) :: (142, h142) :: pk0
end Go.Proofs.YtalfnpdgajfkiaaDoor.Ax
