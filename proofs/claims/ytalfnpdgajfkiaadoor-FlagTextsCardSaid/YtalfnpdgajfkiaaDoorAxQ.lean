/- 'Ax', definitions: functions of the library as they are told; environments by lists. -/
import Derived.Test.YtalfnpdgajfkiaaDoorAx0
import Derived.Lib.Strings
import Derived.Lib.IndexMore
import Derived.Lib.ItoaNum
import Derived.Lib.AtoiAll
namespace Go.Proofs.YtalfnpdgajfkiaaDoor.Ax
open Go

/-- copyCheck: a builder's own address may be laid; it is hidden. -/
def copyCheckH (T : TypeId) : List AV → HP → List TM → (List AV → HP → List TM → R) → R := fun args hp up K =>
  match args with
  | [.ptr b 0 0 0] => match look hp b with
    | some (.vars [.son b' t, _]) => if b' = b ∧ t = T then K [] hp up else none
    | _ => none
  | _ => none
def okU8 : PV → Bool
  | .lit (.int .u8 n) => leI 0 n && ltI n 256
  | _ => false
def toBA (l : List PV) : ByteArray := ⟨(l.map fun x => UInt8.ofNat (getI x).toNat).toArray⟩
/-- String: the buffer's bytes; the buffer is the call's own no more. -/
def stringH (T e : TypeId) : List AV → HP → List TM → (List AV → HP → List TM → R) → R := fun args hp up K =>
  match args with
  | [.ptr b 0 0 0] => match look hp b with
    | some (.vars [.son b' t, .p (.lit (.slice none 0 0))]) => if b' = b ∧ t = T then K [.p (.lit (.string ⟨#[]⟩))] hp up else none
    | some (.vars [.son b' t, .tsl e' id 1 0 n]) => if b' = b ∧ t = T ∧ e' = e then (match look hp id with
      | some (.row 1 l) => cond ((l.take n).all okU8 && decide (n ≤ 9223372036854775807)) (K [.p (.lit (.string (toBA (l.take n))))] (purgeH id (del hp id)) (up.map (purgeT id))) none
      | _ => none) else none
    | _ => none
  | _ => none
abbrev PK := List PV → (List PV → R) → R
def cutA (s p : ByteArray) : ByteArray := ⟨(Lib.cut s.data.toList p.data.toList).1.toArray⟩
def cutB (s p : ByteArray) : ByteArray := ⟨(Lib.cut s.data.toList p.data.toList).2.1.toArray⟩
def cutOk (s p : ByteArray) : Bool := (Lib.cut s.data.toList p.data.toList).2.2
def cutH : PK := fun xs K => match xs with
  | [.lit (.string s), .lit (.string p)] => cond (decide (s.size < 4294967281)) (K [.lit (.string (cutA s p)), .lit (.string (cutB s p)), .lit (.bool (cutOk s p))]) none
  | _ => none
def prefixB (s p : ByteArray) : Bool := Lib.hasPrefix s.data.toList p.data.toList
def prefixH : PK := fun xs K => match xs with
  | [.lit (.string s), .lit (.string p)] => K [.lit (.bool (prefixB s p))]
  | _ => none
def itoaS (n : Int) : ByteArray := ⟨(Lib.itoa n).toArray⟩
def itoaH : PK := fun xs K => match xs with
  | [.lit (.int .i64 n)] => cond (leI (-9223372036854775808) n && leI n 9223372036854775807) (K [.lit (.string (itoaS n))]) none
  | _ => none
def atoiOk (s : ByteArray) : Bool := match Lib.atoiAll s.data.toList with
  | .ok _ => true
  | _ => false
def atoiV (s : ByteArray) : Int := match Lib.atoiAll s.data.toList with
  | .ok v => v
  | .range => Lib.atoiSat s.data.toList
  | _ => 0
def atoiH : PK := fun xs K => match xs with
  | [.lit (.string s)] => cond (decide (s.size ≤ 281474976710656)) (cond (atoiOk s) (K [.lit (.int .i64 (atoiV s)), .lit .nilIface]) (K [.lit (.int .i64 (atoiV s)), .ifc])) none
  | _ => none
abbrev SigT := List (Nat × List (List (Option Nat)) × Bool)
def mkE (P : Program) (T : World → Prop) (sg : SigT) (pk : List (Nat × PK)) (ip : List (Nat × (List AV → HP → List TM → (List AV → HP → List TM → R) → R))) (mk : List (Nat × Nat × Mask)) : Env :=
  { P := P, T := T, sig := look sg, prim := fun _ => none, pk := look pk, ipk := look ip, mask := maskIn mk, okf := fun _ => true }
abbrev IpT := List (Nat × (List AV → HP → List TM → (List AV → HP → List TM → R) → R))
end Go.Proofs.YtalfnpdgajfkiaaDoor.Ax
