/- The equations of functions, printed by tools/eqs.lean; environment E0. -/
import Derived.Test.YtalfnpdgajfkiaaDoorD1
import Derived.KernelRfl
namespace Go.Proofs.YtalfnpdgajfkiaaDoor.Ax
open Go
set_option maxRecDepth 100000
set_option linter.unusedVariables false
noncomputable def E0 : Env := mkE Tryd.prog T sigT pk0 ipT [(100, 2, ⟨[], [], [1, 2, 6, 7]⟩),
  (11, 4, ⟨[], [], [0, 1, 4, 12, 13]⟩),
  (142, 2, ⟨[], [], [1, 2, 6, 10]⟩)]
theorem e50 (N : Nat) (a : Int) (lo : Int) (hi : Int) : runPV E0 N 10 50 [(I a), (I lo), (I hi)] = (cond (leI lo a)
  (some [(PV.lit (Value.bool (leI a hi)))])
  (some [(PV.lit (Value.bool Bool.false))])) := by kernel_rfl

def S100_0 (a : Int) (s : ByteArray) (v0 : Int) : St := (St.mk [(1, (AV.ptr 64 0 0 0)), (2, (AV.p (PV.lit (Value.bool Bool.false)))), (6, (AV.p (PV.lit (Value.int IntKind.i64 (((ByteArray.size s) : Nat) : Int))))), (7, (AV.p (PV.lit (Value.int IntKind.i64 v0))))] [] [(64, (Blk.vars [(AV.p (PV.lit (Value.int IntKind.i64 a))), (AV.p (PV.lit (Value.string s)))]))])
noncomputable def L100_0 (N : Nat) (m : Nat) (a : Int) (s : ByteArray) (v0 : Int) : R := Lp E0 N 9 100 0 [1, 0, 1, 0] [] m (S100_0 a s v0) (kM E0 100)
theorem e100 (N : Nat) (a : Int) (s : ByteArray) : runPV E0 N 10 100 [(PV.agg [(I a), (S s)])] = (L100_0 N N a s (0 : Int)) := by kernel_rfl
theorem l100_0 (N : Nat) (m : Nat) (a : Int) (s : ByteArray) (v0 : Int) : L100_0 N (m + 1) a s v0 = (cond (ltI v0 (((ByteArray.size s) : Nat) : Int))
  (cond ((leI (0 : Int) v0) && (decide ((Int.toNat v0) < (ByteArray.size s))))
    (cond (ltI (((UInt8.toNat (Array.getD (ByteArray.data s) (Int.toNat v0) (0 : UInt8))) : Nat) : Int) (32 : Int))
      (some [(PV.lit (Value.bool Bool.false))])
      (cond ((leI (0 : Int) v0) && (decide ((Int.toNat v0) < (ByteArray.size s))))
        (cond (ltI (126 : Int) (((UInt8.toNat (Array.getD (ByteArray.data s) (Int.toNat v0) (0 : UInt8))) : Nat) : Int))
          (some [(PV.lit (Value.bool Bool.false))])
          (L100_0 N m a s (IntKind.wrap IntKind.i64 (v0 + (1 : Int)))))
        none))
    none)
  (cond (leI (0 : Int) a)
    (cond (leI a (9999 : Int))
      (cond (leI (1 : Int) (((ByteArray.size s) : Nat) : Int))
        (some [(PV.lit (Value.bool (leI (((ByteArray.size s) : Nat) : Int) (60 : Int))))])
        (some [(PV.lit (Value.bool Bool.false))]))
      (some [(PV.lit (Value.bool Bool.false))]))
    (some [(PV.lit (Value.bool Bool.false))]))) := by kernel_rfl

def S11_0 (xs : List PV) (ys : List PV) (v0 : Int) : St := (St.mk [(0, (AV.p (PV.sl 2 xs))), (1, (AV.p (PV.sl 2 ys))), (4, (AV.p (PV.lit (Value.bool Bool.false)))), (12, (AV.p (PV.lit (Value.int IntKind.i64 (((List.length xs) : Nat) : Int))))), (13, (AV.p (PV.lit (Value.int IntKind.i64 v0))))] [] [])
noncomputable def L11_0 (N : Nat) (m : Nat) (xs : List PV) (ys : List PV) (v0 : Int) : R := Lp E0 N 9 11 0 [1, 1, 0, 1, 0] [] m (S11_0 xs ys v0) (kM E0 11)
theorem e11 (N : Nat) (xs : List PV) (ys : List PV) : runPV E0 N 10 11 [(PV.sl 2 xs), (PV.sl 2 ys)] = (cond ((((List.length xs) : Nat) : Int) != (((List.length ys) : Nat) : Int))
  (some [(PV.lit (Value.bool Bool.false))])
  (L11_0 N N xs ys (0 : Int))) := by kernel_rfl
theorem l11_0 (N : Nat) (m : Nat) (xs : List PV) (ys : List PV) (v0 : Int) : L11_0 N (m + 1) xs ys v0 = (cond (ltI v0 (((List.length xs) : Nat) : Int))
  (cond ((leI (0 : Int) v0) && (ltI v0 (((List.length xs) : Nat) : Int)))
    (cond (okCs ([(CK.int IntKind.i64)] ++ ([CK.str] ++ [])) (nthP xs (Int.toNat v0)) 0)
      (cond ((leI (0 : Int) v0) && (ltI v0 (((List.length ys) : Nat) : Int)))
        (cond (okCs ([(CK.int IntKind.i64)] ++ ([CK.str] ++ [])) (nthP ys (Int.toNat v0)) 0)
          (cond (!(((getI (cellAt (nthP xs (Int.toNat v0)) 0)) == (getI (cellAt (nthP ys (Int.toNat v0)) 0))) && (((getS (cellAt (nthP xs (Int.toNat v0)) (0 + 1))) == (getS (cellAt (nthP ys (Int.toNat v0)) (0 + 1)))) && Bool.true)))
            (some [(PV.lit (Value.bool Bool.false))])
            (L11_0 N m xs ys (IntKind.wrap IntKind.i64 (v0 + (1 : Int)))))
          none)
        none)
      none)
    none)
  (some [(PV.lit (Value.bool Bool.true))])) := by kernel_rfl

def S142_0 (s : ByteArray) (v0 : Nat) : St := (St.mk [(1, (AV.fn (Fn.func 48) [])), (2, (AV.p (PV.lit (Value.bool Bool.true)))), (6, (AV.p (PV.lit (Value.int IntKind.i64 (0 : Int))))), (10, (AV.ptr 640 0 0 0))] [] [(640, (Blk.iter s v0))])
noncomputable def L142_0 (N : Nat) (m : Nat) (s : ByteArray) (v0 : Nat) : R := Lp E0 N 9 142 0 [1, 0, 1, 0] [] m (S142_0 s v0) (kM E0 142)
theorem e142 (N : Nat) (s : ByteArray) : runPV E0 N 10 142 [(S s), (PV.lit (Value.func (Fn.func (48 : FuncId)) (List.toArray []) (List.toArray []))), (B Bool.true)] = (L142_0 N N s 0) := by kernel_rfl
theorem l142_0 (N : Nat) (m : Nat) (s : ByteArray) (v0 : Nat) : L142_0 N (m + 1) s v0 = (cond (decide (v0 < (ByteArray.size s)))
  (cond (ltI (((Prod.fst (Utf8.decode s v0)) : Nat) : Int) (32 : Int))
    (some [(PV.lit (Value.int IntKind.i64 ((v0 : Nat) : Int)))])
    (cond ((ltI (126 : Int) (((Prod.fst (Utf8.decode s v0)) : Nat) : Int)) == Bool.true)
      (some [(PV.lit (Value.int IntKind.i64 ((v0 : Nat) : Int)))])
      (L142_0 N m s (v0 + (Prod.snd (Utf8.decode s v0))))))
  (some [(PV.lit (Value.int IntKind.i64 (-1 : Int)))])) := by kernel_rfl

end Go.Proofs.YtalfnpdgajfkiaaDoor.Ax
