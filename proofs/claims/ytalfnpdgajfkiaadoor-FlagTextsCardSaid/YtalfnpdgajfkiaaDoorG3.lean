/- The equations of functions, printed by tools/eqs.lean; environment E2. -/
import Derived.Test.YtalfnpdgajfkiaaDoorD3
import Derived.KernelRfl
namespace Go.Proofs.YtalfnpdgajfkiaaDoor.Ax
open Go
set_option maxRecDepth 100000
set_option linter.unusedVariables false
noncomputable def E2 : Env := mkE Tryd.prog T sigT pk2 ipT [(12, 5, ⟨[], [(3, 1, 327681)], [2, 3, 9, 10, 11]⟩),
  (13, 5, ⟨[], [], [2, 3, 9, 10, 11]⟩)]
def S12_0 (xs : List PV) (v0 : Int) (v1 : Nat) (v2 : List PV) : St := (St.mk [(2, (AV.p (PV.lit (Value.string (ByteArray.mk (List.toArray [])))))), (3, (AV.ptr 192 0 0 0)), (9, (AV.p (PV.sl 2 xs))), (10, (AV.p (PV.lit (Value.int IntKind.i64 (((List.length xs) : Nat) : Int))))), (11, (AV.p (PV.lit (Value.int IntKind.i64 v0))))] [] [(192, (Blk.vars [(AV.son 192 70), (AV.tsl 5 226 1 0 v1)])), (226, (Blk.row 1 v2))])
noncomputable def L12_0 (N : Nat) (m : Nat) (xs : List PV) (v0 : Int) (v1 : Nat) (v2 : List PV) : R := Lp E2 N 9 12 0 [1, 1, 1, 0, 1, 0] [] m (S12_0 xs v0 v1 v2) (kM E2 12)
theorem e12 (N : Nat) (xs : List PV) : runPV E2 N 10 12 [(PV.sl 2 xs)] = (cond ((List.all xs @okM) && (small xs))
  (cond (!(validBook (List.map @decM xs)))
    (some [(PV.lit (Value.string (ByteArray.mk (List.toArray []))))])
    (L12_0 N N xs (0 : Int) 0 []))
  none) := by kernel_rfl
theorem l12_0 (N : Nat) (m : Nat) (xs : List PV) (v0 : Int) (v1 : Nat) (v2 : List PV) : L12_0 N (m + 1) xs v0 v1 v2 = (cond (ltI v0 (((List.length xs) : Nat) : Int))
  (cond ((leI (0 : Int) v0) && (ltI v0 (((List.length xs) : Nat) : Int)))
    (cond (okCs ([(CK.int IntKind.i64)] ++ ([CK.str] ++ [])) (nthP xs (Int.toNat v0)) 0)
      (cond ((leI (-(9223372036854775808 : Int)) (getI (cellAt (nthP xs (Int.toNat v0)) 0))) && (leI (getI (cellAt (nthP xs (Int.toNat v0)) 0)) (9223372036854775807 : Int)))
        (cond (decide (((ByteArray.size (itoaS (getI (cellAt (nthP xs (Int.toNat v0)) 0)))) + (ByteArray.size (ByteArray.mk (List.toArray [(32 : UInt8)])))) ≤ 9223372036854775807))
          (cond (decide (((ByteArray.size ((itoaS (getI (cellAt (nthP xs (Int.toNat v0)) 0))) ++ (ByteArray.mk (List.toArray [(32 : UInt8)])))) + (ByteArray.size (getS (cellAt (nthP xs (Int.toNat v0)) (0 + 1))))) ≤ 9223372036854775807))
            (cond (decide (((ByteArray.size (((itoaS (getI (cellAt (nthP xs (Int.toNat v0)) 0))) ++ (ByteArray.mk (List.toArray [(32 : UInt8)]))) ++ (getS (cellAt (nthP xs (Int.toNat v0)) (0 + 1))))) + (ByteArray.size (ByteArray.mk (List.toArray [(10 : UInt8)])))) ≤ 9223372036854775807))
              (cond (decide ((v1 + (List.length (bytesPV ((((itoaS (getI (cellAt (nthP xs (Int.toNat v0)) 0))) ++ (ByteArray.mk (List.toArray [(32 : UInt8)]))) ++ (getS (cellAt (nthP xs (Int.toNat v0)) (0 + 1)))) ++ (ByteArray.mk (List.toArray [(10 : UInt8)])))))) < 2147483648))
                (L12_0 N m xs (IntKind.wrap IntKind.i64 (v0 + (1 : Int))) (List.length ((List.take v1 v2) ++ (bytesPV ((((itoaS (getI (cellAt (nthP xs (Int.toNat v0)) 0))) ++ (ByteArray.mk (List.toArray [(32 : UInt8)]))) ++ (getS (cellAt (nthP xs (Int.toNat v0)) (0 + 1)))) ++ (ByteArray.mk (List.toArray [(10 : UInt8)])))))) ((List.take v1 v2) ++ (bytesPV ((((itoaS (getI (cellAt (nthP xs (Int.toNat v0)) 0))) ++ (ByteArray.mk (List.toArray [(32 : UInt8)]))) ++ (getS (cellAt (nthP xs (Int.toNat v0)) (0 + 1)))) ++ (ByteArray.mk (List.toArray [(10 : UInt8)]))))))
                none)
              none)
            none)
          none)
        none)
      none)
    none)
  (cond ((List.all (List.take v1 v2) @okU8) && (decide (v1 ≤ 9223372036854775807)))
    (some [(PV.lit (Value.string (toBA (List.take v1 v2))))])
    none)) := by kernel_rfl

def S13_0 (xs : List PV) (v0 : ByteArray) (v1 : Int) : St := (St.mk [(2, (AV.p (PV.lit (Value.string (ByteArray.mk (List.toArray [])))))), (3, (AV.p (PV.lit (Value.string v0)))), (9, (AV.p (PV.sl 2 xs))), (10, (AV.p (PV.lit (Value.int IntKind.i64 (((List.length xs) : Nat) : Int))))), (11, (AV.p (PV.lit (Value.int IntKind.i64 v1))))] [] [])
noncomputable def L13_0 (N : Nat) (m : Nat) (xs : List PV) (v0 : ByteArray) (v1 : Int) : R := Lp E2 N 9 13 0 [1, 1, 1, 0, 1, 0] [] m (S13_0 xs v0 v1) (kM E2 13)
theorem e13 (N : Nat) (xs : List PV) : runPV E2 N 10 13 [(PV.sl 2 xs)] = (cond (((List.all xs @okM) && (small xs)) && (List.all xs @smallS))
  (cond (!(validBook (List.map @decM xs)))
    (some [(PV.lit (Value.string (ByteArray.mk (List.toArray []))))])
    (L13_0 N N xs (ByteArray.mk (List.toArray [])) (0 : Int)))
  none) := by kernel_rfl
theorem l13_0 (N : Nat) (m : Nat) (xs : List PV) (v0 : ByteArray) (v1 : Int) : L13_0 N (m + 1) xs v0 v1 = (cond (ltI v1 (((List.length xs) : Nat) : Int))
  (cond ((leI (0 : Int) v1) && (ltI v1 (((List.length xs) : Nat) : Int)))
    (cond (okCs ([(CK.int IntKind.i64)] ++ ([CK.str] ++ [])) (nthP xs (Int.toNat v1)) 0)
      (cond ((leI (-(9223372036854775808 : Int)) (getI (cellAt (nthP xs (Int.toNat v1)) 0))) && (leI (getI (cellAt (nthP xs (Int.toNat v1)) 0)) (9223372036854775807 : Int)))
        (cond (decide (((ByteArray.size (itoaS (getI (cellAt (nthP xs (Int.toNat v1)) 0)))) + (ByteArray.size (ByteArray.mk (List.toArray [(32 : UInt8)])))) ≤ 9223372036854775807))
          (cond (decide (((ByteArray.size ((itoaS (getI (cellAt (nthP xs (Int.toNat v1)) 0))) ++ (ByteArray.mk (List.toArray [(32 : UInt8)])))) + (ByteArray.size (getS (cellAt (nthP xs (Int.toNat v1)) (0 + 1))))) ≤ 9223372036854775807))
            (cond (decide (((ByteArray.size (((itoaS (getI (cellAt (nthP xs (Int.toNat v1)) 0))) ++ (ByteArray.mk (List.toArray [(32 : UInt8)]))) ++ (getS (cellAt (nthP xs (Int.toNat v1)) (0 + 1))))) + (ByteArray.size (ByteArray.mk (List.toArray [(10 : UInt8)])))) ≤ 9223372036854775807))
              (cond (decide (((ByteArray.size v0) + (ByteArray.size ((((itoaS (getI (cellAt (nthP xs (Int.toNat v1)) 0))) ++ (ByteArray.mk (List.toArray [(32 : UInt8)]))) ++ (getS (cellAt (nthP xs (Int.toNat v1)) (0 + 1)))) ++ (ByteArray.mk (List.toArray [(10 : UInt8)]))))) ≤ 9223372036854775807))
                (L13_0 N m xs (v0 ++ ((((itoaS (getI (cellAt (nthP xs (Int.toNat v1)) 0))) ++ (ByteArray.mk (List.toArray [(32 : UInt8)]))) ++ (getS (cellAt (nthP xs (Int.toNat v1)) (0 + 1)))) ++ (ByteArray.mk (List.toArray [(10 : UInt8)])))) (IntKind.wrap IntKind.i64 (v1 + (1 : Int))))
                none)
              none)
            none)
          none)
        none)
      none)
    none)
  (some [(PV.lit (Value.string v0))])) := by kernel_rfl

end Go.Proofs.YtalfnpdgajfkiaaDoor.Ax
