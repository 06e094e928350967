/- The equations of functions, printed by tools/eqs.lean; environment E1. -/
import Derived.Test.YtalfnpdgajfkiaaDoorD2
import Derived.KernelRfl
namespace Go.Proofs.YtalfnpdgajfkiaaDoor.Ax
open Go
set_option maxRecDepth 100000
set_option linter.unusedVariables false
noncomputable def E1 : Env := mkE Tryd.prog T sigT pk1 ipT [(45, 2, ⟨[], [], [0, 2, 5, 6, 7]⟩),
  (14, 3, ⟨[], [], [0, 2, 3, 6, 7, 8]⟩)]
def S45_0 (xs : List PV) (v0 : Int) : St := (St.mk [(0, (AV.p (PV.sl 2 xs))), (2, (AV.p (PV.lit (Value.bool Bool.false)))), (5, (AV.p (PV.sl 2 xs))), (6, (AV.p (PV.lit (Value.int IntKind.i64 (((List.length xs) : Nat) : Int))))), (7, (AV.p (PV.lit (Value.int IntKind.i64 v0))))] [] [])
noncomputable def L45_0 (N : Nat) (m : Nat) (xs : List PV) (v0 : Int) : R := Lp E1 N 9 45 0 [1, 0, 1, 0] [] m (S45_0 xs v0) (kM E1 45)
theorem e45 (N : Nat) (xs : List PV) : runPV E1 N 10 45 [(PV.sl 2 xs)] = (L45_0 N N xs (0 : Int)) := by kernel_rfl
theorem l45_0 (N : Nat) (m : Nat) (xs : List PV) (v0 : Int) : L45_0 N (m + 1) xs v0 = (cond (ltI v0 (((List.length xs) : Nat) : Int))
  (cond ((leI (0 : Int) v0) && (ltI v0 (((List.length xs) : Nat) : Int)))
    (cond (okCs ([(CK.int IntKind.i64)] ++ ([CK.str] ++ [])) (nthP xs (Int.toNat v0)) 0)
      (cond (decide ((ByteArray.size (getS (cellAt (nthP xs (Int.toNat v0)) (0 + 1)))) < 4611686018427387904))
        (cond (!(((sOk (getS (cellAt (nthP xs (Int.toNat v0)) (0 + 1)))) && (numOk (getI (cellAt (nthP xs (Int.toNat v0)) 0)))) && (lenOk (getS (cellAt (nthP xs (Int.toNat v0)) (0 + 1))))))
          (some [(PV.lit (Value.bool Bool.false))])
          (cond (ltI (0 : Int) v0)
            (cond ((leI (0 : Int) (IntKind.wrap IntKind.i64 (v0 - (1 : Int)))) && (ltI (IntKind.wrap IntKind.i64 (v0 - (1 : Int))) (((List.length xs) : Nat) : Int)))
              (cond (okC (CK.int IntKind.i64) (cellAt (nthP xs (Int.toNat (IntKind.wrap IntKind.i64 (v0 - (1 : Int))))) (0 + 0)))
                (cond (leI (getI (cellAt (nthP xs (Int.toNat v0)) 0)) (getI (cellAt (nthP xs (Int.toNat (IntKind.wrap IntKind.i64 (v0 - (1 : Int))))) (0 + 0))))
                  (some [(PV.lit (Value.bool Bool.false))])
                  (L45_0 N m xs (IntKind.wrap IntKind.i64 (v0 + (1 : Int)))))
                none)
              none)
            (L45_0 N m xs (IntKind.wrap IntKind.i64 (v0 + (1 : Int))))))
        none)
      none)
    none)
  (some [(PV.lit (Value.bool (leI (((List.length xs) : Nat) : Int) (200 : Int))))])) := by kernel_rfl

def S14_0 (xs : List PV) (v0 : Int) : St := (St.mk [(0, (AV.p (PV.sl 2 xs))), (2, (AV.p (PV.lit (Value.bool Bool.false)))), (3, (AV.fn (Fn.func 48) [])), (6, (AV.p (PV.sl 2 xs))), (7, (AV.p (PV.lit (Value.int IntKind.i64 (((List.length xs) : Nat) : Int))))), (8, (AV.p (PV.lit (Value.int IntKind.i64 v0))))] [] [])
noncomputable def L14_0 (N : Nat) (m : Nat) (xs : List PV) (v0 : Int) : R := Lp E1 N 9 14 0 [1, 1, 0, 1, 0] [] m (S14_0 xs v0) (kM E1 14)
theorem e14 (N : Nat) (xs : List PV) : runPV E1 N 10 14 [(PV.sl 2 xs)] = (L14_0 N N xs (0 : Int)) := by kernel_rfl
theorem l14_0 (N : Nat) (m : Nat) (xs : List PV) (v0 : Int) : L14_0 N (m + 1) xs v0 = (cond (ltI v0 (((List.length xs) : Nat) : Int))
  (cond ((leI (0 : Int) v0) && (ltI v0 (((List.length xs) : Nat) : Int)))
    (cond (okCs ([(CK.int IntKind.i64)] ++ ([CK.str] ++ [])) (nthP xs (Int.toNat v0)) 0)
      (cond (!((leI (0 : Int) (getI (cellAt (nthP xs (Int.toNat v0)) 0))) && (leI (getI (cellAt (nthP xs (Int.toNat v0)) 0)) (9999 : Int))))
        (some [(PV.lit (Value.bool Bool.false))])
        (cond (ltI (0 : Int) v0)
          (cond ((leI (0 : Int) (IntKind.wrap IntKind.i64 (v0 - (1 : Int)))) && (ltI (IntKind.wrap IntKind.i64 (v0 - (1 : Int))) (((List.length xs) : Nat) : Int)))
            (cond (okC (CK.int IntKind.i64) (cellAt (nthP xs (Int.toNat (IntKind.wrap IntKind.i64 (v0 - (1 : Int))))) (0 + 0)))
              (cond (leI (getI (cellAt (nthP xs (Int.toNat v0)) 0)) (getI (cellAt (nthP xs (Int.toNat (IntKind.wrap IntKind.i64 (v0 - (1 : Int))))) (0 + 0))))
                (some [(PV.lit (Value.bool Bool.false))])
                (cond (!((leI (1 : Int) (((ByteArray.size (getS (cellAt (nthP xs (Int.toNat v0)) (0 + 1)))) : Nat) : Int)) && (leI (((ByteArray.size (getS (cellAt (nthP xs (Int.toNat v0)) (0 + 1)))) : Nat) : Int) (60 : Int))))
                  (some [(PV.lit (Value.bool Bool.false))])
                  (cond (leI (0 : Int) (oddIdx (getS (cellAt (nthP xs (Int.toNat v0)) (0 + 1)))))
                    (some [(PV.lit (Value.bool Bool.false))])
                    (L14_0 N m xs (IntKind.wrap IntKind.i64 (v0 + (1 : Int)))))))
              none)
            none)
          (cond (!((leI (1 : Int) (((ByteArray.size (getS (cellAt (nthP xs (Int.toNat v0)) (0 + 1)))) : Nat) : Int)) && (leI (((ByteArray.size (getS (cellAt (nthP xs (Int.toNat v0)) (0 + 1)))) : Nat) : Int) (60 : Int))))
            (some [(PV.lit (Value.bool Bool.false))])
            (cond (leI (0 : Int) (oddIdx (getS (cellAt (nthP xs (Int.toNat v0)) (0 + 1)))))
              (some [(PV.lit (Value.bool Bool.false))])
              (L14_0 N m xs (IntKind.wrap IntKind.i64 (v0 + (1 : Int))))))))
      none)
    none)
  (some [(PV.lit (Value.bool (leI (((List.length xs) : Nat) : Int) (200 : Int))))])) := by kernel_rfl

end Go.Proofs.YtalfnpdgajfkiaaDoor.Ax
