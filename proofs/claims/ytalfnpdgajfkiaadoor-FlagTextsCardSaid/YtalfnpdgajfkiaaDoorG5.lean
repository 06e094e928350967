/- The equations of functions, printed by tools/eqs.lean; environment E4. -/
import Derived.Test.YtalfnpdgajfkiaaDoorD5
import Derived.KernelRfl
namespace Go.Proofs.YtalfnpdgajfkiaaDoor.Ax
open Go
set_option maxRecDepth 100000
set_option linter.unusedVariables false
noncomputable def E4 : Env := mkE Tryd.prog T sigT pk4 ipT [(7, 2, ⟨[], [], [0, 2, 5, 6, 7]⟩)]
def S7_0 (xs : List PV) (v0 : Int) : St := (St.mk [(0, (AV.p (PV.sl 2 xs))), (2, (AV.p (PV.lit (Value.bool Bool.false)))), (5, (AV.p (PV.sl 2 xs))), (6, (AV.p (PV.lit (Value.int IntKind.i64 (((List.length xs) : Nat) : Int))))), (7, (AV.p (PV.lit (Value.int IntKind.i64 v0))))] [] [])
noncomputable def L7_0 (N : Nat) (m : Nat) (xs : List PV) (v0 : Int) : R := Lp E4 N 9 7 0 [1, 0, 1, 0] [] m (S7_0 xs v0) (kM E4 7)
theorem e7 (N : Nat) (xs : List PV) : runPV E4 N 10 7 [(PV.sl 2 xs)] = (L7_0 N N xs (0 : Int)) := by kernel_rfl
theorem l7_0 (N : Nat) (m : Nat) (xs : List PV) (v0 : Int) : L7_0 N (m + 1) xs v0 = (cond (ltI v0 (((List.length xs) : Nat) : Int))
  (cond ((leI (0 : Int) v0) && (ltI v0 (((List.length xs) : Nat) : Int)))
    (cond (okCs ([(CK.int IntKind.i64)] ++ ([CK.str] ++ [])) (nthP xs (Int.toNat v0)) 0)
      (cond (ltI (100 : Int) (((ByteArray.size (getS (cellAt (nthP xs (Int.toNat v0)) (0 + 1)))) : Nat) : Int))
        (some [(PV.lit (Value.bool Bool.false))])
        (L7_0 N m xs (IntKind.wrap IntKind.i64 (v0 + (1 : Int)))))
      none)
    none)
  (cond (leI (((List.length xs) : Nat) : Int) (40 : Int))
    (some [(PV.lit (Value.bool Bool.true))])
    (cond (leI (200 : Int) (((List.length xs) : Nat) : Int))
      (some [(PV.lit (Value.bool (leI (((List.length xs) : Nat) : Int) (203 : Int))))])
      (some [(PV.lit (Value.bool Bool.false))])))) := by kernel_rfl

end Go.Proofs.YtalfnpdgajfkiaaDoor.Ax
