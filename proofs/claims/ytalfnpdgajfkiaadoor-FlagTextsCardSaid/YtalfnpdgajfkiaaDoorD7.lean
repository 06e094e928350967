/- Seat D: the law FlagTexts is true of all data. -/
import Derived.Test.YtalfnpdgajfkiaaDoorG6
set_option linter.unusedVariables false
set_option linter.unusedSimpArgs false
set_option maxRecDepth 100000
namespace Go.Proofs.YtalfnpdgajfkiaaDoor.Ax
open Go

theorem run3 (N : Nat) (xs : List Mng) (s : ByteArray) (hx : xs.length < 4611686018427387904) : runPV E5 N 10 3 [.sl 2 (xs.map encM), S s] = some [B true] := by
  rw [e3]
  have hp := pBook_len s
  have hp2 := pBook_len (fmt xs)
  have p1 : small ((pBook s).map encM) = true := small_enc (by omega)
  have p2 : small ((pBook (fmt xs)).map encM) = true := small_enc (by omega)
  have p3 : small (xs.map encM) = true := small_enc hx
  have p4 : small [] = true := rfl
  have hfs := fmt_size xs
  have q1 : ¬ (65536 < (fmt xs).size) := by omega
  simp only [ltI_eq, leI_eq, okM_map, p1, p2, p3, p4, decM_all, List.drop_zero, take_all, List.map_nil, List.all_nil, Bool.and_self, cond_true, q1, decide_false, cond_false, str_eq, decide_true, Bool.not_true, Bool.true_and]
  cases hf : fitB xs with
  | false => simp
  | true =>
    have hss : (xs.map encM).all smallS = true := smallS_enc fun m hm => by
      simp only [fitB, Bool.and_eq_true, List.all_eq_true, decide_eq_true_eq] at hf
      have := hf.1 m hm
      omega
    simp only [Bool.not_true, cond_false, hss, cond_true, bne_self_eq_false, Bool.not_true]
    have hrt : validBook xs = true → pOk (fmt xs) = true ∧ pBook (fmt xs) = xs := parse_fmt
    cases hv : validBook xs with
    | false =>
      by_cases h1 : 3000 < s.size <;> by_cases h2 : s.size ≤ 65536
      all_goals
        have i1 : decide ((3000 : Int) < (s.size : Int)) = decide (3000 < s.size) := decide_eq_decide.2 (by omega)
        have i2 : decide ((s.size : Int) ≤ (65536 : Int)) = decide (s.size ≤ 65536) := decide_eq_decide.2 (by omega)
        have i3 : decide (65536 < s.size) = !decide (s.size ≤ 65536) := by
          by_cases h : s.size ≤ 65536
          · first | (simp [h]; done) | (simp [h]; omega)
          · first | (simp [h]; done) | (simp [h]; omega)
        rw [i1, i2, i3]
        cases hpo : pOk s <;> simp [h1, h2]
    | true =>
      obtain ⟨r1, r2⟩ := hrt hv
      simp only [r1, r2]
      by_cases h1 : 3000 < s.size <;> by_cases h2 : s.size ≤ 65536
      all_goals
        have i1 : decide ((3000 : Int) < (s.size : Int)) = decide (3000 < s.size) := decide_eq_decide.2 (by omega)
        have i2 : decide ((s.size : Int) ≤ (65536 : Int)) = decide (s.size ≤ 65536) := decide_eq_decide.2 (by omega)
        have i3 : decide (65536 < s.size) = !decide (s.size ≤ 65536) := by
          by_cases h : s.size ≤ 65536
          · first | (simp [h]; done) | (simp [h]; omega)
          · first | (simp [h]; done) | (simp [h]; omega)
        rw [i1, i2, i3]
        cases hpo : pOk s <;> simp [h1, h2]
theorem e5_ok : EnvOK E5 := env_ok pk5_ok
theorem law_told (xs : List Mng) (s : ByteArray) (hx : xs.length < 4611686018427387904) : Told Tryd.prog T ([], false) 3 [.sl 2 (xs.map encM), S s] [B true] :=
  runPV_ok e5_ok (run3 0 xs s hx)
end Go.Proofs.YtalfnpdgajfkiaaDoor.Ax
