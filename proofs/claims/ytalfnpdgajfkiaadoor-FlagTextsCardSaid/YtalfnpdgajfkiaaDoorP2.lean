/- Seat D, plain laws: the two readings of a line agree; what is written is read back. -/
import Derived.Test.YtalfnpdgajfkiaaDoorP1
import Derived.Test.YtalfnpdgajfkiaaDoorD4
set_option linter.unusedVariables false
set_option linter.unusedSimpArgs false
namespace Go.Proofs.YtalfnpdgajfkiaaDoor.Ax
open Go

theorem fmt_one {m : Mng} (h : mngOk m = true) : fmt [m] = toB (lineB m) := by
  have : validBook [m] = true := by simp [validBook, validFrom, h]
  unfold fmt
  rw [if_pos this]
  simp [fmtB]
theorem fmt_bad {m : Mng} (h : mngOk m = false) : fmt [m] = ⟨#[]⟩ := by
  have : validBook [m] = false := by simp [validBook, validFrom, h]
  unfold fmt
  rw [if_neg (by rw [this]; simp)]
theorem validFrom_app : ∀ (l r : List Mng) (p : Option Int), validFrom p (l ++ r) = true → validFrom p l = true
  | [], r, p, _ => rfl
  | m :: l, r, p, h => by
    simp only [List.cons_append, validFrom, Bool.and_eq_true] at h ⊢
    exact ⟨h.1, validFrom_app l r _ h.2⟩
theorem validFrom_last : ∀ (l : List Mng) (m : Mng) (p : Option Int), validFrom p (l ++ [m]) = true → mngOk m = true
  | [], m, p, h => by
    simp only [List.nil_append, validFrom, Bool.and_eq_true] at h
    exact h.1.2
  | x :: l, m, p, h => by
    simp only [List.cons_append, validFrom, Bool.and_eq_true] at h
    exact validFrom_last l m _ h.2
theorem itoa_no {n : Int} (h : 0 ≤ n) (c : UInt8) (hc : c.toNat < 48) : c ∉ Lib.itoa n := fun hm => by
  rw [itoa_nat h] at hm
  have := digits_mem _ c hm
  omega
theorem sOk_no {s : ByteArray} (h : sOk s = true) (c : UInt8) (hc : c.toNat < 32) : c ∉ s.data.toList := fun hm => by
  have := List.all_eq_true.1 h c hm
  unfold okB at this
  simp only [Bool.and_eq_true, decide_eq_true_eq] at this
  omega
/-- A line without its end. -/
def bodyB (m : Mng) : List UInt8 := Lib.itoa m.n ++ [32] ++ m.s.data.toList
theorem line_body (m : Mng) : lineB m = bodyB m ++ [10] := rfl
theorem body_no {m : Mng} (h : mngOk m = true) : (10 : UInt8) ∉ bodyB m := by
  obtain ⟨h1, h2, _⟩ := mngOk_facts h
  intro hm
  simp only [bodyB, List.mem_append, List.mem_singleton] at hm
  rcases hm with (hm | hm) | hm
  · exact itoa_no h2 10 (by decide) hm
  · exact absurd hm (by decide)
  · exact sOk_no h1 10 (by decide) hm
theorem body_eq (m : Mng) : (itoaS m.n ++ sp) ++ m.s = toB (bodyB m) := by
  have h1 : sp = toB [32] := rfl
  rw [h1, itoaS_eq, toB_app]
  conv => lhs; rhs; rw [← toB_of m.s]
  rw [toB_app]
  rfl
/-- The flag's own test of a line is the reference's. -/
theorem good_eq (s : ByteArray) (b : List Mng) : (!decide (fmt [pM s] = ⟨#[]⟩) && prefixB s (fmt [pM s]) && validBook (b ++ [pM s])) = pGood s b := by
  unfold pGood
  cases hv : validBook (b ++ [pM s]) with
  | false => simp
  | true =>
    have hm : mngOk (pM s) = true := by
      simp only [validBook, Bool.and_eq_true] at hv
      exact validFrom_last b (pM s) none hv.1
    rw [fmt_one hm, body_eq]
    have hne : toB (lineB (pM s)) ≠ ⟨#[]⟩ := fun e => by
      have := congrArg ByteArray.size e
      rw [toB_len] at this
      have h0 : (⟨#[]⟩ : ByteArray).size = 0 := rfl
      rw [h0] at this
      simp [lineB] at this
    simp only [Bool.and_true, decide_eq_false hne, Bool.not_false, Bool.true_and]
    rw [Bool.eq_iff_iff]
    simp only [Bool.and_eq_true, decide_eq_true_eq, cutOk_eq, cutA_eq]
    show (lineB (pM s)).isPrefixOf s.data.toList = true ↔ _
    rw [List.isPrefixOf_iff_prefix, line_body]
    constructor
    · rintro ⟨t, ht⟩
      rw [List.append_assoc, List.singleton_append] at ht
      rw [← ht, cut1_hit _ _ _ (body_no hm)]
      exact ⟨rfl, rfl⟩
    · rintro ⟨h1, h2⟩
      have h3 := cut1_found _ _ h1
      rw [← toB_inj h2] at h3
      exact ⟨(cut1 s.data.toList 10).2.1, by rw [List.append_assoc, List.singleton_append]; exact h3.symm⟩

/-! ### Back again -/
theorem pM_line {m : Mng} (h : mngOk m = true) (t : List UInt8) : pM (toB (lineB m ++ t)) = m ∧ cutOk (toB (lineB m ++ t)) nl = true ∧ cutA (toB (lineB m ++ t)) nl = toB (bodyB m) ∧ cutB (toB (lineB m ++ t)) nl = toB t := by
  obtain ⟨h1, h2, h3, _⟩ := mngOk_facts h
  have hc : cut1 (toB (lineB m ++ t)).data.toList 10 = (bodyB m, t, true) := by
    rw [toB_list, line_body, List.append_assoc, List.singleton_append, cut1_hit _ _ _ (body_no h)]
  have hs : cut1 (bodyB m) 32 = (Lib.itoa m.n, m.s.data.toList, true) := by
    unfold bodyB
    rw [List.append_assoc, List.singleton_append, cut1_hit _ _ _ (itoa_no h2 32 (by decide))]
  have hA : cutA (toB (lineB m ++ t)) nl = toB (bodyB m) := by rw [cutA_eq, hc]
  refine ⟨?_, by rw [cutOk_eq, hc], hA, by rw [cutB_eq, hc]⟩
  unfold pM
  rw [hA, cutA_sp, cutB_sp, toB_list, hs]
  simp only [toB_of]
  rw [show toB (Lib.itoa m.n) = itoaS m.n from rfl, atoi_itoa h2 h3]
theorem pRun_fmt : ∀ (r b : List Mng) (k n : Nat), validBook (b ++ r) = true → (fmtB r).length < k → pRun k (toB (fmtB r)) b n = (true, b ++ r, 0)
  | r, b, 0, n, _, hk => by omega
  | [], b, k + 1, n, _, _ => by simp [pRun, fmtB, toB_len]
  | m :: r, b, k + 1, n, hv, hk => by
    have hv1 := hv
    simp only [validBook, Bool.and_eq_true, decide_eq_true_eq] at hv1
    have hvm : validBook (b ++ [m]) = true := by
      simp only [validBook, Bool.and_eq_true, decide_eq_true_eq]
      refine ⟨validFrom_app (b ++ [m]) r none (by simpa using hv1.1), ?_⟩
      have := hv1.2
      simp at this ⊢; omega
    have hm : mngOk m = true := by
      simp only [validBook, Bool.and_eq_true] at hvm
      exact validFrom_last b m none hvm.1
    obtain ⟨q1, q2, q3, q4⟩ := pM_line hm (fmtB r)
    have hsz : (toB (fmtB (m :: r))).size ≠ 0 := by rw [toB_len]; simp [fmtB, lineB]
    have hg : pGood (toB (fmtB (m :: r))) b = true := by
      show pGood (toB (lineB m ++ fmtB r)) b = true
      unfold pGood
      rw [q1, q2, q3, body_eq, hvm]
      simp
    simp only [pRun]
    rw [if_neg hsz, if_pos hg]
    show pRun k (cutB (toB (lineB m ++ fmtB r)) nl) (b ++ [pM (toB (lineB m ++ fmtB r))]) (n + 1) = _
    rw [q1, q4, pRun_fmt r (b ++ [m]) k (n + 1) (by simpa using hv) (by simp [fmtB] at hk; have : 0 < (lineB m).length := by simp only [lineB, List.length_append, List.length_cons, List.length_nil]; omega
                                                                        omega)]
    simp
theorem parse_fmt {b : List Mng} (h : validBook b = true) : pOk (fmt b) = true ∧ pBook (fmt b) = b := by
  have hf : fmt b = toB (fmtB b) := by unfold fmt; rw [if_pos h]
  have := pRun_fmt b [] ((fmt b).size + 1) 0 (by simpa using h) (by rw [hf, toB_len]; omega)
  unfold pOk pBook
  rw [hf] at this ⊢
  rw [this]
  simp
end Go.Proofs.YtalfnpdgajfkiaaDoor.Ax
