/- Seat D: books that are looked at; the law FlagTexts is true of all data. -/
import Derived.Test.YtalfnpdgajfkiaaDoorG5
import Derived.Test.YtalfnpdgajfkiaaDoorQ5
set_option linter.unusedVariables false
set_option linter.unusedSimpArgs false
set_option maxRecDepth 100000
namespace Go.Proofs.YtalfnpdgajfkiaaDoor.Ax
open Go

theorem loop7 (N : Nat) (xs : List Mng) (hs : xs.length < 4611686018427387904) : ∀ (d m k : Nat), k + d = xs.length → d < m → L7_0 N m (xs.map encM) (k : Int) = some [B ((xs.drop k).all (fun m => decide (m.s.size ≤ 100)) && (decide (xs.length ≤ 40) || (decide (200 ≤ xs.length) && decide (xs.length ≤ 203))))]
  | d, 0, k, _, h => by omega
  | 0, m + 1, k, hk, _ => by
    rw [l7_0]
    simp only [ltI_eq, leI_eq]
    have h1 : ¬ ((k : Int) < ((xs.length : Nat) : Int)) := by omega
    simp only [List.length_map, decide_eq_false h1, cond_false]
    rw [List.drop_eq_nil_of_le (by omega)]
    have c1 : decide ((((xs.length : Nat) : Int)) ≤ 40) = decide (xs.length ≤ 40) := decide_eq_decide.2 (by omega)
    have c2 : decide ((200 : Int) ≤ (((xs.length : Nat) : Int))) = decide (200 ≤ xs.length) := decide_eq_decide.2 (by omega)
    have c3 : decide ((((xs.length : Nat) : Int)) ≤ 203) = decide (xs.length ≤ 203) := decide_eq_decide.2 (by omega)
    rw [c1, c2, c3]
    cases decide (xs.length ≤ 40) <;> cases decide (200 ≤ xs.length) <;> rfl
  | d + 1, m + 1, k, hk, hm => by
    rw [l7_0]
    simp only [ltI_eq, leI_eq]
    have hkx : k < xs.length := by omega
    have h1 : (k : Int) < ((xs.length : Nat) : Int) := by omega
    have h0 : (0 : Int) ≤ (k : Int) := by omega
    have hw : IntKind.wrap .i64 ((k : Int) + 1) = ((k + 1 : Nat) : Int) := by rw [wrapI (by omega) (by omega)]; omega
    have hx : okCs ([CK.int IntKind.i64] ++ ([CK.str] ++ [])) (encM xs[k]) 0 = true := rfl
    have g1 : getS (cellAt (encM xs[k]) (0 + 1)) = xs[k].s := rfl
    have c1 : decide ((100 : Int) < ((xs[k].s.size : Nat) : Int)) = !decide (xs[k].s.size ≤ 100) := by
      by_cases h : xs[k].s.size ≤ 100
      · simp [h]; omega
      · simp [h]; omega
    simp only [List.length_map, decide_eq_true h1, decide_eq_true h0, Bool.true_and, cond_true, Int.toNat_natCast, nth_map encM xs k hkx, hw, hx, g1, c1]
    rw [loop7 N xs hs d m (k + 1) (by omega) (by omega), drop_cons hkx, List.all_cons]
    cases decide (xs[k].s.size ≤ 100) <;> simp
theorem run7 (xs : List Mng) (hs : xs.length < 4611686018427387904) : runPV E4 (xs.length + 1) 10 7 [.sl 2 (xs.map encM)] = some [B (fitB xs)] := by
  rw [e7]
  have := loop7 (xs.length + 1) xs hs xs.length (xs.length + 1) 0 (by omega) (by omega)
  simpa [fitB] using this
theorem run8 : runPV E4 100 30 8 [] = some [B true] := by kernel_rfl
theorem e4_ok : EnvOK E4 := env_ok pk4_ok
theorem pk5_ok : PksOK Tryd.prog T sigT pk5 := by
  refine ((pk4_ok.cons (g := 8) (q := h8) ?_).cons (g := 7) (q := h7) ?_)
  · intro m hm
    cases hm
    refine pk_of_run e4_ok (by kernel_rfl) fun xs K r h => ?_
    unfold h8 at h
    split at h
    · exact ⟨_, _, _, h, run8⟩
    · cases h
  · intro m hm
    cases hm
    refine pk_of_run e4_ok (by kernel_rfl) fun xs K r h => ?_
    unfold h7 at h
    split at h
    · rename_i l
      rcases cond_some h with ⟨hc, h⟩ | ⟨_, h⟩
      · simp only [Bool.and_eq_true, small, decide_eq_true_eq] at hc
        have := run7 (l.map decM) (by simpa using hc.2)
        rw [encM_all hc.1] at this
        exact ⟨_, _, _, h, this⟩
      · cases h
    · cases h
/-! ### Sizes -/
theorem pRun_len : ∀ (k : Nat) (s : ByteArray) (b : List Mng) (n : Nat), b.length ≤ 200 → (pRun k s b n).2.1.length ≤ 200
  | 0, _, _, _, _ => by simp [pRun]
  | k + 1, s, b, n, hb => by
    simp only [pRun]
    split
    · exact hb
    · split
      · rename_i hg
        refine pRun_len k _ _ _ ?_
        simp only [pGood, validBook, Bool.and_eq_true, decide_eq_true_eq] at hg
        exact hg.2.2
      · simp
theorem pBook_len (s : ByteArray) : (pBook s).length ≤ 200 := pRun_len _ _ _ _ (by simp)
theorem fmtB_len : ∀ (l : List Mng), (∀ m ∈ l, mngOk m = true) → (fmtB l).length ≤ 83 * l.length
  | [], _ => by simp [fmtB]
  | m :: l, h => by
    have h1 := line_len (h m (by simp))
    have h2 := fmtB_len l fun x hx => h x (by simp [hx])
    simp only [fmtB, List.length_append, List.length_cons]; omega
theorem fmt_size (l : List Mng) : (fmt l).size ≤ 16600 := by
  unfold fmt
  split
  · rename_i h
    simp only [validBook, Bool.and_eq_true, decide_eq_true_eq] at h
    have := fmtB_len l (valid_mem l none h.1)
    rw [toB_len]; omega
  · exact Nat.zero_le _
end Go.Proofs.YtalfnpdgajfkiaaDoor.Ax
