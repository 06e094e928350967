/- Seat D: valid books, by the flag's own code and by the reference. -/
import Derived.Test.YtalfnpdgajfkiaaDoorG2
import Derived.Test.YtalfnpdgajfkiaaDoorQ2
set_option linter.unusedVariables false
set_option linter.unusedSimpArgs false
namespace Go.Proofs.YtalfnpdgajfkiaaDoor.Ax
open Go

def prevOf (xs : List Mng) : Nat → Option Int
  | 0 => none
  | k + 1 => (xs[k]?).map (·.n)
theorem oddIdx_ge (s : ByteArray) : decide (oddIdx s ≥ 0) = !sOk s := by
  unfold oddIdx oddFrom sOk
  cases h : s.data.toList.findIdx? fun b => !okB b with
  | none =>
    have := List.findIdx?_eq_none_iff.1 h
    have h2 : s.data.toList.all okB = true := List.all_eq_true.2 fun b hb => by have := this b hb; simpa using this
    simp [h2]
  | some i =>
    obtain ⟨hi, h1, _⟩ := List.findIdx?_eq_some_iff_getElem.1 h
    have h2 : s.data.toList.all okB = false := by
      cases h3 : s.data.toList.all okB with
      | false => rfl
      | true =>
        have := List.all_eq_true.1 h3 _ (List.getElem_mem hi)
        rw [this] at h1; simp at h1
    rw [h2]
    simp
theorem loop45 (N : Nat) (xs : List Mng) (hs : xs.length < 4611686018427387904) (hss : ∀ m ∈ xs, m.s.size < 4611686018427387904) : ∀ (d m k : Nat), k + d = xs.length → d < m → L45_0 N m (xs.map encM) (k : Int) = some [B (validFrom (prevOf xs k) (xs.drop k) && decide (xs.length ≤ 200))]
  | d, 0, k, _, h => by omega
  | 0, m + 1, k, hk, _ => by
    rw [l45_0]
    simp only [ltI_eq, leI_eq]
    have h1 : ¬ ((k : Int) < ((xs.length : Nat) : Int)) := by omega
    simp only [List.length_map, decide_eq_false h1, cond_false]
    rw [List.drop_eq_nil_of_le (by omega)]
    have c1 : decide ((((xs.length : Nat) : Int)) ≤ 200) = decide (xs.length ≤ 200) := decide_eq_decide.2 (by omega)
    rw [c1]
    simp [validFrom]
  | d + 1, m + 1, k, hk, hm => by
    rw [l45_0]
    simp only [ltI_eq, leI_eq]
    have hkx : k < xs.length := by omega
    have h1 : (k : Int) < ((xs.length : Nat) : Int) := by omega
    have h0 : (0 : Int) ≤ (k : Int) := by omega
    have hw : IntKind.wrap .i64 ((k : Int) + 1) = ((k + 1 : Nat) : Int) := by rw [wrapI (by omega) (by omega)]; omega
    have hx : okCs ([CK.int IntKind.i64] ++ ([CK.str] ++ [])) (encM xs[k]) 0 = true := rfl
    have g0 : getI (cellAt (encM xs[k]) 0) = xs[k].n := rfl
    have g1 : getS (cellAt (encM xs[k]) (0 + 1)) = xs[k].s := rfl
    have hsz : xs[k].s.size < 4611686018427387904 := hss _ (List.getElem_mem hkx)
    simp only [List.length_map, decide_eq_true h1, decide_eq_true h0, Bool.true_and, cond_true, Int.toNat_natCast, nth_map encM xs k hkx, hw, hx, g0, g1, decide_eq_true hsz]
    rw [loop45 N xs hs hss d m (k + 1) (by omega) (by omega), drop_cons hkx]
    have hp : prevOf xs (k + 1) = some xs[k].n := by simp [prevOf, hkx]
    rw [hp]
    show cond (!mngOk xs[k]) _ _ = some [B ((_ && mngOk xs[k] && validFrom (some xs[k].n) (xs.drop (k + 1))) && decide (xs.length ≤ 200))]
    cases hmk : mngOk xs[k] with
    | false => simp
    | true =>
      simp only [Bool.not_true, cond_false, Bool.and_true]
      cases k with
      | zero => simp [prevOf]
      | succ k =>
        have hkx' : k < xs.length := by omega
        have hw2 : IntKind.wrap .i64 (((k + 1 : Nat) : Int) - 1) = (k : Int) := by rw [wrapI (by omega) (by omega)]; omega
        have h3 : ((k + 1 : Nat) : Int) > 0 := by omega
        have h4 : (0 : Int) ≤ (k : Int) := by omega
        have h5 : (k : Int) < ((xs.length : Nat) : Int) := by omega
        have hx2 : okC (CK.int IntKind.i64) (cellAt (encM xs[k]) (0 + 0)) = true := rfl
        have g2 : getI (cellAt (encM xs[k]) (0 + 0)) = xs[k].n := rfl
        have hp2 : prevOf xs (k + 1) = some xs[k].n := by simp [prevOf, hkx']
        simp only [hw2, decide_eq_true h3, decide_eq_true h4, decide_eq_true h5, Bool.true_and, cond_true, Int.toNat_natCast, nth_map encM xs k hkx', hx2, g2, hp2]
        have c2 : decide (xs[k + 1].n ≤ xs[k].n) = !decide (xs[k].n < xs[k + 1].n) := by
          by_cases h : xs[k].n < xs[k + 1].n
          · simp [h]
          · simp [h]; omega
        rw [c2]
        cases decide (xs[k].n < xs[k + 1].n) <;> simp
theorem run45 (xs : List Mng) (hs : xs.length < 4611686018427387904) (hss : ∀ m ∈ xs, m.s.size < 4611686018427387904) : runPV E1 (xs.length + 1) 10 45 [.sl 2 (xs.map encM)] = some [B (validBook xs)] := by
  rw [e45]
  have := loop45 (xs.length + 1) xs hs hss xs.length (xs.length + 1) 0 (by omega) (by omega)
  simpa [prevOf, validBook] using this
theorem loop14 (N : Nat) (xs : List Mng) (hs : xs.length < 4611686018427387904) : ∀ (d m k : Nat), k + d = xs.length → d < m → L14_0 N m (xs.map encM) (k : Int) = some [B (validFrom (prevOf xs k) (xs.drop k) && decide (xs.length ≤ 200))]
  | d, 0, k, _, h => by omega
  | 0, m + 1, k, hk, _ => by
    rw [l14_0]
    simp only [ltI_eq, leI_eq]
    have h1 : ¬ ((k : Int) < ((xs.length : Nat) : Int)) := by omega
    simp only [List.length_map, decide_eq_false h1, cond_false]
    rw [List.drop_eq_nil_of_le (by omega)]
    have c1 : decide ((((xs.length : Nat) : Int)) ≤ 200) = decide (xs.length ≤ 200) := decide_eq_decide.2 (by omega)
    rw [c1]
    simp [validFrom]
  | d + 1, m + 1, k, hk, hm => by
    rw [l14_0]
    simp only [ltI_eq, leI_eq]
    have hkx : k < xs.length := by omega
    have h1 : (k : Int) < ((xs.length : Nat) : Int) := by omega
    have h0 : (0 : Int) ≤ (k : Int) := by omega
    have hw : IntKind.wrap .i64 ((k : Int) + 1) = ((k + 1 : Nat) : Int) := by rw [wrapI (by omega) (by omega)]; omega
    have hx : okCs ([CK.int IntKind.i64] ++ ([CK.str] ++ [])) (encM xs[k]) 0 = true := rfl
    have g0 : getI (cellAt (encM xs[k]) 0) = xs[k].n := rfl
    have g1 : getS (cellAt (encM xs[k]) (0 + 1)) = xs[k].s := rfl
    have c1 : decide ((1 : Int) ≤ ((xs[k].s.size : Nat) : Int)) = decide (1 ≤ xs[k].s.size) := decide_eq_decide.2 (by omega)
    have c2 : decide (((xs[k].s.size : Nat) : Int) ≤ (60 : Int)) = decide (xs[k].s.size ≤ 60) := decide_eq_decide.2 (by omega)
    simp only [List.length_map, decide_eq_true h1, decide_eq_true h0, Bool.true_and, cond_true, Int.toNat_natCast, nth_map encM xs k hkx, hw, hx, g0, g1, c1, c2, oddIdx_ge]
    rw [loop14 N xs hs d m (k + 1) (by omega) (by omega), drop_cons hkx]
    have hp : prevOf xs (k + 1) = some xs[k].n := by simp [prevOf, hkx]
    rw [hp]
    have hmk : mngOk xs[k] = (sOk xs[k].s && (decide (0 ≤ xs[k].n) && decide (xs[k].n ≤ 9999)) && (decide (1 ≤ xs[k].s.size) && decide (xs[k].s.size ≤ 60))) := by simp only [mngOk, numOk_eq, lenOk]
    simp only [validFrom, hmk]
    generalize validFrom (some xs[k].n) (xs.drop (k + 1)) = rest
    generalize sOk xs[k].s = q1
    generalize (decide (0 ≤ xs[k].n) && decide (xs[k].n ≤ 9999)) = q2
    generalize (decide (1 ≤ xs[k].s.size) && decide (xs[k].s.size ≤ 60)) = q3
    cases k with
    | zero => cases q1 <;> cases q2 <;> cases q3 <;> simp [prevOf]
    | succ k =>
      have hkx' : k < xs.length := by omega
      have hw2 : IntKind.wrap .i64 (((k + 1 : Nat) : Int) - 1) = (k : Int) := by rw [wrapI (by omega) (by omega)]; omega
      have h3 : ((k + 1 : Nat) : Int) > 0 := by omega
      have h4 : (0 : Int) ≤ (k : Int) := by omega
      have h5 : (k : Int) < ((xs.length : Nat) : Int) := by omega
      have hx2 : okC (CK.int IntKind.i64) (cellAt (encM xs[k]) (0 + 0)) = true := rfl
      have g2 : getI (cellAt (encM xs[k]) (0 + 0)) = xs[k].n := rfl
      have hp2 : prevOf xs (k + 1) = some xs[k].n := by simp [prevOf, hkx']
      simp only [hw2, decide_eq_true h3, decide_eq_true h4, decide_eq_true h5, Bool.true_and, cond_true, Int.toNat_natCast, nth_map encM xs k hkx', hx2, g2, hp2]
      have c3 : decide (xs[k + 1].n ≤ xs[k].n) = !decide (xs[k].n < xs[k + 1].n) := by
        by_cases h : xs[k].n < xs[k + 1].n
        · simp [h]
        · simp [h]; omega
      rw [c3]
      generalize decide (xs[k].n < xs[k + 1].n) = q4
      cases q1 <;> cases q2 <;> cases q3 <;> cases q4 <;> simp
theorem run14 (xs : List Mng) (hs : xs.length < 4611686018427387904) : runPV E1 (xs.length + 1) 10 14 [.sl 2 (xs.map encM)] = some [B (validBook xs)] := by
  rw [e14]
  have := loop14 (xs.length + 1) xs hs xs.length (xs.length + 1) 0 (by omega) (by omega)
  simpa [prevOf, validBook] using this
theorem e1_ok : EnvOK E1 := env_ok pk1_ok
theorem pk2_ok : PksOK Tryd.prog T sigT pk2 := by
  refine ((pk1_ok.cons (g := 14) (q := h14) ?_).cons (g := 45) (q := h45) ?_)
  · intro m hm
    cases hm
    refine pk_of_run e1_ok (by kernel_rfl) fun xs K r h => ?_
    unfold h14 at h
    split at h
    · rename_i l
      rcases cond_some h with ⟨hc, h⟩ | ⟨_, h⟩
      · simp only [Bool.and_eq_true, small, decide_eq_true_eq] at hc
        have := run14 (l.map decM) (by simpa using hc.2)
        rw [encM_all hc.1] at this
        exact ⟨_, _, _, h, this⟩
      · cases h
    · cases h
  · intro m hm
    cases hm
    refine pk_of_run e1_ok (by kernel_rfl) fun xs K r h => ?_
    unfold h45 at h
    split at h
    · rename_i l
      rcases cond_some h with ⟨hc, h⟩ | ⟨_, h⟩
      · simp only [Bool.and_eq_true, small, decide_eq_true_eq] at hc
        have := run45 (l.map decM) (by simpa using hc.1.2) (fun m hm => by
          obtain ⟨x, hx, rfl⟩ := List.mem_map.1 hm
          exact of_decide_eq_true (List.all_eq_true.1 hc.2 x hx))
        rw [encM_all hc.1.1] at this
        exact ⟨_, _, _, h, this⟩
      · cases h
    · cases h
end Go.Proofs.YtalfnpdgajfkiaaDoor.Ax
