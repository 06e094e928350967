/- Seat D: texts are read, by the flag's own code and by the reference. -/
import Derived.Test.YtalfnpdgajfkiaaDoorG4
import Derived.Test.YtalfnpdgajfkiaaDoorP2
import Derived.Laws.Strings
set_option linter.unusedVariables false
set_option linter.unusedSimpArgs false
namespace Go.Proofs.YtalfnpdgajfkiaaDoor.Ax
open Go

theorem str_eq (a b : ByteArray) : (a.toList == b.toList) = decide (a = b) := by
  rw [ByteArray.toList_eq, ByteArray.toList_eq]
  rw [Bool.eq_iff_iff]
  simp only [beq_iff_eq, decide_eq_true_eq]
  constructor
  · intro h
    apply ByteArray.ext
    exact Array.toList_inj.1 h
  · intro h; rw [h]
theorem size_zero (s : ByteArray) : decide (s = ⟨#[]⟩) = decide (s.size = 0) := by
  rw [decide_eq_decide]
  constructor
  · intro h; rw [h]; rfl
  · intro h
    apply ByteArray.ext
    exact Array.eq_empty_of_size_eq_zero h
/-- What a text is read as, as results. -/
def resP (x : Bool × List Mng × Nat) : R := cond x.1 (some [.sl 2 (x.2.1.map encM), I 0, I 0]) (some [.lit (.slice none 0 0), I (x.2.2 : Nat), I 2])
theorem resP_if (c : Bool) (x : Bool × List Mng × Nat) (n : Nat) : resP (if c = true then x else (false, [], n)) = cond c (resP x) (some [.lit (.slice none 0 0), I (n : Nat), I 2]) := by
  cases c <;> rfl
theorem flatM (l : List Mng) : flatR [.sl 2 (l.map encM), I 0, I 0] = true := by
  simp only [flatR, cellsOf, List.all_cons, List.all_nil, flatC, isLit, Bool.and_true, List.all_map]
  rw [List.all_eq_true]
  intro m _
  rfl
theorem snoc_enc (b : List Mng) (m : Mng) : b.map encM ++ [PV.agg [.lit (.int .i64 m.n), .lit (.string m.s)]] = (b ++ [m]).map encM := by simp [encM]
theorem take_all {α : Type} (l : List α) : l.take l.length = l := List.take_length
theorem small_enc {b : List Mng} (h : b.length < 4611686018427387904) : small (b.map encM) = true := by simpa [small] using h
theorem smallS_enc {b : List Mng} (h : ∀ m ∈ b, m.s.size < 4611686018427387904) : (b.map encM).all smallS = true := by
  rw [List.all_map, List.all_eq_true]
  intro m hm
  simpa [smallS, cellAt, cellsOf, encM, getS] using h m hm
theorem nl_eq : (⟨(List.toArray [(10 : UInt8)])⟩ : ByteArray) = nl := rfl
theorem sp_eq : (⟨(List.toArray [(32 : UInt8)])⟩ : ByteArray) = sp := rfl
theorem em_eq : (⟨(List.toArray [])⟩ : ByteArray) = ⟨#[]⟩ := rfl
theorem loop9 (N : Nat) : ∀ (k m : Nat) (s : ByteArray) (b : List Mng) (n : Nat), s.size < k → k ≤ m → s.size ≤ 65536 → b.length + s.size ≤ 100000 → n + s.size ≤ 100000 →
    L9_0 N m s b.length (n : Int) (b.map encM) = resP (pRun k s b n)
  | 0, m, s, b, n, h, _, _, _, _ => by omega
  | k + 1, 0, s, b, n, _, h, _, _, _ => by omega
  | k + 1, m + 1, s, b, n, hk, hm, hs, hb, hn => by
    rw [l9_0]
    have e2 : (b.map encM).take b.length = b.map encM := List.take_of_length_le (by simp)
    have c1 : s.size < 4294967281 := by omega
    have z1 := cutA_size s
    have z2 := cutA_sp_size (cutA s nl)
    have c2 : (cutA s nl).size < 4294967281 := by omega
    have c3 : (cutA (cutA s nl) sp).size ≤ 281474976710656 := by omega
    have c4 : b.length + 1 < 2147483648 := by omega
    have hw : IntKind.wrap .i64 ((n : Int) + 1) = ((n + 1 : Nat) : Int) := by rw [wrapI (by omega) (by omega)]; omega
    have hpm : PV.agg [.lit (.int .i64 (atoiV (cutA (cutA s nl) sp))), .lit (.string (cutB (cutA s nl) sp))] = encM (pM s) := rfl
    have hd1 : List.map decM [encM (pM s)] = [pM s] := rfl
    have hsn : b.map encM ++ [encM (pM s)] = (b ++ [pM s]).map encM := by simp
    have hlen : (b ++ [pM s]).length < 4611686018427387904 := by simp; omega
    simp only [ltI_eq, leI_eq, nl_eq, sp_eq, em_eq, str_eq, size_zero, c1, c2, c3, decide_true, cond_true, List.length_cons, List.length_nil, Nat.zero_add, c4, e2, hpm, hd1, hsn, List.drop_zero, take_all, okM_map, small_enc hlen, Bool.and_self, decM_all, hw]
    simp only [pRun]
    by_cases h0 : s.size = 0
    · simp only [h0, decide_true, Bool.not_true, cond_false, if_true, resP, flatM, Bool.or_true, cond_true]
    · rw [if_neg h0, decide_eq_false h0]
      simp only [Bool.not_false, cond_true]
      have z3 := cutB_lt s h0
      have ih := loop9 N k m (cutB s nl) (b ++ [pM s]) (n + 1) (by omega) (by omega) (by omega) (by simp; omega) (by omega)
      have hl2 : (List.map encM (b ++ [pM s])).length = (b ++ [pM s]).length := by simp
      rw [hl2, ih, resP_if, ← good_eq, size_zero]
      generalize resP (pRun k (cutB s nl) (b ++ [pM s]) (n + 1)) = q
      cases atoiOk (cutA (cutA s nl) sp) <;> cases decide ((fmt [pM s]).size = 0) <;> cases prefixB s (fmt [pM s]) <;> cases validBook (b ++ [pM s]) <;> rfl
theorem loop10 (N : Nat) : ∀ (k m : Nat) (s : ByteArray) (b : List Mng) (n : Nat), s.size < k → k ≤ m → s.size ≤ 65536 → b.length + s.size ≤ 100000 → n + s.size ≤ 100000 → (∀ x ∈ b, x.s.size < 4611686018427387904) →
    L10_0 N m s b.length (n : Int) (b.map encM) = resP (pRun k s b n)
  | 0, m, s, b, n, h, _, _, _, _, _ => by omega
  | k + 1, 0, s, b, n, _, h, _, _, _, _ => by omega
  | k + 1, m + 1, s, b, n, hk, hm, hs, hb, hn, hbs => by
    rw [l10_0]
    have e2 : (b.map encM).take b.length = b.map encM := List.take_of_length_le (by simp)
    have c1 : s.size < 4294967281 := by omega
    have z1 := cutA_size s
    have z2 := cutA_sp_size (cutA s nl)
    have z4 := cutB_sp_size (cutA s nl)
    have c2 : (cutA s nl).size < 4294967281 := by omega
    have c3 : (cutA (cutA s nl) sp).size ≤ 281474976710656 := by omega
    have c4 : b.length + 1 < 2147483648 := by omega
    have hw : IntKind.wrap .i64 ((n : Int) + 1) = ((n + 1 : Nat) : Int) := by rw [wrapI (by omega) (by omega)]; omega
    have hpm : PV.agg [.lit (.int .i64 (atoiV (cutA (cutA s nl) sp))), .lit (.string (cutB (cutA s nl) sp))] = encM (pM s) := rfl
    have hd1 : List.map decM [encM (pM s)] = [pM s] := rfl
    have hsn : b.map encM ++ [encM (pM s)] = (b ++ [pM s]).map encM := by simp
    have hlen : (b ++ [pM s]).length < 4611686018427387904 := by simp; omega
    obtain ⟨r1, r2⟩ := atoiV_range (cutA (cutA s nl) sp)
    have hil := Lib.itoa_length_le _ r1 r2
    have s1 : (itoaS (atoiV (cutA (cutA s nl) sp))).size + sp.size ≤ 9223372036854775807 := by
      rw [itoaS_eq, toB_len]; have : sp.size = 1 := rfl
      omega
    have s2 : (itoaS (atoiV (cutA (cutA s nl) sp)) ++ sp).size + (cutB (cutA s nl) sp).size ≤ 9223372036854775807 := by
      have h1 : sp = toB [32] := rfl
      rw [h1, itoaS_eq, toB_app, toB_len]; simp only [List.length_append, List.length_cons, List.length_nil]
      rw [← h1]; omega
    have hbs' : ∀ x ∈ b ++ [pM s], x.s.size < 4611686018427387904 := fun x hx => by
      rcases List.mem_append.1 hx with hx | hx
      · exact hbs x hx
      · simp only [List.mem_singleton] at hx; subst hx
        show (cutB (cutA s nl) sp).size < _
        omega
    simp only [ltI_eq, leI_eq, nl_eq, sp_eq, em_eq, str_eq, size_zero, c1, c2, c3, decide_true, cond_true, List.length_cons, List.length_nil, Nat.zero_add, c4, e2, hpm, hd1, hsn, List.drop_zero, take_all, okM_map, small_enc hlen, smallS_enc hbs', Bool.and_self, decM_all, hw, r1, r2, s1, s2]
    simp only [pRun]
    by_cases h0 : s.size = 0
    · simp only [h0, decide_true, Bool.not_true, cond_false, if_true, resP, flatM, Bool.or_true, cond_true]
    · rw [if_neg h0, decide_eq_false h0]
      simp only [Bool.not_false, cond_true]
      have z3 := cutB_lt s h0
      have ih := loop10 N k m (cutB s nl) (b ++ [pM s]) (n + 1) (by omega) (by omega) (by omega) (by simp; omega) (by omega) hbs'
      have hl2 : (List.map encM (b ++ [pM s])).length = (b ++ [pM s]).length := by simp
      rw [hl2, ih, resP_if]
      have hg : pGood s b = (cutOk s nl && decide ((itoaS (atoiV (cutA (cutA s nl) sp)) ++ sp) ++ cutB (cutA s nl) sp = cutA s nl) && validBook (b ++ [pM s])) := rfl
      rw [hg]
      generalize resP (pRun k (cutB s nl) (b ++ [pM s]) (n + 1)) = q
      generalize decide ((itoaS (atoiV (cutA (cutA s nl) sp)) ++ sp) ++ cutB (cutA s nl) sp = cutA s nl) = q2
      cases atoiOk (cutA (cutA s nl) sp) <;> cases cutOk s nl <;> cases q2 <;> cases validBook (b ++ [pM s]) <;> rfl
theorem run10 (s : ByteArray) : ∃ N, runPV E3 N 10 10 [S s] = cond (decide (65536 < s.size)) (some [.lit (.slice none 0 0), I 0, I 3]) (resP (pRun (s.size + 1) s [] 0)) := by
  refine ⟨s.size + 1, ?_⟩
  rw [e10]
  simp only [ltI_eq]
  by_cases h : s.size ≤ 65536
  · have h1 : ¬ ((65536 : Int) < (s.size : Int)) := by omega
    have h2 : ¬ (65536 < s.size) := by omega
    rw [decide_eq_false h1, decide_eq_false h2, cond_false, cond_false]
    have := loop10 (s.size + 1) (s.size + 1) (s.size + 1) s [] 0 (by omega) (Nat.le_refl _) h (by simp; omega) (by omega) (fun x hx => by cases hx)
    simpa using this
  · have h1 : ((65536 : Int) < (s.size : Int)) := by omega
    have h2 : (65536 < s.size) := by omega
    rw [decide_eq_true h1, decide_eq_true h2, cond_true, cond_true]
theorem run9 (s : ByteArray) : ∃ N, runPV E3 N 10 9 [S s] = cond (decide (65536 < s.size)) (some [.lit (.slice none 0 0), I 0, I 3]) (resP (pRun (s.size + 1) s [] 0)) := by
  refine ⟨s.size + 1, ?_⟩
  rw [e9]
  simp only [ltI_eq]
  by_cases h : s.size ≤ 65536
  · have h1 : ¬ ((65536 : Int) < (s.size : Int)) := by omega
    have h2 : ¬ (65536 < s.size) := by omega
    rw [decide_eq_false h1, decide_eq_false h2, cond_false, cond_false]
    have := loop9 (s.size + 1) (s.size + 1) (s.size + 1) s [] 0 (by omega) (Nat.le_refl _) h (by simp; omega) (by omega)
    simpa using this
  · have h1 : ((65536 : Int) < (s.size : Int)) := by omega
    have h2 : (65536 < s.size) := by omega
    rw [decide_eq_true h1, decide_eq_true h2, cond_true, cond_true]
theorem e3_ok : EnvOK E3 := env_ok pk3_ok
theorem parse_pk {xs : List PV} {K : List PV → R} {r : List PV} {g : Nat} (hrun : ∀ s : ByteArray, ∃ N, runPV E3 N 10 g [S s] = cond (decide (65536 < s.size)) (some [.lit (.slice none 0 0), I 0, I 3]) (resP (pRun (s.size + 1) s [] 0))) (h : hParse xs K = some r) :
    ∃ rs n k, K rs = some r ∧ runPV E3 n k g xs = some rs := by
  unfold hParse at h
  split at h
  · rename_i s
    obtain ⟨N, hN⟩ := hrun s
    rcases cond_some h with ⟨hc, h⟩ | ⟨hc, h⟩
    · rw [hc, cond_true] at hN
      exact ⟨_, N, 10, h, hN⟩
    · rw [hc, cond_false] at hN
      rcases cond_some h with ⟨hp, h⟩ | ⟨hp, h⟩
      · unfold pOk at hp
        rw [resP, hp, cond_true] at hN
        exact ⟨_, N, 10, h, hN⟩
      · unfold pOk at hp
        rw [resP, hp, cond_false] at hN
        exact ⟨_, N, 10, h, hN⟩
  · cases h
theorem pk4_ok : PksOK Tryd.prog T sigT pk4 := by
  refine ((pk3_ok.cons (g := 10) (q := hParse) ?_).cons (g := 9) (q := hParse) ?_)
  · intro m hm
    cases hm
    exact pk_of_run e3_ok (by kernel_rfl) fun xs K r h => parse_pk run10 h
  · intro m hm
    cases hm
    exact pk_of_run e3_ok (by kernel_rfl) fun xs K r h => parse_pk run9 h
end Go.Proofs.YtalfnpdgajfkiaaDoor.Ax
