/- Seat D, plain laws: texts are cut at one letter; numerals are read back; what is a line of a book. -/
import Derived.Test.YtalfnpdgajfkiaaDoorQ4
import Derived.Lib.ItoaLen
set_option linter.unusedVariables false
set_option linter.unusedSimpArgs false
namespace Go.Proofs.YtalfnpdgajfkiaaDoor.Ax
open Go

/-! ### Cuts -/
def cut1 : List UInt8 → UInt8 → List UInt8 × List UInt8 × Bool
  | [], _ => ([], [], false)
  | b :: l, c => if b = c then ([], l, true) else (b :: (cut1 l c).1, (cut1 l c).2.1, (cut1 l c).2.2)
theorem isPrefix_one (b c : UInt8) (l : List UInt8) : ([c].isPrefixOf (b :: l)) = decide (b = c) := by
  simp only [List.isPrefixOf, Bool.and_true]
  by_cases h : b = c
  · simp [h]
  · simp [h]; exact fun e => h e.symm
theorem cut_one : ∀ (s : List UInt8) (c : UInt8), Lib.cut s [c] = cut1 s c
  | [], c => by simp [Lib.cut, Lib.index, cut1]
  | b :: l, c => by
    have ih := cut_one l c
    unfold cut1
    by_cases h : b = c
    · rw [if_pos h]
      have : Lib.index (b :: l) [c] = 0 := by unfold Lib.index; rw [isPrefix_one]; simp [h]
      simp [Lib.cut, this]
    · rw [if_neg h, ← ih]
      have hi : Lib.index (b :: l) [c] = if Lib.index l [c] == -1 then -1 else Lib.index l [c] + 1 := by
        rw [Lib.index, isPrefix_one]; simp [h]
      have hge := Lib.index_ge l [c]
      unfold Lib.cut
      rw [hi]
      by_cases hm : Lib.index l [c] = -1
      · simp [hm]
      · have h0 : 0 ≤ Lib.index l [c] := by omega
        have hb : (Lib.index l [c] == -1) = false := by simpa using hm
        rw [hb]
        simp only [Bool.false_eq_true, if_false, h0, if_true, show (0 : Int) ≤ Lib.index l [c] + 1 by omega]
        have ht : (Lib.index l [c] + 1).toNat = (Lib.index l [c]).toNat + 1 := by omega
        simp only [ht, List.take_succ_cons, List.length_cons, List.length_nil, List.drop_succ_cons]
theorem cut1_hit : ∀ (x y : List UInt8) (c : UInt8), c ∉ x → cut1 (x ++ c :: y) c = (x, y, true)
  | [], y, c, _ => by simp [cut1]
  | b :: x, y, c, h => by
    have hb : b ≠ c := fun e => h (by simp [e])
    have := cut1_hit x y c (fun hm => h (by simp [hm]))
    simp [cut1, hb, this]
theorem cut1_found : ∀ (s : List UInt8) (c : UInt8), (cut1 s c).2.2 = true → s = (cut1 s c).1 ++ c :: (cut1 s c).2.1
  | [], c, h => by simp [cut1] at h
  | b :: l, c, h => by
    unfold cut1 at h ⊢
    by_cases hb : b = c
    · simp [hb]
    · simp only [if_neg hb] at h ⊢
      have := cut1_found l c h
      simp only [List.cons_append]
      rw [← this]
theorem cut1_rest_lt : ∀ (s : List UInt8) (c : UInt8), s ≠ [] → (cut1 s c).2.1.length < s.length
  | [], c, h => absurd rfl h
  | b :: l, c, _ => by
    unfold cut1
    by_cases hb : b = c
    · simp [hb]
    · simp only [if_neg hb]
      by_cases hl : l = []
      · subst hl; simp [cut1]
      · have := cut1_rest_lt l c hl
        simp; omega
theorem cut1_len (s : List UInt8) (c : UInt8) : (cut1 s c).1.length ≤ s.length ∧ (cut1 s c).2.1.length ≤ s.length := by
  induction s with
  | nil => simp [cut1]
  | cons b l ih =>
    unfold cut1
    by_cases hb : b = c
    · simp [hb]
    · simp only [if_neg hb, List.length_cons]; omega
theorem cutA_eq (s : ByteArray) : cutA s nl = toB (cut1 s.data.toList 10).1 := by
  show (⟨(Lib.cut s.data.toList [10]).1.toArray⟩ : ByteArray) = _
  rw [cut_one]; rfl
theorem cutB_eq (s : ByteArray) : cutB s nl = toB (cut1 s.data.toList 10).2.1 := by
  show (⟨(Lib.cut s.data.toList [10]).2.1.toArray⟩ : ByteArray) = _
  rw [cut_one]; rfl
theorem cutOk_eq (s : ByteArray) : cutOk s nl = (cut1 s.data.toList 10).2.2 := by
  show (Lib.cut s.data.toList [10]).2.2 = _
  rw [cut_one]
theorem cutA_sp (s : ByteArray) : cutA s sp = toB (cut1 s.data.toList 32).1 := by
  show (⟨(Lib.cut s.data.toList [32]).1.toArray⟩ : ByteArray) = _
  rw [cut_one]; rfl
theorem cutB_sp (s : ByteArray) : cutB s sp = toB (cut1 s.data.toList 32).2.1 := by
  show (⟨(Lib.cut s.data.toList [32]).2.1.toArray⟩ : ByteArray) = _
  rw [cut_one]; rfl
theorem toB_list (l : List UInt8) : (toB l).data.toList = l := by simp [toB]
theorem toB_len (l : List UInt8) : (toB l).size = l.length := by simp [toB, ByteArray.size]
theorem size_list (s : ByteArray) : s.data.toList.length = s.size := by simp
theorem toB_inj {a b : List UInt8} (h : toB a = toB b) : a = b := by
  have := congrArg (fun s : ByteArray => s.data.toList) h
  simpa [toB_list] using this
theorem cutA_size (s : ByteArray) : (cutA s nl).size ≤ s.size := by
  rw [cutA_eq, toB_len, ← size_list]; exact (cut1_len _ _).1
theorem cutB_size (s : ByteArray) : (cutB s nl).size ≤ s.size := by
  rw [cutB_eq, toB_len, ← size_list]; exact (cut1_len _ _).2
theorem cutA_sp_size (s : ByteArray) : (cutA s sp).size ≤ s.size := by
  rw [cutA_sp, toB_len, ← size_list]; exact (cut1_len _ _).1
theorem cutB_sp_size (s : ByteArray) : (cutB s sp).size ≤ s.size := by
  rw [cutB_sp, toB_len, ← size_list]; exact (cut1_len _ _).2
theorem cutB_lt (s : ByteArray) (h : s.size ≠ 0) : (cutB s nl).size < s.size := by
  rw [cutB_eq, toB_len, ← size_list]
  exact cut1_rest_lt _ _ (fun e => h (by rw [← size_list, e]; rfl))

/-! ### Numerals -/
theorem digits_mem (u : Nat) : ∀ b ∈ Lib.decDigits u, 48 ≤ b.toNat ∧ b.toNat ≤ 57 := by
  induction u using Nat.strongRecOn with
  | _ u ih =>
    intro b hb
    rw [Lib.decDigits] at hb
    split at hb
    · rename_i h
      simp only [List.mem_singleton] at hb
      subst hb
      rw [UInt8.toNat_ofNat', Nat.mod_eq_of_lt (by omega)]
      omega
    · rename_i h
      rcases List.mem_append.1 hb with hb | hb
      · exact ih (u / 10) (by omega) b hb
      · simp only [List.mem_singleton] at hb
        subst hb
        rw [UInt8.toNat_ofNat', Nat.mod_eq_of_lt (by omega)]
        omega
theorem parse_snoc : ∀ (l : List UInt8) (acc v : Nat) (c : UInt8), Lib.parseUint10 acc l = .ok v → Lib.parseUint10 acc (l ++ [c]) = Lib.parseUint10 v [c]
  | [], acc, v, c, h => by simp only [Lib.parseUint10] at h; cases h; rfl
  | b :: l, acc, v, c, h => by
    rw [List.cons_append, Lib.parseUint10]
    rw [Lib.parseUint10] at h
    split at h
    · rename_i h1
      rw [if_pos h1]
      split at h
      · cases h
      · rename_i h2
        rw [if_neg h2]
        split at h
        · cases h
        · rename_i h3
          rw [if_neg h3]
          exact parse_snoc l _ v c h
    · cases h
theorem parse_digits (u : Nat) (hu : u < 1000000000000000000) : Lib.parseUint10 0 (Lib.decDigits u) = .ok u := by
  induction u using Nat.strongRecOn with
  | _ u ih =>
    rw [Lib.decDigits]
    split
    · rename_i h
      simp only [Lib.parseUint10]
      have hb : (UInt8.ofNat (48 + u)).toNat = 48 + u := by rw [UInt8.toNat_ofNat', Nat.mod_eq_of_lt (by omega)]
      rw [hb, if_pos (by omega), if_neg (by omega), if_neg (by omega)]
      congr 1; omega
    · rename_i h
      rw [parse_snoc _ _ _ _ (ih (u / 10) (by omega) (by omega))]
      simp only [Lib.parseUint10]
      have hb : (UInt8.ofNat (48 + u % 10)).toNat = 48 + u % 10 := by rw [UInt8.toNat_ofNat', Nat.mod_eq_of_lt (by omega)]
      rw [hb, if_pos (by omega), if_neg (by omega), if_neg (by omega)]
      congr 1; omega
theorem itoa_nat {n : Int} (h : 0 ≤ n) : Lib.itoa n = Lib.decDigits n.toNat := by
  unfold Lib.itoa; rw [if_neg (by omega)]
theorem digits_ne (u : Nat) : Lib.decDigits u ≠ [] := fun h => by
  rw [Lib.decDigits] at h
  split at h
  · cases h
  · simp at h
theorem atoi_itoa {n : Int} (h0 : 0 ≤ n) (h1 : n ≤ 9999) : atoiV (itoaS n) = n := by
  have hl : (itoaS n).data.toList = Lib.decDigits n.toNat := by
    show (Lib.itoa n).toArray.toList = _
    rw [itoa_nat h0]
  unfold atoiV
  rw [hl]
  cases hd : Lib.decDigits n.toNat with
  | nil => exact absurd hd (digits_ne _)
  | cons c r =>
    have hc := digits_mem n.toNat c (by rw [hd]; simp)
    have hp := parse_digits n.toNat (by omega)
    rw [hd] at hp
    have hm : Lib.parseMag (c :: r) = .ok n.toNat := by
      unfold Lib.parseMag
      rw [if_neg (by simp)]; exact hp
    have hall : Lib.atoiAll (c :: r) = .ok n := by
      unfold Lib.atoiAll
      have q1 : ¬ (c.toNat = 43) := by omega
      have q2 : ¬ (c.toNat = 45) := by omega
      have q3 : ¬ (9223372036854775808 ≤ n.toNat) := by omega
      simp only [q1, q2, or_self, if_false, hm, q3, not_false_eq_true, and_false, false_and]
      show Lib.NumEnd.ok ((n.toNat : Nat) : Int) = .ok n
      rw [Int.toNat_of_nonneg h0]
    rw [hall]
theorem atoiV_range (s : ByteArray) : -9223372036854775808 ≤ atoiV s ∧ atoiV s ≤ 9223372036854775807 := by
  unfold atoiV
  split
  · rename_i v hv
    unfold Lib.atoiAll at hv
    split at hv
    · cases hv
    · rename_i c r
      dsimp only at hv
      split at hv
      · cases hv
      · cases hv
      · split at hv
        · cases hv
        · split at hv
          · cases hv
          · rename_i h1 h2
            injection hv with hv
            subst hv
            split
            · rename_i h3; constructor
              · have : ¬ (9223372036854775808 < _) := fun h => h2 ⟨h3, h⟩
                omega
              · omega
            · rename_i h3; constructor
              · omega
              · have : ¬ (9223372036854775808 ≤ _) := fun h => h1 ⟨h3, h⟩
                omega
  · unfold Lib.atoiSat; split <;> omega
  · omega
end Go.Proofs.YtalfnpdgajfkiaaDoor.Ax
