/- 'Ax', part 17: regions whose order is drawn: what must come ahead of an operation. -/
import Derived.Test.YtalfnpdgajfkiaaDoorAx16
set_option linter.unusedVariables false
set_option linter.unusedSimpArgs false
namespace Go.Proofs.YtalfnpdgajfkiaaDoor.Ax
open Go

/-! ### What must come ahead -/
inductive Anc (ops : Array Oper) : Nat → Nat → Prop
  | step {i j : Nat} {o : Oper} (h : ops[i]? = some o) (hj : j ∈ afters o) : Anc ops i j
  | trans {i k j : Nat} {o : Oper} (h : ops[i]? = some o) (hk : k ∈ afters o) (hj : Anc ops k j) : Anc ops i j
theorem maskOf_bit {acc : List Nat} : ∀ (l : List Nat) (j : Nat), (maskOf acc l).testBit j = true → ∃ k, k ∈ l ∧ (j = k ∨ (acc.getD k 0).testBit j = true)
  | [], j, h => by simp [maskOf] at h
  | k :: r, j, h => by
    simp only [maskOf, Nat.testBit_or, Bool.or_eq_true] at h
    rcases h with h | h | h
    · rw [Nat.one_shiftLeft, Nat.testBit_two_pow] at h
      have h : k = j := of_decide_eq_true h
      exact ⟨k, by simp, .inl h.symm⟩
    · exact ⟨k, by simp, .inr h⟩
    · obtain ⟨k', h1, h2⟩ := maskOf_bit r j h
      exact ⟨k', by simp [h1], h2⟩
theorem ancs_ok {ops : Array Oper} : ∀ (l : List Oper) (acc m : List Nat), ancs l acc = some m → l = ops.toList.drop acc.length → acc.length ≤ ops.size → (∀ (i a : Nat), acc[i]? = some a → ∀ j, a.testBit j = true → Anc ops i j) → (∀ (i : Nat) (o : Oper), i < acc.length → ops[i]? = some o → ∀ j, j ∈ afters o → j < i) →
    (∀ (i a : Nat), m[i]? = some a → ∀ j, a.testBit j = true → Anc ops i j) ∧ (∀ (i : Nat) (o : Oper), ops[i]? = some o → ∀ j, j ∈ afters o → j < i) ∧ m.length = ops.size
  | [], acc, m, h, hl, hle, h1, h2 => by
    simp only [ancs, Option.some.injEq] at h
    subst h
    have hlen : acc.length = ops.size := by
      have : (ops.toList.drop acc.length).length = 0 := by rw [← hl]; rfl
      simp at this; omega
    exact ⟨h1, fun i o ho => h2 i o (by rw [hlen]; exact (Array.getElem?_eq_some_iff.1 ho).1) ho, hlen⟩
  | o :: r, acc, m, h, hl, hle, h1, h2 => by
    simp only [ancs] at h
    split at h
    · rename_i hc
      have hat : ops[acc.length]? = some o := by
        have : (ops.toList.drop acc.length)[0]? = some o := by rw [← hl]; rfl
        simpa using this
      have hlt : acc.length < ops.size := (Array.getElem?_eq_some_iff.1 hat).1
      refine ancs_ok r _ m h ?_ (by simp; omega) (fun i a hi j hj => ?_) (fun i o' hi ho' j hj => ?_)
      · have : (ops.toList.drop acc.length).drop 1 = r := by rw [← hl]; rfl
        rw [List.drop_drop] at this
        simpa using this.symm
      · by_cases hil : i < acc.length
        · rw [List.getElem?_append_left hil] at hi; exact h1 i a hi j hj
        · rw [List.getElem?_append_right (by omega)] at hi
          cases hz : i - acc.length with
          | succ q => rw [hz] at hi; simp at hi
          | zero =>
            rw [hz] at hi
            simp at hi
            subst hi
            have hie : i = acc.length := by omega
            subst hie
            obtain ⟨k, hk1, hk2⟩ := maskOf_bit _ j hj
            rcases hk2 with rfl | hk2
            · exact .step hat hk1
            · rw [List.getD_eq_getElem?_getD] at hk2
              cases hg : acc[k]? with
              | none => rw [hg] at hk2; simp at hk2
              | some a => rw [hg] at hk2; exact .trans hat hk1 (h1 k a hg j hk2)
      · by_cases hil : i < acc.length
        · exact h2 i o' hil ho' j hj
        · have hie : i = acc.length := by simp at hi; omega
          subst hie
          rw [hat] at ho'; cases ho'
          simpa using List.all_eq_true.1 hc j hj
    · cases h
theorem cutAt_bit {m : List Nat} {c i a : Nat} (h : cutAt m c = true) (hi : c ≤ i) (ha : m[i]? = some a) (j : Nat) (hj : j < c) : a.testBit j = true := by
  have h1 := List.all_eq_true.1 h a (by
    have : (m.drop c)[i - c]? = some a := by rw [List.getElem?_drop]; rw [show c + (i - c) = i by omega]; exact ha
    exact List.mem_of_getElem? this)
  have h2 : a &&& (2 ^ c - 1) = 2 ^ c - 1 := by simpa using h1
  have h3 : (a &&& (2 ^ c - 1)).testBit j = (2 ^ c - 1).testBit j := by rw [h2]
  rw [Nat.testBit_and, Nat.testBit_two_pow_sub_one] at h3
  simpa [hj] using h3

/-! ### The lists of what is done -/
/-- So many of the first n are not done. -/
def unl : Nat → (Nat → Bool) → Nat
  | 0, _ => 0
  | n + 1, f => unl n f + (if f n then 0 else 1)
def mark1 (f : Nat → Bool) (i : Nat) : Nat → Bool := fun j => if j = i then true else f j
theorem unl_same {f g : Nat → Bool} : ∀ (n : Nat), (∀ i, i < n → f i = g i) → unl n f = unl n g
  | 0, _ => rfl
  | n + 1, h => by simp only [unl]; rw [unl_same n fun i hi => h i (by omega), h n (by omega)]
theorem unl_mark {f : Nat → Bool} {i : Nat} : ∀ (n : Nat), i < n → f i = false → unl n f = unl n (mark1 f i) + 1
  | 0, h, _ => by omega
  | n + 1, h, hf => by
    simp only [unl]
    by_cases hin : i = n
    · subst hin
      rw [unl_same i (g := mark1 f i) fun j hj => by unfold mark1; rw [if_neg (by omega)]]
      simp [hf, mark1]
    · rw [unl_mark n (by omega) hf]
      have : mark1 f i n = f n := by unfold mark1; rw [if_neg (by omega)]
      rw [this]; omega
theorem unl_zero {f : Nat → Bool} : ∀ (n : Nat), unl n f = 0 → ∀ i, i < n → f i = true
  | 0, _, i, hi => by omega
  | n + 1, h, i, hi => by
    simp only [unl] at h
    by_cases hin : i = n
    · subst hin
      by_cases hf : f i = true
      · exact hf
      · rw [if_neg hf] at h; omega
    · exact unl_zero n (by omega) i (by omega)
theorem unl_ex {f : Nat → Bool} : ∀ (n : Nat), 0 < unl n f → ∃ i, i < n ∧ f i = false ∧ ∀ j, j < i → f j = true
  | 0, h => by simp [unl] at h
  | n + 1, h => by
    by_cases hz : unl n f = 0
    · have hall := unl_zero n hz
      refine ⟨n, by omega, ?_, hall⟩
      simp only [unl, hz] at h
      cases hf : f n with
      | true => rw [hf] at h; simp at h
      | false => rfl
    · obtain ⟨i, h1, h2, h3⟩ := unl_ex n (Nat.pos_of_ne_zero hz)
      exact ⟨i, by omega, h2, h3⟩
structure Lst (n : Nat) (listed : Array Bool) (f : Nat → Bool) : Prop where
  size : listed.size = n
  at_ : ∀ i, i < n → listed[i]? = some (f i)
theorem Lst.mark {n : Nat} {listed : Array Bool} {f : Nat → Bool} (h : Lst n listed f) (i : Nat) : Lst n (listed.setIfInBounds i true) (mark1 f i) := by
  refine ⟨by simp [h.size], fun j hj => ?_⟩
  unfold mark1
  by_cases hij : j = i
  · subst hij; rw [if_pos rfl]; simp [h.size, hj]
  · rw [if_neg hij, Array.getElem?_setIfInBounds_ne (fun e => hij e.symm)]; exact h.at_ j hj
theorem Lst.ready {ops : Array Oper} {listed : Array Bool} {f : Nat → Bool} (h : Lst ops.size listed f) {i : Nat} : i ∈ Region.ready .any ops listed ↔ ∃ o, ops[i]? = some o ∧ f i = false ∧ ∀ j, j ∈ afters o → j < ops.size ∧ f j = true := by
  unfold Region.ready
  simp only [List.mem_filter, List.mem_range, Bool.and_eq_true, Bool.not_eq_true']
  constructor
  · rintro ⟨hi, h1, h2⟩
    have ho : ops[i]? = some ops[i] := Array.getElem?_eq_getElem hi
    refine ⟨ops[i], ho, ?_, fun j hj => ?_⟩
    · rw [Array.getD_eq_getD_getElem?, h.at_ i hi] at h1; exact h1
    · rw [ho] at h2
      simp only [Option.map_some, Option.getD_some] at h2
      simp only [afters, List.mem_map, List.mem_filter] at hj
      obtain ⟨e, ⟨he, hb⟩, rfl⟩ := hj
      have := (Array.all_eq_true_iff_forall_mem.1 h2) e (by simpa using he)
      simp only [hb, Bool.not_true, Bool.false_or] at this
      by_cases hlt : e.on < ops.size
      · rw [Array.getD_eq_getD_getElem?, h.at_ _ hlt] at this
        exact ⟨hlt, this⟩
      · rw [Array.getD_eq_getD_getElem?, Array.getElem?_eq_none (by rw [h.size]; omega)] at this
        simp at this
  · rintro ⟨o, ho, h1, h2⟩
    have hi : i < ops.size := (Array.getElem?_eq_some_iff.1 ho).1
    refine ⟨hi, by rw [Array.getD_eq_getD_getElem?, h.at_ i hi]; exact h1, ?_⟩
    rw [ho]
    simp only [Option.map_some, Option.getD_some]
    rw [Array.all_eq_true_iff_forall_mem]
    intro e he
    cases hb : Region.binds .any e with
    | false => rfl
    | true =>
      obtain ⟨h3, h4⟩ := h2 e.on (by simp only [afters, List.mem_map, List.mem_filter]; exact ⟨e, ⟨by simpa using he, hb⟩, rfl⟩)
      simp [Array.getD_eq_getD_getElem?, h.at_ _ h3, h4]
/-- What is done is done with all ahead of it. -/
def Down (ops : Array Oper) (f : Nat → Bool) : Prop := ∀ (i : Nat) (o : Oper), ops[i]? = some o → f i = true → ∀ j, j ∈ afters o → f j = true
theorem Down.anc {ops : Array Oper} {f : Nat → Bool} (h : Down ops f) {i j : Nat} (ha : Anc ops i j) (hi : f i = true) (hlt : ∀ (i : Nat) (o : Oper), ops[i]? = some o → ∀ j, j ∈ afters o → j < i) : f j = true := by
  induction ha with
  | step ho hj => exact h _ _ ho hi _ hj
  | trans ho hk _ ih => exact ih (h _ _ ho hi _ hk)
theorem Down.anc_ready {ops : Array Oper} {f : Nat → Bool} (h : Down ops f) {i j : Nat} (ha : Anc ops i j) {o : Oper} (ho : ops[i]? = some o) (hr : ∀ j, j ∈ afters o → f j = true) (hlt : ∀ (i : Nat) (o : Oper), ops[i]? = some o → ∀ j, j ∈ afters o → j < i) : f j = true := by
  cases ha with
  | step ho' hj => rw [ho] at ho'; cases ho'; exact hr _ hj
  | trans ho' hk hj => rw [ho] at ho'; cases ho'; exact h.anc hj (hr _ hk) hlt
theorem Down.mark {ops : Array Oper} {f : Nat → Bool} (h : Down ops f) {i : Nat} {o : Oper} (ho : ops[i]? = some o) (hr : ∀ j, j ∈ afters o → f j = true) : Down ops (mark1 f i) := by
  intro k o' hk hf j hj
  unfold mark1 at hf ⊢
  by_cases hki : k = i
  · subst hki; rw [ho] at hk; cases hk
    split
    · rfl
    · exact hr j hj
  · rw [if_neg hki] at hf
    split
    · rfl
    · exact h k o' hk hf j hj
end Go.Proofs.YtalfnpdgajfkiaaDoor.Ax
