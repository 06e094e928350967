/- Seat D: the functions of the first layer: what their equations say. -/
import Derived.Test.YtalfnpdgajfkiaaDoorG1
import Derived.Test.YtalfnpdgajfkiaaDoorQ1
set_option linter.unusedVariables false
set_option linter.unusedSimpArgs false
namespace Go.Proofs.YtalfnpdgajfkiaaDoor.Ax
open Go

theorem wrapI {x : Int} (h0 : -9223372036854775808 ≤ x) (h1 : x ≤ 9223372036854775807) : IntKind.wrap .i64 x = x := by
  simp only [IntKind.wrap, IntKind.bits, IntKind.signed]
  simp
  omega
theorem nth_map {α : Type} (f : α → PV) (l : List α) (k : Nat) (h : k < l.length) : nthP (l.map f) k = f l[k] := by
  unfold nthP
  rw [List.getD_eq_getElem?_getD, List.getElem?_map, List.getElem?_eq_getElem h]
  rfl
theorem okM_enc {x : PV} (h : okM x = true) : encM (decM x) = x := by
  unfold okM at h
  split at h
  · rfl
  · cases h
theorem encM_all {l : List PV} (h : l.all okM = true) : (l.map decM).map encM = l := by
  rw [List.map_map]
  conv => rhs; rw [← List.map_id l]
  refine List.map_congr_left fun x hx => ?_
  exact okM_enc (List.all_eq_true.1 h x hx)
theorem decM_enc (m : Mng) : decM (encM m) = m := rfl
theorem decM_all (l : List Mng) : (l.map encM).map decM = l := by
  rw [List.map_map]
  conv => rhs; rw [← List.map_id l]
  exact List.map_congr_left fun x _ => rfl
theorem okM_encM (m : Mng) : okM (encM m) = true := rfl
theorem okM_map (l : List Mng) : (l.map encM).all okM = true := by simp [okM_encM]
theorem flat11 : isFlat E0 11 = true := by kernel_rfl

theorem ba_beq (a b : ByteArray) : (a == b) = decide (a = b) := by
  obtain ⟨a⟩ := a
  obtain ⟨b⟩ := b
  show (a == b) = _
  by_cases h : a = b
  · simp [h]
  · simp [h]
theorem mng_beq (a b : Mng) : ((a.n == b.n) && (a.s == b.s)) = decide (a = b) := by
  obtain ⟨n, s⟩ := a
  obtain ⟨m, t⟩ := b
  rw [ba_beq]
  by_cases h1 : n = m <;> by_cases h2 : s = t <;> simp [h1, h2]
theorem dec_cons {α : Type} [DecidableEq α] (a b : α) (l r : List α) : decide (a :: l = b :: r) = (decide (a = b) && decide (l = r)) := by
  by_cases h1 : a = b <;> by_cases h2 : l = r <;> simp [h1, h2]
theorem drop_cons {α : Type} {l : List α} {k : Nat} (h : k < l.length) : l.drop k = l[k] :: l.drop (k + 1) := List.drop_eq_getElem_cons h
theorem getD_byte (s : ByteArray) (k : Nat) (h : k < s.size) (h2 : k < s.data.toList.length) : s.data.getD k 0 = s.data.toList[k] := by
  simp only [Array.getD]
  rw [dif_pos (show k < s.data.size from h)]
  simp

/-! ### within -/
theorem run50 (N : Nat) (a lo hi : Int) : runPV E0 N 10 50 [I a, I lo, I hi] = some [B (leI lo a && leI a hi)] := by
  rw [e50]
  cases leI lo a <;> rfl
theorem numOk_eq (n : Int) : numOk n = (decide (0 ≤ n) && decide (n ≤ 9999)) := by simp only [numOk, leI_eq]

/-! ### SameBook -/
theorem loop11 (N : Nat) (xs ys : List Mng) (hl : xs.length = ys.length) (hs : xs.length < 4611686018427387904) : ∀ (d m k : Nat), k + d = xs.length → d < m → L11_0 N m (xs.map encM) (ys.map encM) (k : Int) = some [B (decide (xs.drop k = ys.drop k))]
  | d, 0, k, _, h => by omega
  | 0, m + 1, k, hk, _ => by
    rw [l11_0]
    simp only [ltI_eq, leI_eq]
    have h1 : ¬ ((k : Int) < ((xs.length : Nat) : Int)) := by omega
    simp only [List.length_map, decide_eq_false h1, cond_false]
    rw [List.drop_eq_nil_of_le (by omega), List.drop_eq_nil_of_le (by omega)]
    simp
  | d + 1, m + 1, k, hk, hm => by
    rw [l11_0]
    simp only [ltI_eq, leI_eq]
    have hkx : k < xs.length := by omega
    have hky : k < ys.length := by omega
    have h1 : (k : Int) < ((xs.length : Nat) : Int) := by omega
    have h2 : (k : Int) < ((ys.length : Nat) : Int) := by omega
    have h0 : (0 : Int) ≤ (k : Int) := by omega
    have hw : IntKind.wrap .i64 ((k : Int) + 1) = ((k + 1 : Nat) : Int) := by rw [wrapI (by omega) (by omega)]; omega
    simp only [List.length_map, decide_eq_true h1, decide_eq_true h2, decide_eq_true h0, Bool.true_and, Bool.and_true, cond_true, Int.toNat_natCast, nth_map encM xs k hkx, nth_map encM ys k hky, hw]
    have hx : okCs ([CK.int IntKind.i64] ++ ([CK.str] ++ [])) (encM xs[k]) 0 = true := rfl
    have hy : okCs ([CK.int IntKind.i64] ++ ([CK.str] ++ [])) (encM ys[k]) 0 = true := rfl
    simp only [hx, hy, cond_true]
    rw [loop11 N xs ys hl hs d m (k + 1) (by omega) (by omega), drop_cons hkx, drop_cons hky]
    show cond (!((xs[k].n == ys[k].n) && (xs[k].s == ys[k].s))) _ _ = _
    rw [mng_beq, dec_cons]
    cases decide (xs[k] = ys[k]) <;> rfl
theorem run11 (xs ys : List Mng) (hx : xs.length < 4611686018427387904) (hy : ys.length < 4611686018427387904) : runPV E0 (xs.length + 1) 10 11 [.sl 2 (xs.map encM), .sl 2 (ys.map encM)] = some [B (decide (xs = ys))] := by
  rw [e11]
  by_cases hl : xs.length = ys.length
  · have : (((List.length (xs.map encM) : Nat) : Int) != ((List.length (ys.map encM) : Nat) : Int)) = false := by simp [hl]
    rw [this, cond_false]
    have := loop11 (xs.length + 1) xs ys hl hx xs.length (xs.length + 1) 0 (by omega) (by omega)
    simpa using this
  · have : (((List.length (xs.map encM) : Nat) : Int) != ((List.length (ys.map encM) : Nat) : Int)) = true := by simp; omega
    rw [this, cond_true]
    have : xs ≠ ys := fun e => hl (by rw [e])
    simp [this]

/-! ### meaning -/
theorem loop100 (N : Nat) (a : Int) (s : ByteArray) (hs : s.size < 4611686018427387904) : ∀ (d m k : Nat), k + d = s.size → d < m → L100_0 N m a s (k : Int) = some [B ((s.data.toList.drop k).all okB && numOk a && lenOk s)]
  | d, 0, k, _, h => by omega
  | 0, m + 1, k, hk, _ => by
    rw [l100_0]
    simp only [ltI_eq, leI_eq]
    have h1 : ¬ ((k : Int) < ((s.size : Nat) : Int)) := by omega
    simp only [decide_eq_false h1, cond_false]
    have hd : s.data.toList.drop k = [] := List.drop_eq_nil_of_le (by simp; omega)
    rw [hd]
    simp only [List.all_nil, Bool.true_and, numOk_eq, lenOk]
    have c1 : decide ((((s.size : Nat) : Int)) ≥ 1) = decide (1 ≤ s.size) := decide_eq_decide.2 (by omega)
    have c2 : decide ((((s.size : Nat) : Int)) ≤ 60) = decide (s.size ≤ 60) := decide_eq_decide.2 (by omega)
    rw [c1, c2]
    show cond (decide (0 ≤ a)) _ _ = _
    cases decide (0 ≤ a) <;> cases decide (a ≤ 9999) <;> cases decide (1 ≤ s.size) <;> rfl
  | d + 1, m + 1, k, hk, hm => by
    rw [l100_0]
    simp only [ltI_eq, leI_eq]
    have hks : k < s.size := by omega
    have h1 : (k : Int) < ((s.size : Nat) : Int) := by omega
    have h0 : (0 : Int) ≤ (k : Int) := by omega
    have hw : IntKind.wrap .i64 ((k : Int) + 1) = ((k + 1 : Nat) : Int) := by rw [wrapI (by omega) (by omega)]; omega
    simp only [decide_eq_true h1, decide_eq_true h0, Bool.true_and, cond_true, Int.toNat_natCast, decide_eq_true hks, hw]
    rw [loop100 N a s hs d m (k + 1) (by omega) (by omega)]
    have hkl : k < s.data.toList.length := by simpa using hks
    rw [drop_cons hkl, List.all_cons]
    simp only [getD_byte s k hks hkl]
    generalize s.data.toList[k] = b
    unfold okB
    by_cases q1 : 32 ≤ b.toNat
    · by_cases q2 : b.toNat ≤ 126
      · have e1 : ¬ ((b.toNat : Int) < 32) := by omega
        have e2 : ¬ ((b.toNat : Int) > 126) := by omega
        simp [q1, q2, e1, e2]
      · have e1 : ¬ ((b.toNat : Int) < 32) := by omega
        have e2 : ((b.toNat : Int) > 126) := by omega
        simp [q1, q2, e1, e2]
    · have e1 : ((b.toNat : Int) < 32) := by omega
      simp [q1, e1]
theorem run100 (a : Int) (s : ByteArray) (hs : s.size < 4611686018427387904) : runPV E0 (s.size + 1) 10 100 [.agg [I a, S s]] = some [B (sOk s && numOk a && lenOk s)] := by
  rw [e100]
  have := loop100 (s.size + 1) a s hs s.size (s.size + 1) 0 (by omega) (by omega)
  simpa [sOk] using this

/-! ### indexFunc with the closure of ValidBook -/
theorem decode_ascii (s : ByteArray) (i : Nat) (h : i < s.size) (hb : (s.data.toList[i]'(by simpa using h)).toNat < 128) : Utf8.decode s i = ((s.data.toList[i]'(by simpa using h)).toNat, 1) := by
  have hg : s.get! (i + 0) = s.data.toList[i]'(by simpa using h) := by
    show s.data[i]! = _
    rw [getElem!_pos s.data i h]; simp
  unfold Utf8.decode
  simp only [hg]
  rw [if_pos (by simpa using hb)]
theorem decode_high (s : ByteArray) (i : Nat) (h : i < s.size) (hb : ¬ (s.data.toList[i]'(by simpa using h)).toNat < 128) : 126 < (Utf8.decode s i).1 := by
  have hg : s.get! (i + 0) = s.data.toList[i]'(by simpa using h) := by
    show s.data[i]! = _
    rw [getElem!_pos s.data i h]; simp
  unfold Utf8.decode
  simp only [hg]
  rw [if_neg (by simpa using hb)]
  have hr : 126 < Utf8.runeError := by decide
  split
  · split
    · simp only; omega
    · exact hr
  · split
    · split
      · rename_i hc; simp only [Bool.and_eq_true, decide_eq_true_eq] at hc; simp only; omega
      · exact hr
    · split
      · split
        · rename_i hc; simp only [Bool.and_eq_true, decide_eq_true_eq] at hc; simp only; omega
        · exact hr
      · exact hr
theorem oddFrom_cons (b : UInt8) (l : List UInt8) (k : Nat) : oddFrom (b :: l) k = if okB b then oddFrom l (k + 1) else (k : Int) := by
  unfold oddFrom
  rw [List.findIdx?_cons]
  cases h : okB b with
  | false => simp
  | true =>
    simp only [Bool.not_true, Bool.false_eq_true, if_false, if_true]
    cases l.findIdx? fun b => !okB b with
    | none => rfl
    | some i => simp; omega
theorem loop142 (N : Nat) (s : ByteArray) : ∀ (d m k : Nat), k + d = s.size → d < m → L142_0 N m s k = some [I (oddFrom (s.data.toList.drop k) k)]
  | d, 0, k, _, h => by omega
  | 0, m + 1, k, hk, _ => by
    rw [l142_0]
    simp only [ltI_eq, leI_eq]
    have h1 : ¬ (k < s.size) := by omega
    simp only [decide_eq_false h1, cond_false]
    have hd : s.data.toList.drop k = [] := List.drop_eq_nil_of_le (by simp; omega)
    rw [hd]
    rfl
  | d + 1, m + 1, k, hk, hm => by
    rw [l142_0]
    simp only [ltI_eq, leI_eq]
    have hks : k < s.size := by omega
    have hkl : k < s.data.toList.length := by simpa using hks
    simp only [decide_eq_true hks, cond_true]
    rw [drop_cons hkl, oddFrom_cons]
    by_cases hb : (s.data.toList[k]).toNat < 128
    · have hd := decode_ascii s k hks hb
      simp only [hd]
      rw [loop142 N s d m (k + 1) (by omega) (by omega)]
      generalize s.data.toList[k] = b at hb
      unfold okB
      by_cases q1 : 32 ≤ b.toNat
      · by_cases q2 : b.toNat ≤ 126
        · have e1 : ¬ ((b.toNat : Int) < 32) := by omega
          have e2 : ¬ ((b.toNat : Int) > 126) := by omega
          simp [q1, q2, e1, e2]
        · have e1 : ¬ ((b.toNat : Int) < 32) := by omega
          have e2 : ((b.toNat : Int) > 126) := by omega
          simp [q1, q2, e1, e2]
      · have e1 : ((b.toNat : Int) < 32) := by omega
        simp [q1, e1]
    · have hd := decode_high s k hks hb
      have e1 : ¬ (((Utf8.decode s k).1 : Int) < 32) := by omega
      have e2 : (((Utf8.decode s k).1 : Int) > 126) := by omega
      have hok : okB s.data.toList[k] = false := by
        unfold okB
        rw [decide_eq_false (p := (s.data.toList[k]).toNat ≤ 126) (by omega), Bool.and_false]
      rw [hok]
      simp [e1, e2]
theorem run142 (s : ByteArray) : runPV E0 (s.size + 1) 10 142 [S s, .lit (.func (.func 48) #[] #[]), B true] = some [I (oddIdx s)] := by
  refine (e142 (s.size + 1) s).trans ?_
  rw [loop142 (s.size + 1) s s.size (s.size + 1) 0 (by omega) (by omega)]
  rfl

theorem isFn_eq {g : FuncId} {x : PV} (h : isFn g x = true) : x = .lit (.func (.func g) #[] #[]) := by
  unfold isFn at h
  split at h
  · rename_i g' a b
    simp only [Bool.and_eq_true, decide_eq_true_eq, Array.isEmpty_iff] at h
    obtain ⟨⟨rfl, rfl⟩, rfl⟩ := h
    rfl
  · cases h
/-! ### They are told -/
theorem e0_ok : EnvOK E0 := env_ok (pk0_ok sigT)
theorem pk1_ok : PksOK Tryd.prog T sigT pk1 := by
  refine (((((pk0_ok sigT).cons (g := 142) (q := h142) ?_).cons (g := 11) (q := h11) ?_).cons (g := 100) (q := h100) ?_).cons (g := 50) (q := h50) ?_)
  · intro m hm
    cases hm
    refine pk_of_run e0_ok (by kernel_rfl) fun xs K r h => ?_
    unfold h142 at h
    split at h
    · rename_i s f
      rcases cond_some h with ⟨hc, h⟩ | ⟨_, h⟩
      · rw [isFn_eq hc]; exact ⟨_, _, _, h, run142 s⟩
      · cases h
    · cases h
  · intro m hm
    cases hm
    refine pk_of_run e0_ok (by kernel_rfl) fun xs K r h => ?_
    unfold h11 at h
    split at h
    · rename_i l q
      rcases cond_some h with ⟨hc, h⟩ | ⟨_, h⟩
      · simp only [Bool.and_eq_true, small, decide_eq_true_eq] at hc
        obtain ⟨⟨⟨h1, h2⟩, h3⟩, h4⟩ := hc
        have := run11 (l.map decM) (q.map decM) (by simpa using h3) (by simpa using h4)
        rw [encM_all h1, encM_all h2] at this
        exact ⟨_, _, _, h, this⟩
      · cases h
    · cases h
  · intro m hm
    cases hm
    refine pk_of_run e0_ok (by kernel_rfl) fun xs K r h => ?_
    unfold h100 at h
    split at h
    · rename_i a s
      rcases cond_some h with ⟨hc, h⟩ | ⟨_, h⟩
      · exact ⟨_, _, _, h, run100 a s (of_decide_eq_true hc)⟩
      · cases h
    · cases h
  · intro m hm
    cases hm
    refine pk_of_run e0_ok (by kernel_rfl) fun xs K r h => ?_
    unfold h50 at h
    split at h
    · rename_i a lo hi
      exact ⟨_, _, _, h, run50 0 a lo hi⟩
    · cases h
end Go.Proofs.YtalfnpdgajfkiaaDoor.Ax
