/- Seat D: books are written, by the flag's own code and by the reference. -/
import Derived.Test.YtalfnpdgajfkiaaDoorG3
import Derived.Test.YtalfnpdgajfkiaaDoorQ3
import Derived.Lib.ItoaLen
set_option linter.unusedVariables false
set_option linter.unusedSimpArgs false
namespace Go.Proofs.YtalfnpdgajfkiaaDoor.Ax
open Go

theorem toB_app (a b : List UInt8) : toB a ++ toB b = toB (a ++ b) := by
  apply ByteArray.ext
  show (toB a ++ toB b).data = _
  rw [ByteArray.data_append]
  apply Array.ext'
  simp [toB]
theorem toB_of (s : ByteArray) : toB s.data.toList = s := by
  apply ByteArray.ext; simp [toB]
theorem toB_size (l : List UInt8) : (toB l).size = l.length := by simp [toB, ByteArray.size]
theorem itoaS_eq (n : Int) : itoaS n = toB (Lib.itoa n) := rfl
theorem bytesPV_toB (l : List UInt8) : bytesPV (toB l) = l.map fun b => PV.lit (.int .u8 (b.toNat : Int)) := by simp [bytesPV, toB]
theorem toBA_bytes (l : List UInt8) : toBA (l.map fun b => PV.lit (.int .u8 (b.toNat : Int))) = toB l := by
  unfold toBA toB
  congr 1
  congr 1
  rw [List.map_map]
  conv => rhs; rw [← List.map_id l]
  refine List.map_congr_left fun b _ => ?_
  simp [getI]
theorem okU8_bytes (l : List UInt8) : (l.map fun b => PV.lit (.int .u8 (b.toNat : Int))).all okU8 = true := by
  rw [List.all_map, List.all_eq_true]
  intro b _
  simp only [Function.comp_apply, okU8, leI_eq, ltI_eq]
  have := b.toNat_lt
  simp; omega
theorem valid_mem : ∀ (l : List Mng) (p : Option Int), validFrom p l = true → ∀ m ∈ l, mngOk m = true
  | [], _, _, m, hm => by cases hm
  | x :: r, p, h, m, hm => by
    simp only [validFrom, Bool.and_eq_true] at h
    rcases List.mem_cons.1 hm with rfl | hm
    · exact h.1.2
    · exact valid_mem r _ h.2 m hm
theorem mngOk_facts {m : Mng} (h : mngOk m = true) : sOk m.s = true ∧ 0 ≤ m.n ∧ m.n ≤ 9999 ∧ 1 ≤ m.s.size ∧ m.s.size ≤ 60 := by
  simp only [mngOk, numOk_eq, lenOk, Bool.and_eq_true, decide_eq_true_eq] at h
  exact ⟨h.1.1, h.1.2.1, h.1.2.2, h.2.1, h.2.2⟩
theorem itoa_len {n : Int} (h0 : 0 ≤ n) (h1 : n ≤ 9999) : (Lib.itoa n).length ≤ 21 := Lib.itoa_length_le n (by omega) (by omega)
theorem line_len {m : Mng} (h : mngOk m = true) : (lineB m).length ≤ 83 := by
  obtain ⟨_, h1, h2, _, h4⟩ := mngOk_facts h
  have := itoa_len h1 h2
  have h5 : m.s.data.toList.length = m.s.size := by simp
  simp only [lineB, List.length_append, List.length_cons, List.length_nil]
  omega
/-- The line as it is put together. -/
theorem line_eq (m : Mng) : ((itoaS m.n ++ ⟨#[32]⟩) ++ m.s) ++ ⟨#[10]⟩ = toB (lineB m) := by
  have h1 : (⟨#[32]⟩ : ByteArray) = toB [32] := rfl
  have h2 : (⟨#[10]⟩ : ByteArray) = toB [10] := rfl
  rw [h1, h2, itoaS_eq, toB_app]
  conv => lhs; lhs; rhs; rw [← toB_of m.s]
  rw [toB_app, toB_app]
  rfl
theorem loop13 (N : Nat) (xs : List Mng) (hs : xs.length ≤ 200) (hok : ∀ m ∈ xs, mngOk m = true) : ∀ (d m k : Nat) (acc : List UInt8), k + d = xs.length → d < m → acc.length + 83 * d ≤ 20000 → L13_0 N m (xs.map encM) (toB acc) (k : Int) = some [S (toB (acc ++ fmtB (xs.drop k)))]
  | d, 0, k, _, _, h, _ => by omega
  | 0, m + 1, k, acc, hk, _, _ => by
    rw [l13_0]
    simp only [ltI_eq, leI_eq]
    have h1 : ¬ ((k : Int) < ((xs.length : Nat) : Int)) := by omega
    simp only [List.length_map, decide_eq_false h1, cond_false]
    rw [List.drop_eq_nil_of_le (by omega)]
    simp [fmtB]
  | d + 1, m + 1, k, acc, hk, hm, hacc => by
    rw [l13_0]
    simp only [ltI_eq, leI_eq]
    have hkx : k < xs.length := by omega
    have h1 : (k : Int) < ((xs.length : Nat) : Int) := by omega
    have h0 : (0 : Int) ≤ (k : Int) := by omega
    have hw : IntKind.wrap .i64 ((k : Int) + 1) = ((k + 1 : Nat) : Int) := by rw [wrapI (by omega) (by omega)]; omega
    have hx : okCs ([CK.int IntKind.i64] ++ ([CK.str] ++ [])) (encM xs[k]) 0 = true := rfl
    have g0 : getI (cellAt (encM xs[k]) 0) = xs[k].n := rfl
    have g1 : getS (cellAt (encM xs[k]) (0 + 1)) = xs[k].s := rfl
    have hmk := hok _ (List.getElem_mem hkx)
    obtain ⟨_, m1, m2, m3, m4⟩ := mngOk_facts hmk
    have hil := itoa_len m1 m2
    have hll := line_len hmk
    have b1 : -9223372036854775808 ≤ xs[k].n := by omega
    have b2 : xs[k].n ≤ 9223372036854775807 := by omega
    simp only [List.length_map, decide_eq_true h1, decide_eq_true h0, Bool.true_and, cond_true, Int.toNat_natCast, nth_map encM xs k hkx, hw, hx, g0, g1, decide_eq_true b1, decide_eq_true b2]
    have z1 : (⟨#[32]⟩ : ByteArray) = toB [32] := rfl
    have z2 : (⟨#[10]⟩ : ByteArray) = toB [10] := rfl
    have z3 : (itoaS xs[k].n ++ toB [32]) ++ xs[k].s = toB (Lib.itoa xs[k].n ++ [32] ++ xs[k].s.data.toList) := by
      rw [itoaS_eq, toB_app]
      conv => lhs; rhs; rw [← toB_of xs[k].s]
      rw [toB_app]
    have z4 : toB (Lib.itoa xs[k].n ++ [32] ++ xs[k].s.data.toList) ++ toB [10] = toB (lineB xs[k]) := by rw [toB_app]; rfl
    have hsl : xs[k].s.data.toList.length = xs[k].s.size := by simp
    have s1 : (itoaS xs[k].n).size + (toB [32]).size ≤ 9223372036854775807 := by rw [itoaS_eq, toB_size, toB_size]; simp; omega
    have s2 : (itoaS xs[k].n ++ toB [32]).size + xs[k].s.size ≤ 9223372036854775807 := by rw [itoaS_eq, toB_app, toB_size]; simp; omega
    have s3 : (toB (Lib.itoa xs[k].n ++ [32] ++ xs[k].s.data.toList)).size + (toB [10]).size ≤ 9223372036854775807 := by rw [toB_size, toB_size]; simp; omega
    have s4 : (toB acc).size + (toB (lineB xs[k])).size ≤ 9223372036854775807 := by rw [toB_size, toB_size]; omega
    simp only [z1, z2, decide_eq_true s1, decide_eq_true s2, cond_true, z3, decide_eq_true s3, z4, decide_eq_true s4, toB_app]
    rw [loop13 N xs hs hok d m (k + 1) (acc ++ lineB xs[k]) (by omega) (by omega) (by simp only [List.length_append]; omega), drop_cons hkx]
    simp only [fmtB, List.append_assoc]
theorem run13 (xs : List Mng) (hs : xs.length < 4611686018427387904) (hss : ∀ m ∈ xs, m.s.size < 4611686018427387904) : runPV E2 (xs.length + 1) 10 13 [.sl 2 (xs.map encM)] = some [S (fmt xs)] := by
  rw [e13]
  have c1 : (xs.map encM).all smallS = true := by
    rw [List.all_map, List.all_eq_true]
    intro m hm
    simpa [smallS, cellAt, cellsOf, encM, getS] using hss m hm
  have c2 : small (xs.map encM) = true := by simpa [small] using hs
  rw [okM_map, c1, c2, decM_all]
  simp only [Bool.and_self, cond_true]
  unfold fmt
  cases hv : validBook xs with
  | false => rfl
  | true =>
    simp only [Bool.not_true, cond_false, if_true]
    have hv2 := hv
    simp only [validBook, Bool.and_eq_true, decide_eq_true_eq] at hv2
    have := loop13 (xs.length + 1) xs hv2.2 (valid_mem xs none hv2.1) xs.length (xs.length + 1) 0 [] (by omega) (by omega) (by simp; omega)
    rw [show (⟨(List.toArray [])⟩ : ByteArray) = toB [] from rfl]
    simpa using this
theorem loop12 (N : Nat) (xs : List Mng) (hs : xs.length ≤ 200) (hok : ∀ m ∈ xs, mngOk m = true) : ∀ (d m k : Nat) (acc : List UInt8), k + d = xs.length → d < m → acc.length + 83 * d ≤ 20000 →
    L12_0 N m (xs.map encM) (k : Int) acc.length (acc.map fun b => PV.lit (.int .u8 (b.toNat : Int))) = some [S (toB (acc ++ fmtB (xs.drop k)))]
  | d, 0, k, _, _, h, _ => by omega
  | 0, m + 1, k, acc, hk, _, hacc => by
    rw [l12_0]
    simp only [ltI_eq, leI_eq]
    have h1 : ¬ ((k : Int) < ((xs.length : Nat) : Int)) := by omega
    have ht : (acc.map fun b => PV.lit (.int .u8 (b.toNat : Int))).take acc.length = acc.map fun b => PV.lit (.int .u8 (b.toNat : Int)) := List.take_of_length_le (by simp)
    have h63 : acc.length ≤ 9223372036854775807 := by omega
    simp only [List.length_map, decide_eq_false h1, cond_false, ht, okU8_bytes, toBA_bytes, decide_eq_true h63, Bool.and_self, cond_true]
    rw [List.drop_eq_nil_of_le (by omega)]
    simp [fmtB]
  | d + 1, m + 1, k, acc, hk, hm, hacc => by
    rw [l12_0]
    simp only [ltI_eq, leI_eq]
    have hkx : k < xs.length := by omega
    have h1 : (k : Int) < ((xs.length : Nat) : Int) := by omega
    have h0 : (0 : Int) ≤ (k : Int) := by omega
    have hw : IntKind.wrap .i64 ((k : Int) + 1) = ((k + 1 : Nat) : Int) := by rw [wrapI (by omega) (by omega)]; omega
    have hx : okCs ([CK.int IntKind.i64] ++ ([CK.str] ++ [])) (encM xs[k]) 0 = true := rfl
    have g0 : getI (cellAt (encM xs[k]) 0) = xs[k].n := rfl
    have g1 : getS (cellAt (encM xs[k]) (0 + 1)) = xs[k].s := rfl
    have hmk := hok _ (List.getElem_mem hkx)
    obtain ⟨_, m1, m2, m3, m4⟩ := mngOk_facts hmk
    have hil := itoa_len m1 m2
    have hll := line_len hmk
    have b1 : -9223372036854775808 ≤ xs[k].n := by omega
    have b2 : xs[k].n ≤ 9223372036854775807 := by omega
    simp only [List.length_map, decide_eq_true h1, decide_eq_true h0, Bool.true_and, cond_true, Int.toNat_natCast, nth_map encM xs k hkx, hw, hx, g0, g1, decide_eq_true b1, decide_eq_true b2]
    have z1 : (⟨#[32]⟩ : ByteArray) = toB [32] := rfl
    have z2 : (⟨#[10]⟩ : ByteArray) = toB [10] := rfl
    have z3 : (itoaS xs[k].n ++ toB [32]) ++ xs[k].s = toB (Lib.itoa xs[k].n ++ [32] ++ xs[k].s.data.toList) := by
      rw [itoaS_eq, toB_app]
      conv => lhs; rhs; rw [← toB_of xs[k].s]
      rw [toB_app]
    have z4 : toB (Lib.itoa xs[k].n ++ [32] ++ xs[k].s.data.toList) ++ toB [10] = toB (lineB xs[k]) := by rw [toB_app]; rfl
    have hsl : xs[k].s.data.toList.length = xs[k].s.size := by simp
    have s1 : (itoaS xs[k].n).size + (toB [32]).size ≤ 9223372036854775807 := by rw [itoaS_eq, toB_size, toB_size]; simp; omega
    have s2 : (itoaS xs[k].n ++ toB [32]).size + xs[k].s.size ≤ 9223372036854775807 := by rw [itoaS_eq, toB_app, toB_size]; simp; omega
    have s3 : (toB (Lib.itoa xs[k].n ++ [32] ++ xs[k].s.data.toList)).size + (toB [10]).size ≤ 9223372036854775807 := by rw [toB_size, toB_size]; simp; omega
    have ht : (acc.map fun b => PV.lit (.int .u8 (b.toNat : Int))).take acc.length = acc.map fun b => PV.lit (.int .u8 (b.toNat : Int)) := List.take_of_length_le (by simp)
    have s4 : acc.length + (lineB xs[k]).length < 2147483648 := by omega
    simp only [z1, z2, decide_eq_true s1, decide_eq_true s2, cond_true, z3, decide_eq_true s3, z4, bytesPV_toB, ht, List.length_map, decide_eq_true s4, ← List.map_append]
    have := loop12 N xs hs hok d m (k + 1) (acc ++ lineB xs[k]) (by omega) (by omega) (by simp only [List.length_append]; omega)
    rw [this, drop_cons hkx]
    simp only [fmtB, List.append_assoc]
theorem run12 (xs : List Mng) (hs : xs.length < 4611686018427387904) : runPV E2 (xs.length + 1) 10 12 [.sl 2 (xs.map encM)] = some [S (fmt xs)] := by
  rw [e12]
  have c2 : small (xs.map encM) = true := by simpa [small] using hs
  rw [okM_map, c2, decM_all]
  simp only [Bool.and_self, cond_true]
  unfold fmt
  cases hv : validBook xs with
  | false => rfl
  | true =>
    simp only [Bool.not_true, cond_false, if_true]
    have hv2 := hv
    simp only [validBook, Bool.and_eq_true, decide_eq_true_eq] at hv2
    have := loop12 (xs.length + 1) xs hv2.2 (valid_mem xs none hv2.1) xs.length (xs.length + 1) 0 [] (by omega) (by omega) (by simp; omega)
    simpa using this
theorem e2_ok : EnvOK E2 := env_ok pk2_ok
theorem smallS_of {l : List PV} (h : l.all smallS = true) : ∀ m ∈ l.map decM, m.s.size < 4611686018427387904 := fun m hm => by
  obtain ⟨x, hx, rfl⟩ := List.mem_map.1 hm
  exact of_decide_eq_true (List.all_eq_true.1 h x hx)
theorem pk3_ok : PksOK Tryd.prog T sigT pk3 := by
  refine ((pk2_ok.cons (g := 13) (q := h13) ?_).cons (g := 12) (q := h12) ?_)
  · intro m hm
    cases hm
    refine pk_of_run e2_ok (by kernel_rfl) fun xs K r h => ?_
    unfold h13 at h
    split at h
    · rename_i l
      rcases cond_some h with ⟨hc, h⟩ | ⟨_, h⟩
      · simp only [Bool.and_eq_true, small, decide_eq_true_eq] at hc
        have := run13 (l.map decM) (by simpa using hc.1.2) (smallS_of hc.2)
        rw [encM_all hc.1.1] at this
        exact ⟨_, _, _, h, this⟩
      · cases h
    · cases h
  · intro m hm
    cases hm
    refine pk_of_run e2_ok (by kernel_rfl) fun xs K r h => ?_
    unfold h12 at h
    split at h
    · rename_i l
      rcases cond_some h with ⟨hc, h⟩ | ⟨_, h⟩
      · simp only [Bool.and_eq_true, small, decide_eq_true_eq] at hc
        have := run12 (l.map decM) (by simpa using hc.2)
        rw [encM_all hc.1] at this
        exact ⟨_, _, _, h, this⟩
      · cases h
    · cases h
end Go.Proofs.YtalfnpdgajfkiaaDoor.Ax
