/- 'Ax', soft operations: where what must be so is so, they give what the operation gives. -/
import Derived.Test.YtalfnpdgajfkiaaDoorAx0
set_option linter.unusedVariables false
set_option linter.unusedSimpArgs false
namespace Go.Proofs.YtalfnpdgajfkiaaDoor.Ax
open Go

theorem okC_canon {c : CK} {x : PV} (h : okC c x = true) : canon c x = x := by
  unfold okC at h
  split at h
  · have := of_decide_eq_true h; subst this; rfl
  · rfl
  · rfl
  · have := of_decide_eq_true h; subst this; rfl
  · cases h
theorem okC_undef (c : CK) : okC c (.lit undef) = false := by cases c <;> rfl
theorem cellAt_some {c : CK} {e : PV} {j : Nat} (h : okC c (cellAt e j) = true) : (cellsOf e)[j]? = some (cellAt e j) := by
  unfold cellAt at h ⊢
  rw [List.getD_eq_getElem?_getD] at h ⊢
  cases hg : (cellsOf e)[j]? with
  | some x => simp
  | none => rw [hg] at h; simp only [Option.getD_none, okC_undef] at h; cases h
theorem okCs_cons (c : CK) (r : List CK) (e : PV) (j : Nat) : okCs (c :: r) e j = (okC c (cellAt e j) && okCs r e (j + 1)) := by
  cases r <;> simp [okCs]
theorem okCs_canons : ∀ (cs : List CK) (e : PV) (j : Nat), okCs cs e j = true → ((cellsOf e).drop j).take cs.length = canons cs e j ∧ (0 < cs.length → j + cs.length ≤ (cellsOf e).length)
  | [], e, j, h => ⟨by simp [canons], fun h => by simp at h⟩
  | c :: r, e, j, h => by
    rw [okCs_cons, Bool.and_eq_true] at h
    obtain ⟨h1, h2⟩ := h
    obtain ⟨i1, i2⟩ := okCs_canons r e (j + 1) h2
    have hg := cellAt_some h1
    have hlt : j < (cellsOf e).length := (List.getElem?_eq_some_iff.1 hg).1
    refine ⟨?_, fun _ => ?_⟩
    · rw [List.drop_eq_getElem_cons hlt, List.length_cons, List.take_succ_cons, i1]
      simp only [canons, okC_canon h1]
      rw [List.getElem?_eq_getElem hlt] at hg
      rw [Option.some.inj hg]
    · by_cases hr : 0 < r.length
      · have := i2 hr; simp only [List.length_cons]; omega
      · simp only [List.length_cons]; omega
theorem cellAt_undef (j : Nat) : cellAt (.lit undef) j = .lit undef := by
  cases j with
  | zero => rfl
  | succ j => simp [cellAt, cellsOf, List.getD_eq_getElem?_getD]
theorem loadS_ok {P : Program} {t : TypeId} {e : PV} {j : Nat} {y : Bool × PV} (h : loadS P t e j = some y) (hc : y.1 = true) : loadPV P t e j = some y.2 ∧ e ≠ .lit undef := by
  simp only [loadS, Option.bind_eq_some_iff] at h
  obtain ⟨g, hg, h⟩ := h
  unfold loadPV
  simp only [hg, Option.bind_some]
  cases g with
  | true =>
    simp only [if_true, Option.bind_eq_some_iff] at h ⊢
    obtain ⟨n, hn, cs, hcs, h⟩ := h
    split at h
    · rename_i hl
      cases h
      obtain ⟨h1, h2⟩ := okCs_canons cs e j hc
      refine ⟨⟨n, hn, ?_⟩, fun he => ?_⟩
      · rw [if_pos (by rw [← hl.1]; exact h2 (by omega)), ← hl.1, h1]
      · match cs, hl with
        | c :: r, _ =>
          simp only [okCs_cons, he, cellAt_undef, okC_undef, Bool.false_and] at hc
          cases hc
        | [], hl => simp at hl; omega
    · cases h
  | false =>
    simp only [Bool.false_eq_true, if_false, Option.map_eq_some_iff] at h ⊢
    obtain ⟨c, hc2, rfl⟩ := h
    refine ⟨?_, fun he => ?_⟩
    · rw [cellAt_some hc, okC_canon hc]
    · simp only [he, cellAt_undef, okC_undef] at hc; cases hc
theorem nthP_some {l : List PV} {i : Nat} (h : nthP l i ≠ .lit undef) : l[i]? = some (nthP l i) := by
  unfold nthP at h ⊢
  rw [List.getD_eq_getElem?_getD] at h ⊢
  cases hg : l[i]? with
  | some x => simp
  | none => rw [hg] at h; simp at h
theorem val2_some {x : Option (Bool × AV)} {y : Bool × AV × HP × List Nat} (h : val2 x = some y) : ∃ c a, x = some (c, a) ∧ y = (c, a, [], []) := by
  simp only [val2, Option.map_eq_some_iff] at h
  obtain ⟨⟨c, a⟩, h1, h2⟩ := h
  exact ⟨c, a, h1, h2.symm⟩
theorem boundS_ok {tm : TM} {d y : Nat} {o : Option Operand} {z : Bool × Nat} (h : boundS tm d y o = some z) (hc : z.1 = true) : bound tm d y o = some z.2 := by
  unfold boundS at h
  unfold bound
  split at h
  · cases h; rfl
  · simp only [Option.map_eq_some_iff] at h
    obtain ⟨i, hi, rfl⟩ := h
    simp only [Bool.and_eq_true, ltI_eq, leI_eq, decide_eq_true_eq] at hc
    simp only [hi, Option.bind_some, if_pos hc]
theorem sliceS_ok {P : Program} {tm : TM} {t : TypeId} {x : AV} {lo hi mx : Option Operand} {y : Bool × AV} (h : sliceS P tm t x lo hi mx = some y) (hc : y.1 = true) : slice P tm t x lo hi mx = some y.2 := by
  unfold sliceS at h
  unfold slice
  split at h
  · cases h
  · rename_i hmx
    rw [if_neg hmx]
    split at h
    · rename_i s hu
      split at h
      · cases h
      · rename_i hm
        simp only [Option.bind_eq_some_iff, Option.map_eq_some_iff] at h
        obtain ⟨a, ha, b, hb, rfl⟩ := h
        simp only [Bool.and_eq_true] at hc
        simp only [hu, if_neg hm, boundS_ok ha hc.1, Option.bind_some, boundS_ok hb hc.2, Option.map_some]
    · rename_i e sz l hu
      simp only [Option.bind_eq_some_iff] at h
      obtain ⟨n, hn, h⟩ := h
      split at h
      · cases h
      · rename_i hz
        split at h
        · simp only [Option.bind_eq_some_iff, Option.map_eq_some_iff] at h
          obtain ⟨a, ha, b, hb, rfl⟩ := h
          simp only [Bool.and_eq_true] at hc
          simp only [hu, hn, if_neg hz, boundS_ok ha hc.1, Option.bind_some, boundS_ok hb hc.2, Option.map_some]
        · cases h
    · rename_i e b sz i n full hu
      simp only [Option.bind_eq_some_iff] at h
      obtain ⟨m, hm, h⟩ := h
      split at h
      · cases h
      · rename_i hz
        split at h
        · split at h
          · cases h
          · rename_i hf
            simp only [Option.bind_eq_some_iff, Option.map_eq_some_iff] at h
            obtain ⟨a, ha, b, hb, rfl⟩ := h
            simp only [Bool.and_eq_true] at hc
            simp only [hu, hm, if_neg hz, if_neg hf, boundS_ok ha hc.1, Option.bind_some, boundS_ok hb hc.2, Option.map_some]
        · simp only [Option.bind_eq_some_iff, Option.map_eq_some_iff] at h
          obtain ⟨q, hq, a, ha, b, hb, rfl⟩ := h
          simp only [Bool.and_eq_true, ltI_eq, leI_eq, decide_eq_true_eq] at hc
          simp only [hu, hm, if_neg hz, boundS_ok hq hc.1.1.1, boundS_ok ha hc.1.1.2, Option.bind_some, boundS_ok hb hc.1.2, Option.map_some, if_pos hc.2]
    · cases h
theorem binS_ok {P : Program} {op : BinOp} {t : TypeId} {ox oy : Operand} {a b : AV} {y : Bool × AV} (h : binS op a b = some y) (hc : y.1 = true) : bin P op t ox oy a b = some y.2 := by
  unfold binS at h
  split at h
  · cases h
    simp only [ltI_eq, leI_eq, decide_eq_true_eq] at hc
    simp only [bin, binStr]
    rw [if_neg (by omega)]; rfl
  · split at h
    · rename_i hk
      cases h
      simp only [Bool.not_eq_true', decide_eq_false_iff_not] at hc
      simp only [bin, binI, if_pos hk, if_neg hc, Option.map_some]
    · cases h
  · split at h
    · rename_i hk
      cases h
      simp only [Bool.not_eq_true', decide_eq_false_iff_not] at hc
      simp only [bin, binI, if_pos hk, if_neg hc, Option.map_some]
    · cases h
  · cases h
    simp only [ltI_eq, leI_eq, decide_eq_true_eq] at hc
    simp only [bin, shiftI]
    rw [if_neg (by omega)]; rfl
  · cases h
    simp only [ltI_eq, leI_eq, decide_eq_true_eq] at hc
    simp only [bin, shiftI]
    rw [if_neg (by omega)]; rfl
  · cases h
theorem indexAddrS_ok {P : Program} {t : TypeId} {x ix : AV} {y : Bool × AV} (h : indexAddrS P t x ix = some y) (hc : y.1 = true) : indexAddr P t x ix = some y.2 := by
  simp only [indexAddrS, Option.bind_eq_some_iff] at h
  obtain ⟨e, he, n, hn, i, hi, h⟩ := h
  simp only [indexAddr, he, hn, hi, Option.bind_some]
  split at h
  · split at h
    · rename_i hz
      cases h
      simp only [Bool.and_eq_true, ltI_eq, leI_eq, decide_eq_true_eq] at hc
      rw [if_pos ⟨hz.1, hz.2, hc.1, hc.2⟩]
    · cases h
  · split at h
    · rename_i hz
      cases h
      simp only [Bool.and_eq_true, ltI_eq, leI_eq, decide_eq_true_eq] at hc
      rw [if_pos ⟨hz.1, hz.2, hc.1, hc.2⟩]
    · cases h
  · cases h
theorem indexS_ok {P : Program} {t : TypeId} {x ix : AV} {y : Bool × AV} (h : indexS P t x ix = some y) (hc : y.1 = true) : index P t x ix = some y.2 := by
  simp only [indexS, Option.bind_eq_some_iff] at h
  obtain ⟨i, hi, h⟩ := h
  simp only [index, hi, Option.bind_some]
  split at h
  · rename_i s hu
    cases h
    simp only [Bool.and_eq_true, ltI_eq, leI_eq, decide_eq_true_eq] at hc
    have hlt : i.2.toNat < s.data.size := hc.2
    have hg : s[i.2.toNat]? = some (s.data.getD i.2.toNat 0) := by
      have h1 : s[i.2.toNat]? = some s[i.2.toNat] := getElem?_pos s i.2.toNat hc.2
      rw [h1]
      congr 1
      rw [Array.getD_eq_getD_getElem?, Array.getElem?_eq_getElem hlt]
      rfl
    simp only [hu, if_pos hc.1, hg, Option.map_some]
  · cases h
theorem makeSliceS_ok {P : Program} {id : Nat} {t : TypeId} {len cap : AV} {y : Bool × AV × HP} (h : makeSliceS P id t len cap = some y) (hc : y.1 = true) : makeSlice P id t len cap = some y.2 := by
  simp only [makeSliceS, Option.bind_eq_some_iff] at h
  obtain ⟨e, he, n, hn, z, hz, by_, hby, l, hl, c, hcp, h⟩ := h
  simp only [makeSlice, he, hn, hz, hby, hl, hcp, Option.bind_some]
  split at h
  · rename_i hq
    cases h
    simp only [Bool.and_eq_true, ltI_eq, leI_eq, decide_eq_true_eq] at hc
    rw [if_pos ⟨hq.1, hc.1.1, hc.1.2, hc.2, hq.2.1, hq.2.2.1, hq.2.2.2⟩]
  · cases h
theorem soft_ok {E : Env} {cl : FuncId → List PV → R} {tm : TM} {hp : HP} {id : Nat} {o : Oper} {y : Bool × AV × HP × List Nat} (h : soft E tm hp id o = some y) (hc : y.1 = true) : opA E cl tm hp id o = some y.2 := by
  unfold soft at h
  unfold opA
  split at h
  · rename_i t a ho
    simp only [ho]
    simp only [Option.bind_eq_some_iff] at h
    obtain ⟨av, ha, h⟩ := h
    rw [ha]
    split at h
    · split at h
      · rename_i hl
        obtain ⟨c, x, hx, rfl⟩ := val2_some h
        simp only [Option.map_eq_some_iff] at hx
        obtain ⟨z, hz, he⟩ := hx
        cases he
        obtain ⟨h1, h2⟩ := loadS_ok hz hc
        simp only [Option.bind_some, load, hl, nthP_some h2, h1, Option.map_some, val]
      · cases h
    · obtain ⟨c, x, hx, rfl⟩ := val2_some h
      simp only [Option.map_eq_some_iff] at hx
      obtain ⟨z, hz, he⟩ := hx
      cases he
      obtain ⟨h1, h2⟩ := loadS_ok hz hc
      simp only [Option.bind_some, load, nthP_some h2, h1, Option.map_some, val]
    · cases h
  · rename_i t x i ho
    simp only [ho]
    obtain ⟨c, a, hx, rfl⟩ := val2_some h
    simp only [Option.bind_eq_some_iff] at hx
    obtain ⟨xv, h1, iv, h2, h3⟩ := hx
    simp only [h1, h2, Option.bind_some, indexAddrS_ok h3 hc, val, Option.map_some]
  · rename_i t x i ho
    simp only [ho]
    obtain ⟨c, a, hx, rfl⟩ := val2_some h
    simp only [Option.bind_eq_some_iff] at hx
    obtain ⟨xv, h1, iv, h2, h3⟩ := hx
    simp only [h1, h2, Option.bind_some, indexS_ok h3 hc, val, Option.map_some]
  · rename_i t x lo hi mx ho
    simp only [ho]
    obtain ⟨c, a, hx, rfl⟩ := val2_some h
    simp only [Option.bind_eq_some_iff] at hx
    obtain ⟨xv, h1, h3⟩ := hx
    simp only [h1, Option.bind_some, sliceS_ok h3 hc, val, Option.map_some]
  · rename_i op _ x z _ ho
    simp only [ho]
    obtain ⟨c, a, hx, rfl⟩ := val2_some h
    simp only [Option.bind_eq_some_iff] at hx
    obtain ⟨xv, h1, zv, h2, h3⟩ := hx
    simp only [h1, h2, Option.bind_some, binS_ok h3 hc, val, Option.map_some]
  · rename_i t l c ho
    simp only [ho]
    simp only [Option.bind_eq_some_iff, Option.map_eq_some_iff] at h
    obtain ⟨lv, h1, cv, h2, z, h3, rfl⟩ := h
    simp only [h1, h2, Option.bind_some, makeSliceS_ok h3 hc, Option.map_some]
  · cases h
theorem appendS_ok {P : Program} {hp : HP} {id : Nat} {t u : TypeId} {s x : AV} {y : Bool × AV × List Nat × HP} (h : appendS P hp id t u s x = some y) (hc : y.1 = true) : append P hp id t u s x = some y.2 := by
  simp only [appendS, Option.bind_eq_some_iff] at h
  obtain ⟨e, he, _, hu, n, hn, by_, hby, z, hz, new, hnew, h⟩ := h
  simp only [append, he, hu, hn, hby, hz, hnew, Option.bind_some]
  split at h
  · rename_i hq
    rw [if_pos hq]
    split at h
    · cases h
      simp only [ltI_eq, leI_eq, decide_eq_true_eq] at hc
      simp only [if_pos hc]
    · split at h
      · rename_i hl
        split at h
        · rename_i hs
          obtain ⟨h1, h2, h3⟩ := hs
          subst h2; subst h3
          cases h
          simp only [ltI_eq, leI_eq, decide_eq_true_eq] at hc
          simp only [hl, if_pos (And.intro h1 hc), Bool.false_eq_true, if_false, if_true]
        · cases h
      · cases h
    · cases h
  · cases h
theorem storeS_ok {P : Program} {hp : HP} {t : TypeId} {a x : AV} {y : Bool × HP} (h : storeS P hp t a x = some y) (hc : y.1 = true) : store P hp t a x = some y.2 := by
  simp only [storeS, Option.bind_eq_some_iff] at h
  obtain ⟨n, hn, h⟩ := h
  simp only [store, hn, Option.bind_some]
  split at h
  · rename_i hq
    rw [if_pos hq]
    split at h
    · rename_i b sz' i j
      split at h
      · rename_i sz l hl
        simp only [Option.bind_eq_some_iff] at h
        obtain ⟨xs, hxs, h⟩ := h
        split at h
        · rename_i hz
          cases h
          simp only [Bool.and_eq_true, ltI_eq, leI_eq, decide_eq_true_eq] at hc
          have hg : l[i]? = some (nthP l i) := by
            unfold nthP; rw [List.getD_eq_getElem?_getD, List.getElem?_eq_getElem hc.1]; rfl
          simp only [hl, hxs, Option.bind_some, hg, if_pos (And.intro hz hc.2)]
        · cases h
      · cases h
    · cases h
  · cases h
theorem softW_ok {E : Env} {fb : Nat} {o : Oper} {st : St} {y : Bool × St} (h : softW E fb o st = some y) (hc : y.1 = true) : opW E fb o st = some y.2 := by
  unfold softW at h
  split at h
  · rename_i t a x ho
    simp only [Option.bind_eq_some_iff, Option.map_eq_some_iff] at h
    obtain ⟨av, ha, xv, hx, z, hz, rfl⟩ := h
    unfold opW
    simp only [ho, ha, hx, Option.bind_some, storeS_ok hz hc, Option.map_some]
  · rename_i _ as ts ho
    simp only [Option.bind_eq_some_iff] at h
    obtain ⟨l, hl, h⟩ := h
    unfold opW
    simp only [ho, hl, Option.bind_some]
    split at h
    · rename_i s x t u h0 h1
      simp only [Option.bind_eq_some_iff, Option.map_eq_some_iff] at h
      obtain ⟨q, hq, z, hz, st', hst, rfl⟩ := h
      simp only [h0, h1, hq, appendS_ok hz hc, Option.bind_some, hst]
    · cases h
  · cases h
end Go.Proofs.YtalfnpdgajfkiaaDoor.Ax
