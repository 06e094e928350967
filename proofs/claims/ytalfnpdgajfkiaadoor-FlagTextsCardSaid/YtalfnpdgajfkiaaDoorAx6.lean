/- 'Ax', part 6: operations one by one, second half: scalars, comparisons. -/
import Derived.Test.YtalfnpdgajfkiaaDoorAx5
set_option linter.unusedVariables false
set_option linter.unusedSimpArgs false
namespace Go.Proofs.YtalfnpdgajfkiaaDoor.Ax
open Go

theorem VR.litEq {σ : Sg} {w : World} {v u : Value} (h : VR σ w (.p (.lit v)) u) : u = v := by
  cases h with | p _ _ h => cases h; rfl
theorem binI_ok {P : Program} {op : BinOp} {k : IntKind} {a b : Int} {v : Value} (h : binI op k a b = some v) (t : TypeId) (w : World) : (Go.binOp op t (.int k a) (.int k b)).run P w = .ok v w := by
  cases op <;> simp only [binI, ltI_eq, leI_eq, Option.some.injEq, reduceCtorEq] at h <;> first
    | (subst h; simp [Go.binOp, Op.intArith, Op.intBits, Op.intCmp]; done)
    | (split at h
       · cases h
       · rename_i hb; cases h; simp [Go.binOp, Op.intDiv, hb])
theorem shiftI_ok {P : Program} {op : BinOp} {k k' : IntKind} {a b : Int} {v : Value} (h : shiftI op k a b = some v) (t : TypeId) (w : World) : (Go.binOp op t (.int k a) (.int k' b)).run P w = .ok v w := by
  unfold shiftI at h
  split at h
  · cases h
  · rename_i hb
    split at h <;> first | (cases h; simp [Go.binOp, Op.shift, hb]; done) | cases h
theorem binStr_ok {P : Program} {op : BinOp} {a b : ByteArray} {v : Value} (h : binStr op a b = some v) (t : TypeId) (w : World) : (Go.binOp op t (.string a) (.string b)).run P w = .ok v w := by
  unfold binStr at h
  split at h
  · split at h
    · cases h
    · rename_i hb
      cases h
      have : ¬ ((a.size + b.size : Nat) : Int) > IntKind.i64.max := by
        rw [show IntKind.i64.max = 9223372036854775807 from rfl]; exact hb
      simp only [Go.binOp, Op.stringOp]
      rw [if_neg this]; rfl
  · cases h; simp [Go.binOp, Op.stringOp]
  · cases h; simp [Go.binOp, Op.stringOp]
  · cases h
theorem run_eqGuard_not {P : Program} {op : BinOp} (h1 : op ≠ .eql) (h2 : op ≠ .neq) (t : TypeId) (x y : Operand) (a b : Value) (w : World) : (eqGuard op t x y a b).run P w = .ok () w := by
  cases op <;> first | rfl | exact absurd rfl h1 | exact absurd rfl h2

theorem partPV_ok {P : Program} {ok : Nat → Prop} {w : World} {t : TypeId} {l : List PV} {vs : List Value} {off : Nat} {x : PV} (hl : vs.length = l.length)
    (hv : ∀ (j : Nat) (c : PV) (v : Value), l[j]? = some c → vs[j]? = some v → Rd ok w c v) (h : partPV P t l off = some x) : ∃ v, (part t vs.toArray off).run P w = .ok v w ∧ Rd ok w x v := by
  simp only [partPV, Option.bind_eq_some_iff] at h
  obtain ⟨g, hg, h⟩ := h
  cases g with
  | true =>
    simp only [if_true, Option.bind_eq_some_iff] at h
    obtain ⟨n, hn, h⟩ := h
    cases h
    refine ⟨.agg ((vs.drop off).take n).toArray, by simp [part, run_agg hg, run_size hn, List.extract_eq_take_drop], .agg _ _ (by simp [hl]) fun j c v hc hv' => ?_⟩
    rw [List.getElem?_take] at hc hv'
    split at hc
    · rename_i hj
      rw [if_pos hj] at hv'
      rw [List.getElem?_drop] at hc hv'
      exact hv _ _ _ hc hv'
    · cases hc
  | false =>
    simp only [Bool.false_eq_true, if_false] at h
    have hlt : off < vs.length := by rw [hl]; exact (List.getElem?_eq_some_iff.1 h).1
    exact ⟨vs[off], by simp [part, run_agg hg, List.getElem?_eq_getElem hlt], hv off x _ h (List.getElem?_eq_getElem hlt)⟩
theorem eqFields_ok {P : Program} {ok : Nat → Prop} {w : World} {f : TypeId → PV → PV → Option Bool} {d : Nat} (hf : ∀ (t : TypeId) (x y : PV) (b : Bool), f t x y = some b → ∀ vx vy : Value, Rd ok w x vx → Rd ok w y vy → (Op.equalIn d t vx vy).run P w = .ok b w)
    {xs ys : List PV} {us vs : List Value} (hx : us.length = xs.length) (hxv : ∀ (j : Nat) (c : PV) (v : Value), xs[j]? = some c → us[j]? = some v → Rd ok w c v)
    (hy : vs.length = ys.length) (hyv : ∀ (j : Nat) (c : PV) (v : Value), ys[j]? = some c → vs[j]? = some v → Rd ok w c v) :
    ∀ (fs : List Field) (b : Bool), eqFields f P fs xs ys = some b → (Op.eqFields d us.toArray vs.toArray fs).run P w = .ok b w := by
  intro fs
  induction fs with
  | nil => intro b h; simp only [eqFields, Option.some.injEq] at h; subst h; rfl
  | cons fd r ih =>
    intro b h
    simp only [eqFields] at h
    split at h
    · rename_i hn
      simp only [Option.bind_eq_some_iff, Option.map_eq_some_iff] at h
      obtain ⟨x, h1, y, h2, c, h3, d', h4, rfl⟩ := h
      obtain ⟨vx, g1, g2⟩ := partPV_ok hx hxv h1
      obtain ⟨vy, g3, g4⟩ := partPV_ok hy hyv h2
      have g5 := hf _ _ _ _ h3 vx vy g2 g4
      have g6 := ih d' h4
      simp only [Op.eqFields, if_pos hn, Sem.run_bind, g1, g3, g5, Result.andThen_ok]
      cases c with
      | true => simpa using g6
      | false => simp
    · rename_i hn
      simp only [Op.eqFields, if_neg hn]
      exact ih b h
theorem eqPV_ok {P : Program} {ok : Nat → Prop} {w : World} : ∀ (d m : Nat) (t : TypeId) (x y : PV) (b : Bool), eqPV P d t x y = some b → ∀ vx vy : Value, Rd ok w x vx → Rd ok w y vy → (Op.equalIn (d + m) t vx vy).run P w = .ok b w := by
  intro d
  induction d with
  | zero => intro m t x y b h; simp [eqPV] at h
  | succ d ih =>
    intro m t x y b h vx vy hx hy
    rw [show d + 1 + m = (d + m) + 1 by omega]
    unfold eqPV at h
    split at h
    · rename_i hu
      cases h; cases hx; cases hy
      simp [Op.equalIn, run_und hu]
    · rename_i hu
      split at h
      · rename_i hk; cases h; cases hx; cases hy
        simp [Op.equalIn, run_und hu, hk]
      · cases h
    · rename_i hu
      cases h; cases hx; cases hy
      simp [Op.equalIn, run_und hu]
    · rename_i fs xs ys hu
      split at h
      · cases h
      · rename_i hp
        cases hx with
        | agg _ us hl hv =>
          cases hy with
          | agg _ vs hl' hv' =>
            have this : P.fieldsOf t = fs := by unfold Program.fieldsOf; rw [hu]
            rw [run_equalIn_struct w (d + m) t _ _ (by rw [this]; exact hu) (by simpa using hp), this]
            exact eqFields_ok (fun t x y b h vx vy => ih m t x y b h vx vy) hl hv hl' hv' fs.toList b h
    · cases h
theorem equal_succ (t : TypeId) (x y : Value) : Op.equal t x y = Op.equalIn (9999 + 1) t x y := rfl
theorem isBoolT_some {P : Program} {t : TypeId} (h : isBoolT P t = true) : P.underlying t = some .bool := by
  unfold isBoolT at h
  split at h
  · rename_i hu; exact hu
  · cases h
theorem isNilSl_ok {σ : Sg} {w : World} {x : AV} {v : Value} {b : Bool} (hx : VR σ w x v) (h : isNilSl x = some b) : ∃ (a : Option Addr) (n c : Nat), v = .slice a n c ∧ b = a.isNone := by
  unfold isNilSl at h
  split at h
  · cases h; rw [hx.litEq]; exact ⟨_, _, _, rfl, rfl⟩
  · cases h
    cases hx with | p _ _ hx => cases hx; exact ⟨_, _, _, rfl, rfl⟩
  · cases h
    cases hx; exact ⟨_, _, _, rfl, rfl⟩
  · cases h
theorem isNilE_ok {σ : Sg} {w : World} {x : AV} {v : Value} {b : Bool} (hx : VR σ w x v) (h : isNilE x = some b) : (v = .nilIface ∧ b = true) ∨ ((∃ t u, v = .iface t u) ∧ b = false) := by
  unfold isNilE at h
  split at h
  · cases h; rw [hx.litEq]; exact .inl ⟨rfl, rfl⟩
  · cases h; rw [hx.litEq]; exact .inr ⟨⟨_, _, rfl⟩, rfl⟩
  · cases h; cases hx with | p _ _ hx => cases hx; exact .inr ⟨⟨_, _, rfl⟩, rfl⟩
  · cases h; cases hx; exact .inr ⟨⟨_, _, rfl⟩, rfl⟩
  · cases h
theorem eqNil_ok {P : Program} {σ : Sg} {w : World} {t : TypeId} {x y : AV} {vx vy : Value} {b : Bool} (hx : VR σ w x vx) (hy : VR σ w y vy) (h : eqNil P t x y = some b) (op : BinOp) (ox oy : Operand) (hc : (isConst ox || isConst oy) = true) :
    (eqGuard op t ox oy vx vy).run P w = .ok () w ∧ (Op.equal t vx vy).run P w = .ok b w := by
  have guardS : ∀ (a a' : Option Addr) (n c n' c' : Nat), (eqGuard op t ox oy (.slice a n c) (.slice a' n' c')).run P w = .ok () w := by
    intro a a' n c n' c'
    cases op <;> rfl
  unfold eqNil at h
  split at h
  · rename_i e n c hu
    obtain ⟨a, n', c', rfl, rfl⟩ := isNilSl_ok hy h
    rw [hx.litEq]
    exact ⟨guardS _ _ _ _ _ _, by rw [equal_succ]; generalize 9999 = d; simp [Op.equalIn, run_und hu]⟩
  · rename_i e x n c hu _
    obtain ⟨a, n', c', rfl, rfl⟩ := isNilSl_ok hx h
    rw [hy.litEq]
    refine ⟨guardS _ _ _ _ _ _, ?_⟩
    rw [equal_succ]; generalize 9999 = d
    cases a <;> simp [Op.equalIn, run_und hu]
  · rename_i ms x hu
    rw [hy.litEq]
    rcases isNilE_ok hx h with ⟨rfl, rfl⟩ | ⟨⟨t', u, rfl⟩, rfl⟩
    · refine ⟨?_, by rw [equal_succ]; generalize 9999 = d; simp [Op.equalIn, run_und hu]⟩
      cases op <;> first | rfl | (simp only [eqGuard]; cases ox <;> cases oy <;> first | rfl | (simp [isConst] at hc))
    · refine ⟨?_, by rw [equal_succ]; generalize 9999 = d; simp [Op.equalIn, run_und hu]⟩
      cases op <;> rfl
  · cases h
theorem run_guarded {P : Program} {w : World} {op : BinOp} {t : TypeId} {ox oy : Operand} {vx vy u : Value} (h1 : (eqGuard op t ox oy vx vy).run P w = .ok () w) (h2 : (Go.binOp op t vx vy).run P w = .ok u w) :
    (do eqGuard op t ox oy vx vy; Go.binOp op t vx vy : Sem Value).run P w = .ok u w := by
  rw [Sem.run_bind, h1]; exact h2
theorem binOp_eql {P : Program} {w : World} {t : TypeId} {vx vy : Value} {b : Bool} (hne : (Go.binOp .eql t vx vy = do pure (.bool (← Op.equal t vx vy)))) (h : (Op.equal t vx vy).run P w = .ok b w) : (Go.binOp .eql t vx vy).run P w = .ok (.bool b) w := by
  rw [hne, Sem.run_bind, h]; rfl
theorem binOp_neq {P : Program} {w : World} {t : TypeId} {vx vy : Value} {b : Bool} (hne : (Go.binOp .neq t vx vy = do pure (.bool (!(← Op.equal t vx vy))))) (h : (Op.equal t vx vy).run P w = .ok b w) : (Go.binOp .neq t vx vy).run P w = .ok (.bool !b) w := by
  rw [hne, Sem.run_bind, h]; rfl
theorem eqNil_shape {P : Program} {σ : Sg} {w : World} {t : TypeId} {x y : AV} {vx vy : Value} {b : Bool} (hx : VR σ w x vx) (hy : VR σ w y vy) (h : eqNil P t x y = some b) :
    (Go.binOp .eql t vx vy = do pure (.bool (← Op.equal t vx vy))) ∧ (Go.binOp .neq t vx vy = do pure (.bool (!(← Op.equal t vx vy)))) := by
  unfold eqNil at h
  split at h
  · rename_i e n c hu
    obtain ⟨a, n', c', rfl, rfl⟩ := isNilSl_ok hy h
    rw [hx.litEq]
    exact ⟨rfl, rfl⟩
  · rename_i e x n c hu _
    obtain ⟨a, n', c', rfl, rfl⟩ := isNilSl_ok hx h
    rw [hy.litEq]
    exact ⟨rfl, rfl⟩
  · rename_i ms x hu
    rw [hy.litEq]
    rcases isNilE_ok hx h with ⟨rfl, rfl⟩ | ⟨⟨t', u, rfl⟩, rfl⟩
    · exact ⟨rfl, rfl⟩
    · exact ⟨rfl, rfl⟩
  · cases h
theorem guard_agg {P : Program} {w : World} {op : BinOp} {t : TypeId} {ox oy : Operand} {xs ys : Array Value} (h : ¬ P.eqGuardType P.depth t = true) : (eqGuard op t ox oy (.agg xs) (.agg ys)).run P w = .ok () w := by
  have h : P.eqGuardType P.depth t = false := by simpa using h
  cases op <;> first | rfl | (simp [eqGuard, h])
theorem bin_ok {P : Program} {σ : Sg} {w : World} {op : BinOp} {t : TypeId} {ox oy : Operand} {x y z : AV} {vx vy : Value} (hx : VR σ w x vx) (hy : VR σ w y vy) (h : bin P op t ox oy x y = some z) :
    ∃ u, (do eqGuard op t ox oy vx vy; Go.binOp op t vx vy : Sem Value).run P w = .ok u w ∧ VR σ w z u := by
  unfold bin at h
  split at h
  · simp only [Option.map_eq_some_iff] at h
    obtain ⟨v, hv, rfl⟩ := h
    rw [hx.litEq, hy.litEq]
    exact ⟨v, run_guarded rfl (shiftI_ok hv t w), VR.lit _ _ _⟩
  · simp only [Option.map_eq_some_iff] at h
    obtain ⟨v, hv, rfl⟩ := h
    rw [hx.litEq, hy.litEq]
    exact ⟨v, run_guarded rfl (shiftI_ok hv t w), VR.lit _ _ _⟩
  · split at h
    · rename_i hk
      subst hk
      simp only [Option.map_eq_some_iff] at h
      obtain ⟨v, hv, rfl⟩ := h
      rw [hx.litEq, hy.litEq]
      exact ⟨v, run_guarded (by cases op <;> rfl) (binI_ok hv t w), VR.lit _ _ _⟩
    · cases h
  · simp only [Option.map_eq_some_iff] at h
    obtain ⟨v, hv, rfl⟩ := h
    rw [hx.litEq, hy.litEq]
    exact ⟨v, run_guarded (by cases op <;> rfl) (binStr_ok hv t w), VR.lit _ _ _⟩
  · split at h
    · rename_i hb
      cases h
      rw [hx.litEq, hy.litEq]
      exact ⟨_, run_guarded rfl (binOp_eql rfl (run_equal_bool w t _ _ (isBoolT_some hb))), VR.lit _ _ _⟩
    · cases h
  · split at h
    · rename_i hb
      cases h
      rw [hx.litEq, hy.litEq]
      exact ⟨_, run_guarded rfl (binOp_neq rfl (run_equal_bool w t _ _ (isBoolT_some hb))), VR.lit _ _ _⟩
    · cases h
  · split at h
    · cases h
    · rename_i hg
      simp only [Option.map_eq_some_iff] at h
      obtain ⟨b, hb, rfl⟩ := h
      cases hx with
      | p _ _ hx =>
        cases hy with
        | p _ _ hy =>
          have := eqPV_ok (w := w) 100 9900 t _ _ b hb _ _ hx hy
          cases hx
          cases hy
          exact ⟨_, run_guarded (guard_agg hg) (binOp_eql rfl this), VR.lit _ _ _⟩
  · split at h
    · cases h
    · rename_i hg
      simp only [Option.map_eq_some_iff] at h
      obtain ⟨b, hb, rfl⟩ := h
      cases hx with
      | p _ _ hx =>
        cases hy with
        | p _ _ hy =>
          have := eqPV_ok (w := w) 100 9900 t _ _ b hb _ _ hx hy
          cases hx
          cases hy
          exact ⟨_, run_guarded (guard_agg hg) (binOp_neq rfl this), VR.lit _ _ _⟩
  · split at h
    · rename_i hc
      simp only [Option.map_eq_some_iff] at h
      obtain ⟨b, hb, rfl⟩ := h
      obtain ⟨h1, h2⟩ := eqNil_ok hx hy hb .eql ox oy hc
      exact ⟨_, run_guarded h1 (binOp_eql (eqNil_shape hx hy hb).1 h2), VR.lit _ _ _⟩
    · cases h
  · split at h
    · rename_i hc
      simp only [Option.map_eq_some_iff] at h
      obtain ⟨b, hb, rfl⟩ := h
      obtain ⟨h1, h2⟩ := eqNil_ok hx hy hb .neq ox oy hc
      exact ⟨_, run_guarded h1 (binOp_neq (eqNil_shape hx hy hb).2 h2), VR.lit _ _ _⟩
    · cases h
  · cases h
theorem un_ok {P : Program} {σ : Sg} {w : World} {op : UnOp} {x z : AV} {v : Value} (hx : VR σ w x v) (h : un op x = some z) : ∃ u, (Op.unary op v).run P w = .ok u w ∧ VR σ w z u := by
  unfold un at h
  split at h
  · split at h
    · rename_i ho; subst ho; cases h; rw [hx.litEq]; exact ⟨_, rfl, VR.lit _ _ _⟩
    · cases h
  · split at h
    · rename_i ho; subst ho; cases h; rw [hx.litEq]; exact ⟨_, rfl, VR.lit _ _ _⟩
    · cases h
  · cases h
end Go.Proofs.YtalfnpdgajfkiaaDoor.Ax
