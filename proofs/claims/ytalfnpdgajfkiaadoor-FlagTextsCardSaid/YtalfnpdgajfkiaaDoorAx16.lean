/- 'Ax', part 16: an operation that writes nothing looks at its operands' slots and at blocks that it finds: more slots and blocks change nothing. -/
import Derived.Test.YtalfnpdgajfkiaaDoorAx15
set_option linter.unusedVariables false
set_option linter.unusedSimpArgs false
namespace Go.Proofs.YtalfnpdgajfkiaaDoor.Ax
open Go

def HLe (hp hp' : HP) : Prop := ∀ (b : Nat) (x : Blk), look hp b = some x → look hp' b = some x
mutual
theorem pureAV_mono {hp hp' : HP} (hh : HLe hp hp') : ∀ (a : AV) (x : PV), pureAV hp a = some x → pureAV hp' a = some x
  | .p y, x, h => h
  | .sl b sz i n full, x, h => by
    simp only [pureAV] at h ⊢
    split at h
    · rename_i s l hl; rw [hh _ _ hl]; exact h
    · cases h
  | .agg l, x, h => by
    simp only [pureAV, Option.map_eq_some_iff] at h ⊢
    obtain ⟨ps, h1, h2⟩ := h
    exact ⟨ps, pureAVs_mono hh l ps h1, h2⟩
  | .fn f [], x, h => h
  | .ptr .., _, h | .eptr .., _, h | .fn _ (_ :: _), _, h | .tup .., _, h | .iface .., _, h | .son .., _, h | .tsl .., _, h | .dead, _, h => by simp [pureAV] at h
theorem pureAVs_mono {hp hp' : HP} (hh : HLe hp hp') : ∀ (l : List AV) (xs : List PV), pureAVs hp l = some xs → pureAVs hp' l = some xs
  | [], xs, h => h
  | a :: r, xs, h => by
    simp only [pureAVs, Option.bind_eq_some_iff, Option.map_eq_some_iff] at h ⊢
    obtain ⟨x, hx, t, ht, h2⟩ := h
    exact ⟨x, pureAV_mono hh a x hx, t, pureAVs_mono hh r t ht, h2⟩
end
theorem load_mono {P : Program} {hp hp' : HP} (hh : HLe hp hp') {t : TypeId} {a y : AV} (h : load P hp t a = some y) : load P hp' t a = some y := by
  unfold load at h ⊢
  split at h
  · split at h
    · rename_i hl; rw [hh _ _ hl]; exact h
    · rename_i hl; rw [hh _ _ hl]; exact h
    · cases h
  · exact h
  · cases h
theorem elems_mono {hp hp' : HP} (hh : HLe hp hp') {z : PV} {n : Nat} : ∀ (k : Nat) (ps : List (Nat × AV)) (l : List PV), elems hp z n k ps = some l → elems hp' z n k ps = some l
  | 0, [], l, h => h
  | 0, p :: r, l, h => by simp [elems] at h
  | k + 1, [], l, h => by
    simp only [elems, Option.map_eq_some_iff] at h ⊢
    obtain ⟨t, ht, h2⟩ := h
    exact ⟨t, elems_mono hh k [] t ht, h2⟩
  | k + 1, (i, x) :: r, l, h => by
    simp only [elems, Option.bind_eq_some_iff] at h ⊢
    obtain ⟨y, hy, h⟩ := h
    refine ⟨y, pureAV_mono hh x y hy, ?_⟩
    split at h
    · rename_i hc
      rw [if_pos hc]
      simp only [Option.map_eq_some_iff] at h ⊢
      obtain ⟨t, ht, h2⟩ := h
      exact ⟨t, elems_mono hh k r t ht, h2⟩
    · cases h
theorem buildSlice_mono {P : Program} {hp hp' : HP} (hh : HLe hp hp') {id : Nat} {t : TypeId} {n : Nat} {ps : List (Nat × AV)} {y : AV × HP × List Nat} (h : buildSlice P hp id t n ps = some y) : buildSlice P hp' id t n ps = some y := by
  simp only [buildSlice, Option.bind_eq_some_iff] at h ⊢
  obtain ⟨e, he, m, hm, z, hz, h⟩ := h
  refine ⟨e, he, m, hm, z, hz, ?_⟩
  split at h
  · rename_i hc
    rw [if_pos hc]
    simp only [Option.map_eq_some_iff] at h ⊢
    obtain ⟨t, ht, h2⟩ := h
    exact ⟨t, elems_mono hh _ _ _ ht, h2⟩
  · cases h
theorem callPV_mono {E : Env} {cl : FuncId → List PV → R} {hp hp' : HP} (hh : HLe hp hp') {id : Nat} {g : FuncId} {args : List AV} {y : AV × HP × List Nat} (h : callPV E cl hp id g args = some y) : callPV E cl hp' id g args = some y := by
  simp only [callPV, Option.bind_eq_some_iff] at h ⊢
  obtain ⟨m, hm, xs, hxs, h⟩ := h
  exact ⟨m, hm, xs, pureAVs_mono hh _ _ hxs, h⟩
theorem evs_congr {tm tm' : TM} : ∀ {l : List Operand}, (∀ x, x ∈ l → ev tm' x = ev tm x) → evs tm' l = evs tm l
  | [], _ => rfl
  | x :: r, h => by simp only [evs, h x (by simp), evs_congr (l := r) fun y hy => h y (by simp [hy])]
theorem evParts_congr {tm tm' : TM} : ∀ {l : List (Nat × Operand)}, (∀ x, x ∈ l.map (·.2) → ev tm' x = ev tm x) → evParts tm' l = evParts tm l
  | [], _ => rfl
  | (i, x) :: r, h => by simp only [evParts, h x (by simp), evParts_congr (l := r) fun y hy => h y (by simp at hy ⊢; exact .inr hy)]
theorem bound_congr {tm tm' : TM} {d y : Nat} {o : Option Operand} (h : ∀ x, o = some x → ev tm' x = ev tm x) : bound tm' d y o = bound tm d y o := by
  cases o with
  | none => rfl
  | some x => simp only [bound, h x rfl]
theorem slice_congr {P : Program} {tm tm' : TM} {t : TypeId} {x : AV} {lo hi mx : Option Operand} (h1 : ∀ x, lo = some x → ev tm' x = ev tm x) (h2 : ∀ x, hi = some x → ev tm' x = ev tm x) (h3 : ∀ x, mx = some x → ev tm' x = ev tm x) : slice P tm' t x lo hi mx = slice P tm t x lo hi mx := by
  unfold slice
  simp only [bound_congr h1, bound_congr h2, bound_congr h3]
theorem opA_congr {E : Env} {cl : FuncId → List PV → R} {tm tm' : TM} {hp hp' : HP} {id : Nat} {o : Oper} {y : AV × HP × List Nat} (h : opA E cl tm hp id o = some y) (hev : ∀ x, x ∈ o.op.operands.toList → ev tm' x = ev tm x) (hh : HLe hp hp') :
    opA E cl tm' hp' id o = some y := by
  obtain ⟨dst, op, type, pos, after, guard⟩ := o
  cases op with
  | move x => simpa only [opA, hev x (by simp [Op.operands])] using h
  | assign x => simpa only [opA, hev x (by simp [Op.operands])] using h
  | pick c a b => simpa only [opA, hev c (by simp [Op.operands]), hev a (by simp [Op.operands]), hev b (by simp [Op.operands])] using h
  | alloc t => exact h
  | box t x => simpa only [opA, hev x (by simp [Op.operands])] using h
  | build t ps => simpa only [opA, evParts_congr (tm := tm) (tm' := tm') (l := ps.toList) fun x hx => hev x (by simpa [Op.operands] using hx)] using h
  | buildSlice t n ps =>
    simp only [opA, evParts_congr (tm := tm) (tm' := tm') (l := ps.toList) fun x hx => hev x (by simpa [Op.operands] using hx)] at h ⊢
    simp only [Option.bind_eq_some_iff] at h ⊢
    obtain ⟨qs, h1, h2⟩ := h
    exact ⟨qs, h1, buildSlice_mono hh h2⟩
  | load t a =>
    simp only [opA, hev a (by simp [Op.operands])] at h ⊢
    obtain ⟨z, hz, rfl⟩ := val_some h
    simp only [Option.bind_eq_some_iff] at hz
    obtain ⟨av, h1, h2⟩ := hz
    simp only [h1, Option.bind_some, load_mono hh h2]; rfl
  | nilCheck x => simpa only [opA, hev x (by simp [Op.operands])] using h
  | binOp op t x z ty => simpa only [opA, hev x (by simp [Op.operands]), hev z (by simp [Op.operands])] using h
  | unOp op t x => simpa only [opA, hev x (by simp [Op.operands])] using h
  | convert s d x => simpa only [opA, hev x (by simp [Op.operands])] using h
  | range t x => simpa only [opA, hev x (by simp [Op.operands])] using h
  | makeInterface t x => simpa only [opA, hev x (by simp [Op.operands])] using h
  | makeFunc f first cap => simpa only [opA, evs_congr (tm := tm) (tm' := tm') (l := cap.toList) fun x hx => hev x (by simp [Op.operands] at hx ⊢; exact .inr hx)] using h
  | makeSlice t l c => simpa only [opA, hev l (by simp [Op.operands]), hev c (by simp [Op.operands])] using h
  | slice t x lo hi mx =>
    simp only [opA, hev x (by simp [Op.operands])] at h ⊢
    simpa only [slice_congr (P := E.P) (tm := tm) (tm' := tm') (t := t) (lo := lo) (hi := hi) (mx := mx) (fun z hz => hev z (by subst hz; simp [Op.operands])) (fun z hz => hev z (by subst hz; simp [Op.operands])) (fun z hz => hev z (by subst hz; simp [Op.operands]))] using h
  | fieldAddr s x f => simpa only [opA, hev x (by simp [Op.operands])] using h
  | field s x f => simpa only [opA, hev x (by simp [Op.operands])] using h
  | indexAddr t x i => simpa only [opA, hev x (by simp [Op.operands]), hev i (by simp [Op.operands])] using h
  | index t x i => simpa only [opA, hev x (by simp [Op.operands]), hev i (by simp [Op.operands])] using h
  | extract t i => simpa only [opA, hev t (by simp [Op.operands])] using h
  | call c =>
    have hargs : evs tm' c.args.toList = evs tm c.args.toList := evs_congr fun x hx => hev x (by simp [Op.operands, Call.operands] at hx ⊢; exact .inr hx)
    simp only [opA, hargs] at h ⊢
    simp only [Option.bind_eq_some_iff] at h ⊢
    obtain ⟨args, h1, h2⟩ := h
    refine ⟨args, h1, ?_⟩
    cases hc : c.callee with
    | builtin b => rw [hc] at h2; cases b <;> exact h2
    | invoke r m => rw [hc] at h2; exact h2
    | value f =>
      rw [hc] at h2
      simp only [hev f (by simp [Op.operands, Call.operands, hc])] at h2 ⊢
      split at h2
      · rename_i g hg; exact callPV_mono hh h2
      · cases h2
  | _ => simp [opA] at h
theorem pkOf_congr {E : Env} {tm tm' : TM} {hp hp' : HP} {o : Oper} {y : FuncId × (List PV → (List PV → R) → R) × List PV × List Nat} (h : pkOf E tm hp o = some y) (hev : ∀ x, x ∈ o.op.operands.toList → ev tm' x = ev tm x) (hh : HLe hp hp') : pkOf E tm' hp' o = some y := by
  unfold pkOf at h ⊢
  split at h
  · rename_i c ho
    rw [ho] at hev
    have hargs : evs tm' c.args.toList = evs tm c.args.toList := evs_congr fun x hx => hev x (by simp [Op.operands, Call.operands] at hx ⊢; exact .inr hx)
    split at h
    · rename_i f hc
      have hf := hev f (by simp [Op.operands, Call.operands, hc])
      split at h
      · rename_i g hg
        simp only [Option.bind_eq_some_iff] at h
        obtain ⟨q, hq, m, hm, args, ha, xs, hx, h⟩ := h
        simp only [ho, hc, hf, hg, hq, hm, hargs, ha, pureAVs_mono hh _ _ hx, Option.bind_some]
        exact h
      · cases h
    · cases h
  · cases h
end Go.Proofs.YtalfnpdgajfkiaaDoor.Ax
