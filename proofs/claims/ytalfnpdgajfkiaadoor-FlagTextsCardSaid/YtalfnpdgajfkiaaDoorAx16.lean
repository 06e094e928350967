/- 'Ax', part 16: an operation that writes nothing looks at its operands' slots and at blocks that it finds: more slots and blocks change nothing. -/
import Derived.Test.YtalfnpdgajfkiaaDoorAx15
set_option linter.unusedVariables false
set_option linter.unusedSimpArgs false
namespace Go.Proofs.YtalfnpdgajfkiaaDoor.Ax
open Go

def HLe (hp hp' : HP) : Prop := ∀ (b : Nat) (x : Blk), look hp b = some x → look hp' b = some x
mutual
theorem pureAV_mono {hp hp' : HP} (hh : HLe hp hp') : ∀ (a : AV) (x : PV), pureAV hp a = some x → pureAV hp' a = some x
  | .p y, x, h => h
  | .sl b sz i n full, x, h => by
    simp only [pureAV] at h ⊢
    split at h
    · rename_i s l hl; rw [hh _ _ hl]; exact h
    · cases h
  | .agg l, x, h => by
    simp only [pureAV, Option.map_eq_some_iff] at h ⊢
    obtain ⟨ps, h1, h2⟩ := h
    exact ⟨ps, pureAVs_mono hh l ps h1, h2⟩
  | .fn f [], x, h => h
  | .ptr .., _, h | .eptr .., _, h | .fn _ (_ :: _), _, h | .tup .., _, h | .iface .., _, h | .son .., _, h | .tsl .., _, h | .dead, _, h => by simp [pureAV] at h
theorem pureAVs_mono {hp hp' : HP} (hh : HLe hp hp') : ∀ (l : List AV) (xs : List PV), pureAVs hp l = some xs → pureAVs hp' l = some xs
  | [], xs, h => h
  | a :: r, xs, h => by
    simp only [pureAVs, Option.bind_eq_some_iff, Option.map_eq_some_iff] at h ⊢
    obtain ⟨x, hx, t, ht, h2⟩ := h
    exact ⟨x, pureAV_mono hh a x hx, t, pureAVs_mono hh r t ht, h2⟩
end
theorem load_mono {P : Program} {hp hp' : HP} (hh : HLe hp hp') {t : TypeId} {a y : AV} (h : load P hp t a = some y) : load P hp' t a = some y := by
  unfold load at h ⊢
  split at h
  · split at h
    · rename_i hl; rw [hh _ _ hl]; exact h
    · rename_i hl; rw [hh _ _ hl]; exact h
    · cases h
  · exact h
  · cases h
theorem elems_mono {hp hp' : HP} (hh : HLe hp hp') {z : PV} {n : Nat} : ∀ (k : Nat) (ps : List (Nat × AV)) (l : List PV), elems hp z n k ps = some l → elems hp' z n k ps = some l
  | 0, [], l, h => h
  | 0, p :: r, l, h => by simp [elems] at h
  | k + 1, [], l, h => by
    simp only [elems, Option.map_eq_some_iff] at h ⊢
    obtain ⟨t, ht, h2⟩ := h
    exact ⟨t, elems_mono hh k [] t ht, h2⟩
  | k + 1, (i, x) :: r, l, h => by
    simp only [elems, Option.bind_eq_some_iff] at h ⊢
    obtain ⟨y, hy, h⟩ := h
    refine ⟨y, pureAV_mono hh x y hy, ?_⟩
    split at h
    · rename_i hc
      rw [if_pos hc]
      simp only [Option.map_eq_some_iff] at h ⊢
      obtain ⟨t, ht, h2⟩ := h
      exact ⟨t, elems_mono hh k r t ht, h2⟩
    · cases h
theorem buildSlice_mono {P : Program} {hp hp' : HP} (hh : HLe hp hp') {id : Nat} {t : TypeId} {n : Nat} {ps : List (Nat × AV)} {y : AV × HP × List Nat} (h : buildSlice P hp id t n ps = some y) : buildSlice P hp' id t n ps = some y := by
  simp only [buildSlice, Option.bind_eq_some_iff] at h ⊢
  obtain ⟨e, he, m, hm, z, hz, h⟩ := h
  refine ⟨e, he, m, hm, z, hz, ?_⟩
  split at h
  · rename_i hc
    rw [if_pos hc]
    simp only [Option.map_eq_some_iff] at h ⊢
    obtain ⟨t, ht, h2⟩ := h
    exact ⟨t, elems_mono hh _ _ _ ht, h2⟩
  · cases h
theorem callPV_mono {E : Env} {cl : FuncId → List PV → R} {hp hp' : HP} (hh : HLe hp hp') {id : Nat} {g : FuncId} {args : List AV} {y : AV × HP × List Nat} (h : callPV E cl hp id g args = some y) : callPV E cl hp' id g args = some y := by
  simp only [callPV, Option.bind_eq_some_iff] at h ⊢
  obtain ⟨m, hm, xs, hxs, h⟩ := h
  exact ⟨m, hm, xs, pureAVs_mono hh _ _ hxs, h⟩
theorem evs_congr {tm tm' : TM} : ∀ {l : List Operand}, (∀ x, x ∈ l → ev tm' x = ev tm x) → evs tm' l = evs tm l
  | [], _ => rfl
  | x :: r, h => by simp only [evs, h x (by simp), evs_congr (l := r) fun y hy => h y (by simp [hy])]
theorem evParts_congr {tm tm' : TM} : ∀ {l : List (Nat × Operand)}, (∀ x, x ∈ l.map (·.2) → ev tm' x = ev tm x) → evParts tm' l = evParts tm l
  | [], _ => rfl
  | (i, x) :: r, h => by simp only [evParts, h x (by simp), evParts_congr (l := r) fun y hy => h y (by simp at hy ⊢; exact .inr hy)]
theorem bound_congr {tm tm' : TM} {d y : Nat} {o : Option Operand} (h : ∀ x, o = some x → ev tm' x = ev tm x) : bound tm' d y o = bound tm d y o := by
  cases o with
  | none => rfl
  | some x => simp only [bound, h x rfl]
theorem slice_congr {P : Program} {tm tm' : TM} {t : TypeId} {x : AV} {lo hi mx : Option Operand} (h1 : ∀ x, lo = some x → ev tm' x = ev tm x) (h2 : ∀ x, hi = some x → ev tm' x = ev tm x) (h3 : ∀ x, mx = some x → ev tm' x = ev tm x) : slice P tm' t x lo hi mx = slice P tm t x lo hi mx := by
  unfold slice
  simp only [bound_congr h1, bound_congr h2, bound_congr h3]
theorem lookupM_mono {P : Program} {hp hp' : HP} (hh : HLe hp hp') {t : TypeId} {x i y : AV} {ok : Bool} (h : lookupM P hp t x i ok = some y) : lookupM P hp' t x i ok = some y := by
  unfold lookupM at h ⊢
  simp only [Option.bind_eq_some_iff] at h ⊢
  obtain ⟨m, hm, k, hk, h⟩ := h
  refine ⟨m, hm, k, pureAV_mono hh i k hk, ?_⟩
  split at h
  · rename_i hok
    rw [if_pos hok]
    split at h
    · rename_i b
      cases hb : look hp b with
      | none => rw [hb] at h; cases h
      | some z => rw [hb] at h; rw [hh b z hb]; exact h
    · exact h
    · cases h
  · cases h
theorem opA_congr {E : Env} {cl : FuncId → List PV → R} {tm tm' : TM} {hp hp' : HP} {id : Nat} {o : Oper} {y : AV × HP × List Nat} (h : opA E cl tm hp id o = some y) (hev : ∀ x, x ∈ o.op.operands.toList → ev tm' x = ev tm x) (hh : HLe hp hp') :
    opA E cl tm' hp' id o = some y := by
  obtain ⟨dst, op, type, pos, after, guard⟩ := o
  cases op with
  | move x => simpa only [opA, hev x (by simp [Op.operands])] using h
  | assign x => simpa only [opA, hev x (by simp [Op.operands])] using h
  | pick c a b => simpa only [opA, hev c (by simp [Op.operands]), hev a (by simp [Op.operands]), hev b (by simp [Op.operands])] using h
  | alloc t => exact h
  | box t x => simpa only [opA, hev x (by simp [Op.operands])] using h
  | build t ps => simpa only [opA, evParts_congr (tm := tm) (tm' := tm') (l := ps.toList) fun x hx => hev x (by simpa [Op.operands] using hx)] using h
  | buildSlice t n ps =>
    simp only [opA, evParts_congr (tm := tm) (tm' := tm') (l := ps.toList) fun x hx => hev x (by simpa [Op.operands] using hx)] at h ⊢
    simp only [Option.bind_eq_some_iff] at h ⊢
    obtain ⟨qs, h1, h2⟩ := h
    exact ⟨qs, h1, buildSlice_mono hh h2⟩
  | load t a =>
    simp only [opA, hev a (by simp [Op.operands])] at h ⊢
    obtain ⟨z, hz, rfl⟩ := val_some h
    simp only [Option.bind_eq_some_iff] at hz
    obtain ⟨av, h1, h2⟩ := hz
    simp only [h1, Option.bind_some, load_mono hh h2]; rfl
  | nilCheck x => simpa only [opA, hev x (by simp [Op.operands])] using h
  | binOp op t x z ty => simpa only [opA, hev x (by simp [Op.operands]), hev z (by simp [Op.operands])] using h
  | unOp op t x => simpa only [opA, hev x (by simp [Op.operands])] using h
  | convert s d x => simpa only [opA, hev x (by simp [Op.operands])] using h
  | range t x => simpa only [opA, hev x (by simp [Op.operands])] using h
  | makeInterface t x => simpa only [opA, hev x (by simp [Op.operands])] using h
  | makeFunc f first cap => simpa only [opA, evs_congr (tm := tm) (tm' := tm') (l := cap.toList) fun x hx => hev x (by simp [Op.operands] at hx ⊢; exact .inr hx)] using h
  | makeSlice t l c => simpa only [opA, hev l (by simp [Op.operands]), hev c (by simp [Op.operands])] using h
  | slice t x lo hi mx =>
    simp only [opA, hev x (by simp [Op.operands])] at h ⊢
    simpa only [slice_congr (P := E.P) (tm := tm) (tm' := tm') (t := t) (lo := lo) (hi := hi) (mx := mx) (fun z hz => hev z (by subst hz; simp [Op.operands])) (fun z hz => hev z (by subst hz; simp [Op.operands])) (fun z hz => hev z (by subst hz; simp [Op.operands]))] using h
  | fieldAddr s x f => simpa only [opA, hev x (by simp [Op.operands])] using h
  | field s x f => simpa only [opA, hev x (by simp [Op.operands])] using h
  | indexAddr t x i => simpa only [opA, hev x (by simp [Op.operands]), hev i (by simp [Op.operands])] using h
  | index t x i => simpa only [opA, hev x (by simp [Op.operands]), hev i (by simp [Op.operands])] using h
  | makeMap t r =>
    cases r with
    | none => exact h
    | some r => simp [opA] at h
  | lookup t x i ok =>
    simp only [opA, hev x (by simp [Op.operands]), hev i (by simp [Op.operands])] at h ⊢
    obtain ⟨z, hz, rfl⟩ := val_some h
    simp only [Option.bind_eq_some_iff] at hz
    obtain ⟨av, h1, bv, h2, h3⟩ := hz
    simp only [h1, h2, Option.bind_some, lookupM_mono hh h3]; rfl
  | extract t i => simpa only [opA, hev t (by simp [Op.operands])] using h
  | call c =>
    have hargs : evs tm' c.args.toList = evs tm c.args.toList := evs_congr fun x hx => hev x (by simp [Op.operands, Call.operands] at hx ⊢; exact .inr hx)
    simp only [opA, hargs] at h ⊢
    simp only [Option.bind_eq_some_iff] at h ⊢
    obtain ⟨args, h1, h2⟩ := h
    refine ⟨args, h1, ?_⟩
    cases hc : c.callee with
    | builtin b => rw [hc] at h2; cases b <;> exact h2
    | invoke r m => rw [hc] at h2; exact h2
    | value f =>
      rw [hc] at h2
      simp only [hev f (by simp [Op.operands, Call.operands, hc])] at h2 ⊢
      split at h2
      · rename_i g hg; exact callPV_mono hh h2
      · cases h2
  | _ => simp [opA] at h
theorem pkOf_congr {E : Env} {tm tm' : TM} {hp hp' : HP} {o : Oper} {y : FuncId × (List PV → (List PV → R) → R) × List PV × List Nat} (h : pkOf E tm hp o = some y) (hev : ∀ x, x ∈ o.op.operands.toList → ev tm' x = ev tm x) (hh : HLe hp hp') : pkOf E tm' hp' o = some y := by
  unfold pkOf at h ⊢
  split at h
  · rename_i c ho
    rw [ho] at hev
    have hargs : evs tm' c.args.toList = evs tm c.args.toList := evs_congr fun x hx => hev x (by simp [Op.operands, Call.operands] at hx ⊢; exact .inr hx)
    split at h
    · rename_i f hc
      have hf := hev f (by simp [Op.operands, Call.operands, hc])
      split at h
      · rename_i g hg
        simp only [Option.bind_eq_some_iff] at h
        obtain ⟨q, hq, m, hm, args, ha, xs, hx, h⟩ := h
        simp only [ho, hc, hf, hg, hq, hm, hargs, ha, pureAVs_mono hh _ _ hx, Option.bind_some]
        exact h
      · cases h
    · cases h
  · cases h
end Go.Proofs.YtalfnpdgajfkiaaDoor.Ax
set_option linter.unusedVariables false
set_option linter.unusedSimpArgs false
namespace Go.Proofs.YtalfnpdgajfkiaaDoor.Ax
open Go

/-! ### What must come ahead -/
inductive Anc (ops : Array Oper) : Nat → Nat → Prop
  | step {i j : Nat} {o : Oper} (h : ops[i]? = some o) (hj : j ∈ afters o) : Anc ops i j
  | trans {i k j : Nat} {o : Oper} (h : ops[i]? = some o) (hk : k ∈ afters o) (hj : Anc ops k j) : Anc ops i j
theorem maskOf_bit {acc : List Nat} : ∀ (l : List Nat) (j : Nat), (maskOf acc l).testBit j = true → ∃ k, k ∈ l ∧ (j = k ∨ (acc.getD k 0).testBit j = true)
  | [], j, h => by simp [maskOf] at h
  | k :: r, j, h => by
    simp only [maskOf, Nat.testBit_or, Bool.or_eq_true] at h
    rcases h with h | h | h
    · rw [Nat.one_shiftLeft, Nat.testBit_two_pow] at h
      have h : k = j := of_decide_eq_true h
      exact ⟨k, by simp, .inl h.symm⟩
    · exact ⟨k, by simp, .inr h⟩
    · obtain ⟨k', h1, h2⟩ := maskOf_bit r j h
      exact ⟨k', by simp [h1], h2⟩
theorem ancs_ok {ops : Array Oper} : ∀ (l : List Oper) (acc m : List Nat), ancs l acc = some m → l = ops.toList.drop acc.length → acc.length ≤ ops.size → (∀ (i a : Nat), acc[i]? = some a → ∀ j, a.testBit j = true → Anc ops i j) → (∀ (i : Nat) (o : Oper), i < acc.length → ops[i]? = some o → ∀ j, j ∈ afters o → j < i) →
    (∀ (i a : Nat), m[i]? = some a → ∀ j, a.testBit j = true → Anc ops i j) ∧ (∀ (i : Nat) (o : Oper), ops[i]? = some o → ∀ j, j ∈ afters o → j < i) ∧ m.length = ops.size
  | [], acc, m, h, hl, hle, h1, h2 => by
    simp only [ancs, Option.some.injEq] at h
    subst h
    have hlen : acc.length = ops.size := by
      have : (ops.toList.drop acc.length).length = 0 := by rw [← hl]; rfl
      simp at this; omega
    exact ⟨h1, fun i o ho => h2 i o (by rw [hlen]; exact (Array.getElem?_eq_some_iff.1 ho).1) ho, hlen⟩
  | o :: r, acc, m, h, hl, hle, h1, h2 => by
    simp only [ancs] at h
    split at h
    · rename_i hc
      have hat : ops[acc.length]? = some o := by
        have : (ops.toList.drop acc.length)[0]? = some o := by rw [← hl]; rfl
        simpa using this
      have hlt : acc.length < ops.size := (Array.getElem?_eq_some_iff.1 hat).1
      refine ancs_ok r _ m h ?_ (by simp; omega) (fun i a hi j hj => ?_) (fun i o' hi ho' j hj => ?_)
      · have : (ops.toList.drop acc.length).drop 1 = r := by rw [← hl]; rfl
        rw [List.drop_drop] at this
        simpa using this.symm
      · by_cases hil : i < acc.length
        · rw [List.getElem?_append_left hil] at hi; exact h1 i a hi j hj
        · rw [List.getElem?_append_right (by omega)] at hi
          cases hz : i - acc.length with
          | succ q => rw [hz] at hi; simp at hi
          | zero =>
            rw [hz] at hi
            simp at hi
            subst hi
            have hie : i = acc.length := by omega
            subst hie
            obtain ⟨k, hk1, hk2⟩ := maskOf_bit _ j hj
            rcases hk2 with rfl | hk2
            · exact .step hat hk1
            · rw [List.getD_eq_getElem?_getD] at hk2
              cases hg : acc[k]? with
              | none => rw [hg] at hk2; simp at hk2
              | some a => rw [hg] at hk2; exact .trans hat hk1 (h1 k a hg j hk2)
      · by_cases hil : i < acc.length
        · exact h2 i o' hil ho' j hj
        · have hie : i = acc.length := by simp at hi; omega
          subst hie
          rw [hat] at ho'; cases ho'
          simpa using List.all_eq_true.1 hc j hj
    · cases h
theorem cutAt_bit {m : List Nat} {c i a : Nat} (h : cutAt m c = true) (hi : c ≤ i) (ha : m[i]? = some a) (j : Nat) (hj : j < c) : a.testBit j = true := by
  have h1 := List.all_eq_true.1 h a (by
    have : (m.drop c)[i - c]? = some a := by rw [List.getElem?_drop]; rw [show c + (i - c) = i by omega]; exact ha
    exact List.mem_of_getElem? this)
  have h2 : a &&& (2 ^ c - 1) = 2 ^ c - 1 := by simpa using h1
  have h3 : (a &&& (2 ^ c - 1)).testBit j = (2 ^ c - 1).testBit j := by rw [h2]
  rw [Nat.testBit_and, Nat.testBit_two_pow_sub_one] at h3
  simpa [hj] using h3

/-! ### The lists of what is done -/
/-- So many of the first n are not done. -/
def unl : Nat → (Nat → Bool) → Nat
  | 0, _ => 0
  | n + 1, f => unl n f + (if f n then 0 else 1)
def mark1 (f : Nat → Bool) (i : Nat) : Nat → Bool := fun j => if j = i then true else f j
theorem unl_same {f g : Nat → Bool} : ∀ (n : Nat), (∀ i, i < n → f i = g i) → unl n f = unl n g
  | 0, _ => rfl
  | n + 1, h => by simp only [unl]; rw [unl_same n fun i hi => h i (by omega), h n (by omega)]
theorem unl_mark {f : Nat → Bool} {i : Nat} : ∀ (n : Nat), i < n → f i = false → unl n f = unl n (mark1 f i) + 1
  | 0, h, _ => by omega
  | n + 1, h, hf => by
    simp only [unl]
    by_cases hin : i = n
    · subst hin
      rw [unl_same i (g := mark1 f i) fun j hj => by unfold mark1; rw [if_neg (by omega)]]
      simp [hf, mark1]
    · rw [unl_mark n (by omega) hf]
      have : mark1 f i n = f n := by unfold mark1; rw [if_neg (by omega)]
      rw [this]; omega
theorem unl_zero {f : Nat → Bool} : ∀ (n : Nat), unl n f = 0 → ∀ i, i < n → f i = true
  | 0, _, i, hi => by omega
  | n + 1, h, i, hi => by
    simp only [unl] at h
    by_cases hin : i = n
    · subst hin
      by_cases hf : f i = true
      · exact hf
      · rw [if_neg hf] at h; omega
    · exact unl_zero n (by omega) i (by omega)
theorem unl_ex {f : Nat → Bool} : ∀ (n : Nat), 0 < unl n f → ∃ i, i < n ∧ f i = false ∧ ∀ j, j < i → f j = true
  | 0, h => by simp [unl] at h
  | n + 1, h => by
    by_cases hz : unl n f = 0
    · have hall := unl_zero n hz
      refine ⟨n, by omega, ?_, hall⟩
      simp only [unl, hz] at h
      cases hf : f n with
      | true => rw [hf] at h; simp at h
      | false => rfl
    · obtain ⟨i, h1, h2, h3⟩ := unl_ex n (Nat.pos_of_ne_zero hz)
      exact ⟨i, by omega, h2, h3⟩
structure Lst (n : Nat) (listed : Array Bool) (f : Nat → Bool) : Prop where
  size : listed.size = n
  at_ : ∀ i, i < n → listed[i]? = some (f i)
theorem Lst.mark {n : Nat} {listed : Array Bool} {f : Nat → Bool} (h : Lst n listed f) (i : Nat) : Lst n (listed.setIfInBounds i true) (mark1 f i) := by
  refine ⟨by simp [h.size], fun j hj => ?_⟩
  unfold mark1
  by_cases hij : j = i
  · subst hij; rw [if_pos rfl]; simp [h.size, hj]
  · rw [if_neg hij, Array.getElem?_setIfInBounds_ne (fun e => hij e.symm)]; exact h.at_ j hj
theorem Lst.ready {ops : Array Oper} {listed : Array Bool} {f : Nat → Bool} (h : Lst ops.size listed f) {i : Nat} : i ∈ Region.ready .any ops listed ↔ ∃ o, ops[i]? = some o ∧ f i = false ∧ ∀ j, j ∈ afters o → j < ops.size ∧ f j = true := by
  unfold Region.ready
  simp only [List.mem_filter, List.mem_range, Bool.and_eq_true, Bool.not_eq_true']
  constructor
  · rintro ⟨hi, h1, h2⟩
    have ho : ops[i]? = some ops[i] := Array.getElem?_eq_getElem hi
    refine ⟨ops[i], ho, ?_, fun j hj => ?_⟩
    · rw [Array.getD_eq_getD_getElem?, h.at_ i hi] at h1; exact h1
    · rw [ho] at h2
      simp only [Option.map_some, Option.getD_some] at h2
      simp only [afters, List.mem_map, List.mem_filter] at hj
      obtain ⟨e, ⟨he, hb⟩, rfl⟩ := hj
      have := (Array.all_eq_true_iff_forall_mem.1 h2) e (by simpa using he)
      simp only [hb, Bool.not_true, Bool.false_or] at this
      by_cases hlt : e.on < ops.size
      · rw [Array.getD_eq_getD_getElem?, h.at_ _ hlt] at this
        exact ⟨hlt, this⟩
      · rw [Array.getD_eq_getD_getElem?, Array.getElem?_eq_none (by rw [h.size]; omega)] at this
        simp at this
  · rintro ⟨o, ho, h1, h2⟩
    have hi : i < ops.size := (Array.getElem?_eq_some_iff.1 ho).1
    refine ⟨hi, by rw [Array.getD_eq_getD_getElem?, h.at_ i hi]; exact h1, ?_⟩
    rw [ho]
    simp only [Option.map_some, Option.getD_some]
    rw [Array.all_eq_true_iff_forall_mem]
    intro e he
    cases hb : Region.binds .any e with
    | false => rfl
    | true =>
      obtain ⟨h3, h4⟩ := h2 e.on (by simp only [afters, List.mem_map, List.mem_filter]; exact ⟨e, ⟨by simpa using he, hb⟩, rfl⟩)
      simp [Array.getD_eq_getD_getElem?, h.at_ _ h3, h4]
/-- What is done is done with all ahead of it. -/
def Down (ops : Array Oper) (f : Nat → Bool) : Prop := ∀ (i : Nat) (o : Oper), ops[i]? = some o → f i = true → ∀ j, j ∈ afters o → f j = true
theorem Down.anc {ops : Array Oper} {f : Nat → Bool} (h : Down ops f) {i j : Nat} (ha : Anc ops i j) (hi : f i = true) (hlt : ∀ (i : Nat) (o : Oper), ops[i]? = some o → ∀ j, j ∈ afters o → j < i) : f j = true := by
  induction ha with
  | step ho hj => exact h _ _ ho hi _ hj
  | trans ho hk _ ih => exact ih (h _ _ ho hi _ hk)
theorem Down.anc_ready {ops : Array Oper} {f : Nat → Bool} (h : Down ops f) {i j : Nat} (ha : Anc ops i j) {o : Oper} (ho : ops[i]? = some o) (hr : ∀ j, j ∈ afters o → f j = true) (hlt : ∀ (i : Nat) (o : Oper), ops[i]? = some o → ∀ j, j ∈ afters o → j < i) : f j = true := by
  cases ha with
  | step ho' hj => rw [ho] at ho'; cases ho'; exact hr _ hj
  | trans ho' hk hj => rw [ho] at ho'; cases ho'; exact h.anc hj (hr _ hk) hlt
theorem Down.mark {ops : Array Oper} {f : Nat → Bool} (h : Down ops f) {i : Nat} {o : Oper} (ho : ops[i]? = some o) (hr : ∀ j, j ∈ afters o → f j = true) : Down ops (mark1 f i) := by
  intro k o' hk hf j hj
  unfold mark1 at hf ⊢
  by_cases hki : k = i
  · subst hki; rw [ho] at hk; cases hk
    split
    · rfl
    · exact hr j hj
  · rw [if_neg hki] at hf
    split
    · rfl
    · exact h k o' hk hf j hj
end Go.Proofs.YtalfnpdgajfkiaaDoor.Ax
