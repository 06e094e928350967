/- 'Ax', part 7: operations one by one: slices, lengths, literals, new rows. -/
import Derived.Test.YtalfnpdgajfkiaaDoorAx6
import Derived.Laws.MakeOwn
set_option linter.unusedVariables false
set_option linter.unusedSimpArgs false
namespace Go.Proofs.YtalfnpdgajfkiaaDoor.Ax
open Go

theorem bound_ok {P : Program} {σ : Sg} {w : World} {tm : TM} {vs : Array Value} {ds : List Deferred} (hT : TR σ w tm vs) {d y k : Nat} {o : Option Operand} (h : bound tm d y o = some k) :
    (o = none ∧ k = d) ∨ (∃ x, o = some x ∧ k ≤ y ∧ ∀ (y' : Nat) (c : BoundsCode) (w' : World), y ≤ y' → (Instr.sliceBound ((⟨vs, ds⟩ : Act).eval x) y' c).run P w' = .ok k w') := by
  cases o with
  | none => simp only [bound, Option.some.injEq] at h; exact .inl ⟨rfl, h.symm⟩
  | some x =>
    simp only [bound, Option.bind_eq_some_iff] at h
    obtain ⟨i, ⟨a, ha, hi⟩, h⟩ := h
    split at h
    · rename_i hb
      cases h
      refine .inr ⟨x, rfl, by omega, fun y' c w' hy => ?_⟩
      rw [asI_ok (ev_ok hT ha) hi]
      exact run_sliceBound w' _ _ _ _ hb.1 (by omega)
    · cases h
theorem bounds2_ok {P : Program} {σ : Sg} {w : World} {tm : TM} {vs : Array Value} {ds : List Deferred} (hT : TR σ w tm vs) {len cap h k : Nat} {lo hi : Option Operand} (hc : len ≤ cap) (hh : bound tm len len hi = some h) (hk : bound tm 0 h lo = some k) (isS : Bool) :
    (Instr.sliceBounds isS len cap (lo.map (⟨vs, ds⟩ : Act).eval) (hi.map (⟨vs, ds⟩ : Act).eval) none).run P w = .ok (k, h, cap) w ∧ k ≤ h ∧ h ≤ len := by
  rcases bound_ok (P := P) (ds := ds) hT hh with ⟨rfl, rfl⟩ | ⟨x, rfl, h1, h2⟩ <;> rcases bound_ok (P := P) (ds := ds) hT hk with ⟨rfl, rfl⟩ | ⟨z, rfl, h3, h4⟩
  · exact ⟨by simp [Instr.sliceBounds], by omega, by omega⟩
  · exact ⟨by simp [Instr.sliceBounds, h4], by omega, by omega⟩
  · exact ⟨by simp [Instr.sliceBounds, h2 _ _ _ hc], by omega, by omega⟩
  · exact ⟨by simp [Instr.sliceBounds, h2 _ _ _ hc, h4], by omega, by omega⟩
theorem bounds3_ok {P : Program} {σ : Sg} {w : World} {tm : TM} {vs : Array Value} {ds : List Deferred} (hT : TR σ w tm vs) {len cap m h k : Nat} {lo hi mx : Option Operand} (hs : hi.isSome = true) (hms : mx.isSome = true) (hc : len ≤ cap)
    (hm : bound tm len len mx = some m) (hh : bound tm m m hi = some h) (hk : bound tm 0 h lo = some k) :
    (Instr.sliceBounds true len cap (lo.map (⟨vs, ds⟩ : Act).eval) (hi.map (⟨vs, ds⟩ : Act).eval) (mx.map (⟨vs, ds⟩ : Act).eval)).run P w = .ok (k, h, m) w ∧ k ≤ h ∧ h ≤ m ∧ m ≤ len := by
  rcases bound_ok (P := P) (ds := ds) hT hm with ⟨rfl, rfl⟩ | ⟨u, rfl, h5, h6⟩
  · cases hms
  rcases bound_ok (P := P) (ds := ds) hT hh with ⟨rfl, rfl⟩ | ⟨x, rfl, h1, h2⟩
  · cases hs
  rcases bound_ok (P := P) (ds := ds) hT hk with ⟨rfl, rfl⟩ | ⟨z, rfl, h3, h4⟩
  · exact ⟨by simp [Instr.sliceBounds, h6 _ _ _ hc, h2], by omega, by omega, by omega⟩
  · exact ⟨by simp [Instr.sliceBounds, h6 _ _ _ hc, h2, h4], by omega, by omega, by omega⟩
theorem sliceAt_not {P : Program} {t : TypeId} {d : TypeDesc} (hu : P.underlying t = some d) (hd : ∀ n e, d ≠ .array n e) (x : Value) (lo hi mx : Option Value) (w : World) : (Instr.sliceAt t x lo hi mx).run P w = (Instr.slice t x lo hi mx).run P w := by
  unfold Instr.sliceAt
  rw [Sem.run_bind, run_und hu]
  cases d <;> first | rfl | exact absurd rfl (hd _ _)
theorem drop_take_at {α : Type} {l : List α} {h k i : Nat} {e : α} (he : ((l.take h).drop k)[i]? = some e) : l[k + i]? = some e := by
  rw [List.getElem?_drop, List.getElem?_take] at he
  split at he
  · exact he
  · cases he
theorem Rd.cut {ok : Nat → Prop} {w : World} {sz : Nat} {l : List PV} {a : Addr} {cap : Nat} {f : Nat → Nat → Value} (hok : ok a.block) (hlt : a.block < w.heap.size) (hcap : l.length ≤ cap)
      (hrow : RowAt w sz l a f) (hrd : ∀ (i : Nat) (e : PV) (j : Nat) (c : PV), l[i]? = some e → (cellsOf e)[j]? = some c → Rd ok w c (f i j)) {h k : Nat} (hk : k ≤ h) (hh : h ≤ l.length) :
    Rd ok w (.sl sz ((l.take h).drop k)) (.slice (some (if cap = k then a else a.add (k * sz))) (h - k) (cap - k)) := by
  have hlen : ((l.take h).drop k).length = h - k := by simp; omega
  have := Rd.sl (ok := ok) (w := w) sz ((l.take h).drop k) (if cap = k then a else a.add (k * sz)) (cap - k) (fun i j => f (k + i) j) (by split; exact hok; rw [Addr.block_add]; exact hok) (by split; exact hlt; rw [Addr.block_add]; exact hlt) (by omega)
    ⟨fun i e he => hrow.len _ e (drop_take_at he), fun i e j c he hc => by
      have h1 := drop_take_at he
      have h2 : i < ((l.take h).drop k).length := (List.getElem?_eq_some_iff.1 he).1
      rw [if_neg (by omega), Addr.add_add, ← hrow.cell _ e j c h1 hc]
      congr 2
      rw [Nat.add_mul]; omega, fun i e j c he hc => hrow.one _ e j c (drop_take_at he) hc⟩ fun i e j c he hc => hrd _ e j c (drop_take_at he) hc
  rwa [hlen] at this
theorem slice_ok {P : Program} {σ : Sg} {w : World} {tm : TM} {vs : Array Value} {ds : List Deferred} (hT : TR σ w tm vs) {t : TypeId} {x y : AV} {lo hi mx : Option Operand} {v : Value} (hx : VR σ w x v) (h : slice P tm t x lo hi mx = some y) :
    ∃ u, (Instr.sliceAt t v (lo.map (⟨vs, ds⟩ : Act).eval) (hi.map (⟨vs, ds⟩ : Act).eval) (mx.map (⟨vs, ds⟩ : Act).eval)).run P w = .ok u w ∧ VR σ w y u := by
  unfold slice at h
  split at h
  · cases h
  rename_i hmh
  split at h
  · rename_i s hu
    split at h
    · cases h
    · rename_i hm
      simp only [Option.bind_eq_some_iff, Option.map_eq_some_iff] at h
      obtain ⟨h', hh, k, hk, rfl⟩ := h
      have hm : mx = none := by simpa using hm
      subst hm
      obtain ⟨h1, h2, h3⟩ := bounds2_ok (P := P) (ds := ds) hT (Nat.le_refl _) hh hk false
      rw [hx.litEq, sliceAt_not hu (by simp)]
      exact ⟨_, by simp [Instr.slice, run_und hu, h1], VR.lit _ _ _⟩
  · rename_i e hu
    simp only [Option.bind_eq_some_iff, Option.map_eq_some_iff] at h
    obtain ⟨n, hn, m, hm, h', hh, k, hk, rfl⟩ := h
    rw [hx.litEq, sliceAt_not hu (by simp)]
    cases mx with
    | none =>
      simp only [bound, Option.some.injEq] at hm
      subst hm
      obtain ⟨h1, h2, h3⟩ := bounds2_ok (P := P) (ds := ds) hT (Nat.le_refl _) hh hk true
      have e1 : h' = 0 := by omega
      have e2 : k = 0 := by omega
      subst e1; subst e2
      exact ⟨_, by simp [Instr.slice, run_und hu, h1, run_size hn], VR.lit _ _ _⟩
    | some mo =>
      obtain ⟨h1, h2, h3, h4⟩ := bounds3_ok (P := P) (ds := ds) hT (by cases hi with | none => simp at hmh | some _ => rfl) rfl (Nat.le_refl _) hm hh hk
      have e1 : h' = 0 := by omega
      have e2 : k = 0 := by omega
      have e3 : m = 0 := by omega
      subst e1; subst e2; subst e3
      exact ⟨_, by simp only [Instr.slice, Sem.run_bind, run_und hu, Result.andThen_ok, h1, run_size hn]; rfl, VR.lit _ _ _⟩
  · rename_i e sz l hu
    simp only [Option.bind_eq_some_iff] at h
    obtain ⟨n, hn, h⟩ := h
    split at h
    · cases h
    rename_i hsz
    have hsz : sz = n := by simpa using hsz
    subst hsz
    cases mx with
    | some mo => cases h
    | none =>
      simp only [Option.bind_eq_some_iff, Option.map_eq_some_iff] at h
      obtain ⟨h', hh, k, hk, rfl⟩ := h
      rw [sliceAt_not hu (by simp)]
      cases hx with
      | p _ _ hx =>
        cases hx with
        | nil =>
          obtain ⟨h1, h2, h3⟩ := bounds2_ok (P := P) (ds := ds) hT (Nat.le_refl 0) hh hk true
          have e1 : h' = 0 := by simpa using h3
          have e2 : k = 0 := by omega
          subst e1; subst e2
          exact ⟨.slice none 0 0, by simp [Instr.slice, run_und hu, h1, run_size hn], .p _ _ (by simpa using Rd.nil sz)⟩
        | sl _ _ a cap f hok hlt hcap hrow hrd =>
          obtain ⟨h1, h2, h3⟩ := bounds2_ok (P := P) (ds := ds) hT hcap hh hk true
          refine ⟨_, ?_, .p _ _ (Rd.cut hok hlt hcap hrow hrd h2 h3)⟩
          simp [Instr.slice, run_und hu, h1, run_size hn]
          split <;> rfl
  · rename_i e b sz i n full hu
    simp only [Option.bind_eq_some_iff] at h
    obtain ⟨s, hs, h⟩ := h
    split at h
    · cases h
    rename_i hsz
    have hsz : sz = s := by simpa using hsz
    subst hsz
    rw [sliceAt_not hu (by simp)]
    cases mx with
    | none =>
      simp only at h
      split at h
      · cases h
      rename_i hfull
      simp only [Option.bind_eq_some_iff, Option.map_eq_some_iff] at h
      obtain ⟨h', hh, k, hk, rfl⟩ := h
      cases hx with
      | sl _ _ _ _ kb cap o _ hσ hks hl ho hn hf hr =>
        obtain ⟨h1, h2, h3⟩ := bounds2_ok (P := P) (ds := ds) hT hn hh hk true
        refine ⟨.slice (some ⟨kb.k, if cap = k then o else o + k * sz, none⟩) (h' - k) (cap - k), ?_, .sl b sz (i + k) (h' - k) kb (cap - k) _ full hσ hks (by omega) (fun hc => ?_) (by omega) (fun hf' => ?_) (fun hf' => ?_)⟩
        · simp [Instr.slice, run_und hu, h1, run_size hs]
          split <;> simp [add_at]
        · rw [if_neg (by omega), ho (by omega), Nat.add_mul]
        · have := hf hf'
          have : h' = n := by
            cases hi with
            | none => simpa [bound] using hh.symm
            | some q => subst hf'; simp at hfull
          omega
        · obtain ⟨cs, e', fz, hc1, hc2⟩ := hr hf'
          exact ⟨cs, e', fz, hc1, by rw [hc2]; congr 1; omega⟩
      | slnil =>
        obtain ⟨h1, h2, h3⟩ := bounds2_ok (P := P) (ds := ds) hT (Nat.le_refl _) hh hk true
        have e1 : h' = 0 := by omega
        have e2 : k = 0 := by omega
        subst e1; subst e2
        exact ⟨_, by simp only [Instr.slice, Sem.run_bind, run_und hu, Option.map_none, Result.andThen_ok, h1, run_size hs]; rfl, .slnil _ _ _ ‹_›⟩
    | some mo =>
      simp only [Option.bind_eq_some_iff] at h
      obtain ⟨m, hm, h', hh, h⟩ := h
      split at h
      · rename_i hhm
        subst hhm
        simp only [Option.map_eq_some_iff] at h
        obtain ⟨k, hk, rfl⟩ := h
        cases hx with
        | sl _ _ _ _ kb cap o _ hσ hks hl ho hn hf hr =>
          obtain ⟨h1, h2, h3, h4⟩ := bounds3_ok (P := P) (ds := ds) hT (by cases hi with | none => simp at hmh | some _ => rfl) rfl hn hm hh hk
          refine ⟨.slice (some ⟨kb.k, if h' = k then o else o + k * sz, none⟩) (h' - k) (h' - k), ?_, .sl b sz (i + k) (h' - k) kb (h' - k) _ true hσ hks (by omega) (fun hc => ?_) (by omega) (fun _ => rfl) (fun hf' => by cases hf')⟩
          · simp only [Instr.slice, Sem.run_bind, run_und hu, Result.andThen_ok, h1, run_size hs]
            split <;> simp [add_at]
          · rw [if_neg (by omega), ho (by omega), Nat.add_mul]
        | slnil =>
          obtain ⟨h1, h2, h3, h4⟩ := bounds3_ok (P := P) (ds := ds) hT (by cases hi with | none => simp at hmh | some _ => rfl) rfl (Nat.le_refl _) hm hh hk
          have e1 : h' = 0 := by omega
          have e2 : k = 0 := by omega
          subst e1; subst e2
          exact ⟨_, by simp only [Instr.slice, Sem.run_bind, run_und hu, Result.andThen_ok, h1, run_size hs]; rfl, .slnil _ _ _ ‹_›⟩
      · cases h
  · cases h
theorem lenAV_ok {P : Program} {σ : Sg} {w : World} {t ty : TypeId} {ts : Array TypeId} {x : AV} {v : Value} {n : Nat} (ht : ts[0]? = some t) (hx : VR σ w x v) (h : lenAV P t x = some n) : (Builtin.len_ ts ty #[v]).run P w = .ok (.int .i64 n) w := by
  unfold lenAV at h
  split at h
  · rename_i hu; cases h; rw [hx.litEq]; simp [Builtin.len_, ht, run_und hu, goInt]
  · rename_i hu; cases h; rw [hx.litEq]; simp [Builtin.len_, ht, run_und hu, goInt]
  · rename_i hu; cases h
    cases hx with | p _ _ hx => cases hx <;> simp [Builtin.len_, ht, run_und hu, goInt]
  · rename_i hu; cases h
    cases hx <;> simp [Builtin.len_, ht, run_und hu, goInt]
  · rename_i hu; cases h; simp [Builtin.len_, ht, run_und hu, goInt]
  · cases h
end Go.Proofs.YtalfnpdgajfkiaaDoor.Ax
set_option linter.unusedVariables false
set_option linter.unusedSimpArgs false
namespace Go.Proofs.YtalfnpdgajfkiaaDoor.Ax
open Go

/-! ### Cells overwritten -/
theorem setFrom_length {α : Type} : ∀ (xs l : List α) (j : Nat), (setFrom l j xs).length = l.length
  | [], _, _ => rfl
  | x :: r, l, j => by rw [setFrom, setFrom_length r]; simp
theorem setFrom_get {α : Type} : ∀ (xs l : List α) (j i : Nat), j + xs.length ≤ l.length → (setFrom l j xs)[i]? = if j ≤ i ∧ i < j + xs.length then xs[i - j]? else l[i]?
  | [], l, j, i, _ => by simp [setFrom]; omega
  | x :: r, l, j, i, h => by
    simp only [List.length_cons] at h
    rw [setFrom, setFrom_get r (l.set j x) (j + 1) i (by simp; omega)]
    simp only [List.length_cons]
    by_cases h1 : j = i
    · subst h1
      rw [if_neg (by omega), if_pos (by omega), List.getElem?_set_self (by omega)]
      simp
    · by_cases h2 : j + 1 ≤ i ∧ i < j + 1 + r.length
      · rw [if_pos h2, if_pos (by omega), show i - j = (i - (j + 1)) + 1 by omega, List.getElem?_cons_succ]
      · rw [if_neg h2, if_neg (by omega), List.getElem?_set_ne h1]
/-- Two lists, place by place. -/
structure PW {α β : Type} (R : α → β → Prop) (l : List α) (vs : List β) : Prop where
  len : vs.length = l.length
  at_ : ∀ (j : Nat) (a : α) (v : β), l[j]? = some a → vs[j]? = some v → R a v
theorem PW.setFrom {α β : Type} {R : α → β → Prop} {l : List α} {vs : List β} (h : PW R l vs) {xs : List α} {us : List β} (h' : PW R xs us) {j : Nat} (hj : j + xs.length ≤ l.length) : PW R (setFrom l j xs) (Ax.setFrom vs j us) := by
  refine ⟨by rw [setFrom_length, setFrom_length, h.len], fun i a v ha hv => ?_⟩
  rw [setFrom_get _ _ _ _ hj] at ha
  rw [setFrom_get _ _ _ _ (by rw [h'.len, h.len]; exact hj), h'.len] at hv
  split at ha
  · rename_i hc; rw [if_pos hc] at hv; exact h'.at_ _ _ _ ha hv
  · rename_i hc; rw [if_neg hc] at hv; exact h.at_ _ _ _ ha hv
theorem fold_set : ∀ (us : List Value) (n off : Nat) (cs : List Value), (us.zipIdx n).foldl (fun (cs : Array Value) (p : Value × Nat) => cs.setIfInBounds (off + p.2) p.1) cs.toArray = (setFrom cs (off + n) us).toArray
  | [], _, _, _ => rfl
  | u :: r, n, off, cs => by
    simp only [List.zipIdx_cons, List.foldl_cons, setFrom]
    have := fold_set r (n + 1) off (cs.set (off + n) u)
    simp only [Nat.add_assoc] at this ⊢
    rw [← this]
    congr 1
    simp
theorem fold_set' (us : List Value) (off : Nat) (cs : List Value) : us.toArray.zipIdx.foldl (fun (cs : Array Value) (x : Value × Nat) => match x with | (c, j) => cs.setIfInBounds (off + j) c) cs.toArray = (setFrom cs off us).toArray := by
  have := fold_set us 0 off cs
  rw [Nat.add_zero] at this
  rw [← this]
  simp [← Array.foldl_toList]
abbrev PartR (σ : Sg) (w : World) (p : Nat × AV) (q : Nat × Value) : Prop := p.1 = q.1 ∧ VR σ w p.2 q.2
theorem evParts_ok {σ : Sg} {w : World} {tm : TM} {vs : Array Value} {ds : List Deferred} (h : TR σ w tm vs) : ∀ {l : List (Nat × Operand)} {ps : List (Nat × AV)}, evParts tm l = some ps →
    PW (PartR σ w) ps (l.map fun p => (p.1, (⟨vs, ds⟩ : Act).eval p.2)) := by
  intro l
  induction l with
  | nil => intro ps hp; simp only [evParts, Option.some.injEq] at hp; subst hp; exact ⟨rfl, fun j a v ha => by simp at ha⟩
  | cons x r ih =>
    intro ps hp
    simp only [evParts, Option.bind_eq_some_iff, Option.map_eq_some_iff] at hp
    obtain ⟨a, hx, t, ht, rfl⟩ := hp
    have h2 := ih ht
    refine ⟨by have := h2.len; simpa using this, fun j b v hb hv => ?_⟩
    cases j with
    | zero => simp at hb hv; subst hb; subst hv; exact ⟨rfl, ev_ok h hx⟩
    | succ j => exact h2.at_ j b v (by simpa using hb) (by simpa using hv)
theorem VR.cellsPW {σ : Sg} {w : World} {x : AV} {v : Value} (h : VR σ w x v) (hc : (cellsAV x).all isCell = true) :
    ∃ us : List Value, v.cells = us.toArray ∧ PW (fun a u => VR σ w a u ∧ u.oneCell' = true) (cellsAV x) us := by
  obtain ⟨us, h1, h2, h3⟩ := h.cells hc
  exact ⟨us, h1, h2, h3⟩
theorem fill_ok {P : Program} {σ : Sg} {w : World} {t : TypeId} {place : Nat → Option (Nat × Nat)} (hpl : ∀ i p, placeOf P t i = some p → place i = some p) :
    ∀ (ps : List (Nat × AV)) (qs : List (Nat × Value)) (l l' : List AV) (us : List Value), PW (PartR σ w) ps qs → PW (VR σ w) l us → fillAV P t l ps = some l' →
      ∃ us' : List Value, Instr.fill place us.toArray qs = some us'.toArray ∧ PW (VR σ w) l' us' := by
  intro ps
  induction ps with
  | nil =>
    intro qs l l' us hp hu h
    have : qs = [] := List.eq_nil_of_length_eq_zero (by simpa using hp.len)
    subst this
    simp only [fillAV, Option.some.injEq] at h
    subst h
    exact ⟨us, rfl, hu⟩
  | cons p r ih =>
    obtain ⟨i, x⟩ := p
    intro qs l l' us hp hu h
    cases qs with
    | nil => exact absurd hp.len (by simp)
    | cons q qs =>
      obtain ⟨i', v⟩ := q
      obtain ⟨rfl, hv⟩ := hp.at_ 0 (i, x) (i', v) rfl rfl
      have hr : PW (PartR σ w) r qs := ⟨by simpa using hp.len, fun j a u ha hu => hp.at_ (j + 1) a u (by simpa using ha) (by simpa using hu)⟩
      simp only [fillAV, Option.bind_eq_some_iff] at h
      obtain ⟨⟨off, size⟩, hpo, h⟩ := h
      split at h
      · rename_i hc
        obtain ⟨h1, h2, h3⟩ := hc
        obtain ⟨cs, hcs, hpw⟩ := hv.cellsPW h2
        have hpw' : PW (VR σ w) (cellsAV x) cs := ⟨hpw.len, fun j a u ha hu => (hpw.at_ j a u ha hu).1⟩
        obtain ⟨us', g1, g2⟩ := ih qs _ l' _ hr (hu.setFrom hpw' (j := off) (by rw [h1]; exact h3)) h
        refine ⟨us', ?_, g2⟩
        simp only [Instr.fill, hpl _ _ hpo, hcs]
        have e1 : cs.toArray.size = size := by simp [hpw.len, h1]
        have e2 : ¬ (off + cs.toArray.size > us.toArray.size) := by
          have := hu.len; simp only [List.size_toArray] at *; omega
        rw [if_neg (by simp only [e1]; simp; have := hu.len; simp at *; omega)]
        rw [fold_set']
        exact g1
      · cases h
theorem sizes_places {P : Program} : ∀ (fs : List Field), sizes P fs = true → ∃ places : List (Nat × Nat), fs.mapM (fun f => (P.info? f.type).map fun i => (f.offset, i.size)) = some places ∧ ∀ (i : Nat) (f : Field) (n : Nat), fs[i]? = some f → sizeT P f.type = some n → places[i]? = some (f.offset, n)
  | [], _ => ⟨[], rfl, fun i f n h => by simp at h⟩
  | f :: r, h => by
    simp only [sizes, Bool.and_eq_true] at h
    obtain ⟨ps, h1, h2⟩ := sizes_places r h.2
    obtain ⟨n, hn⟩ := Option.isSome_iff_exists.1 h.1
    simp only [sizeT, Option.map_eq_some_iff] at hn
    obtain ⟨i, hi, rfl⟩ := hn
    refine ⟨(f.offset, i.size) :: ps, by simp [hi, h1], fun j g m hg hm => ?_⟩
    cases j with
    | zero =>
      simp at hg; subst hg
      simp only [sizeT, hi, Option.map_some, Option.some.injEq] at hm
      simp [hm]
    | succ j => simpa using h2 j g m (by simpa using hg) hm
theorem zeroT_agg {P : Program} {t : TypeId} {l : List PV} (h : zeroT P t = some (.agg l)) : ∃ (i : TypeInfo) (cs : Array Value), P.info? t = some i ∧ i.zero = some (.agg cs) ∧ l = cs.toList.map .lit := by
  simp only [zeroT, Option.map_eq_some_iff, Option.bind_eq_some_iff] at h
  obtain ⟨v, ⟨i, h1, h2⟩, h3⟩ := h
  cases v <;> simp [valPV] at h3
  subst h3
  exact ⟨i, _, h1, h2, rfl⟩
theorem build_ok {P : Program} {σ : Sg} {w : World} {t : TypeId} {ps : List (Nat × AV)} {qs : Array (Nat × Value)} {y : AV} (hp : PW (PartR σ w) ps qs.toList) (h : build P t ps = some y) :
    ∃ u, (Instr.build t qs).run P w = .ok u w ∧ VR σ w y u := by
  unfold build at h
  split at h
  · rename_i hs
    simp only [Option.bind_eq_some_iff] at h
    obtain ⟨z, hz, h⟩ := h
    split at h
    · rename_i l
      simp only [Option.map_eq_some_iff] at h
      obtain ⟨l', hf, rfl⟩ := h
      obtain ⟨i, cs, hi, hzi, rfl⟩ := zeroT_agg hz
      have h0 : PW (VR σ w) ((cs.toList.map PV.lit).map AV.p) cs.toList := ⟨by simp, fun j a v ha hv => by
        simp only [List.map_map, List.getElem?_map, hv] at ha
        simp at ha; subst ha; exact VR.lit _ _ _⟩
      unfold allSized at hs
      split at hs
      · rename_i fs hu
        obtain ⟨places, hpl, hat⟩ := sizes_places fs.toList hs
        obtain ⟨us', g1, g2⟩ := fill_ok (P := P) (t := t) (place := fun i => places.toArray[i]?) (fun i p hip => by
          simp only [placeOf, hu, Option.bind_eq_some_iff, Option.map_eq_some_iff] at hip
          obtain ⟨f, hf, n, hn, rfl⟩ := hip
          simpa using hat i f n (by simpa using hf) hn) ps qs.toList _ l' cs.toList hp h0 hf
        refine ⟨_, run_build w t qs us'.toArray ?_, VR.mkAgg g2.len g2.at_⟩
        simp only [Program.built, hi, hu, hzi, hpl, Value.cells]
        simpa using g1
      · rename_i n e hu
        obtain ⟨m, hm⟩ := Option.isSome_iff_exists.1 hs
        have hm' := hm
        simp only [sizeT, Option.map_eq_some_iff] at hm'
        obtain ⟨ie, hie, rfl⟩ := hm'
        obtain ⟨us', g1, g2⟩ := fill_ok (P := P) (t := t) (place := fun i => some (i * ie.size, ie.size)) (fun i p hip => by
          simp only [placeOf, hu, Option.map_eq_some_iff, hm] at hip
          obtain ⟨n, hn, rfl⟩ := hip
          cases hn; rfl) ps qs.toList _ l' cs.toList hp h0 hf
        refine ⟨_, run_build w t qs us'.toArray ?_, VR.mkAgg g2.len g2.at_⟩
        simp only [Program.built, hi, hu, hzi, hie, Value.cells]
        simpa using g1
      · cases hs
    · cases h
  · cases h
end Go.Proofs.YtalfnpdgajfkiaaDoor.Ax
