/- 'Ax', part 8: lists of cells that are overwritten; composite literals; new rows. -/
import Derived.Test.YtalfnpdgajfkiaaDoorAx7
set_option linter.unusedVariables false
set_option linter.unusedSimpArgs false
namespace Go.Proofs.YtalfnpdgajfkiaaDoor.Ax
open Go

/-! ### Cells overwritten -/
theorem setFrom_length {α : Type} : ∀ (xs l : List α) (j : Nat), (setFrom l j xs).length = l.length
  | [], _, _ => rfl
  | x :: r, l, j => by rw [setFrom, setFrom_length r]; simp
theorem setFrom_get {α : Type} : ∀ (xs l : List α) (j i : Nat), j + xs.length ≤ l.length → (setFrom l j xs)[i]? = if j ≤ i ∧ i < j + xs.length then xs[i - j]? else l[i]?
  | [], l, j, i, _ => by simp [setFrom]; omega
  | x :: r, l, j, i, h => by
    simp only [List.length_cons] at h
    rw [setFrom, setFrom_get r (l.set j x) (j + 1) i (by simp; omega)]
    simp only [List.length_cons]
    by_cases h1 : j = i
    · subst h1
      rw [if_neg (by omega), if_pos (by omega), List.getElem?_set_self (by omega)]
      simp
    · by_cases h2 : j + 1 ≤ i ∧ i < j + 1 + r.length
      · rw [if_pos h2, if_pos (by omega), show i - j = (i - (j + 1)) + 1 by omega, List.getElem?_cons_succ]
      · rw [if_neg h2, if_neg (by omega), List.getElem?_set_ne h1]
/-- Two lists, place by place. -/
structure PW {α β : Type} (R : α → β → Prop) (l : List α) (vs : List β) : Prop where
  len : vs.length = l.length
  at_ : ∀ (j : Nat) (a : α) (v : β), l[j]? = some a → vs[j]? = some v → R a v
theorem PW.setFrom {α β : Type} {R : α → β → Prop} {l : List α} {vs : List β} (h : PW R l vs) {xs : List α} {us : List β} (h' : PW R xs us) {j : Nat} (hj : j + xs.length ≤ l.length) : PW R (setFrom l j xs) (Ax.setFrom vs j us) := by
  refine ⟨by rw [setFrom_length, setFrom_length, h.len], fun i a v ha hv => ?_⟩
  rw [setFrom_get _ _ _ _ hj] at ha
  rw [setFrom_get _ _ _ _ (by rw [h'.len, h.len]; exact hj), h'.len] at hv
  split at ha
  · rename_i hc; rw [if_pos hc] at hv; exact h'.at_ _ _ _ ha hv
  · rename_i hc; rw [if_neg hc] at hv; exact h.at_ _ _ _ ha hv
theorem fold_set : ∀ (us : List Value) (n off : Nat) (cs : List Value), (us.zipIdx n).foldl (fun (cs : Array Value) (p : Value × Nat) => cs.setIfInBounds (off + p.2) p.1) cs.toArray = (setFrom cs (off + n) us).toArray
  | [], _, _, _ => rfl
  | u :: r, n, off, cs => by
    simp only [List.zipIdx_cons, List.foldl_cons, setFrom]
    have := fold_set r (n + 1) off (cs.set (off + n) u)
    simp only [Nat.add_assoc] at this ⊢
    rw [← this]
    congr 1
    simp
theorem fold_set' (us : List Value) (off : Nat) (cs : List Value) : us.toArray.zipIdx.foldl (fun (cs : Array Value) (x : Value × Nat) => match x with | (c, j) => cs.setIfInBounds (off + j) c) cs.toArray = (setFrom cs off us).toArray := by
  have := fold_set us 0 off cs
  rw [Nat.add_zero] at this
  rw [← this]
  simp [← Array.foldl_toList]
abbrev PartR (σ : Sg) (w : World) (p : Nat × AV) (q : Nat × Value) : Prop := p.1 = q.1 ∧ VR σ w p.2 q.2
theorem evParts_ok {σ : Sg} {w : World} {tm : TM} {vs : Array Value} {ds : List Deferred} (h : TR σ w tm vs) : ∀ {l : List (Nat × Operand)} {ps : List (Nat × AV)}, evParts tm l = some ps →
    PW (PartR σ w) ps (l.map fun p => (p.1, (⟨vs, ds⟩ : Act).eval p.2)) := by
  intro l
  induction l with
  | nil => intro ps hp; simp only [evParts, Option.some.injEq] at hp; subst hp; exact ⟨rfl, fun j a v ha => by simp at ha⟩
  | cons x r ih =>
    intro ps hp
    simp only [evParts, Option.bind_eq_some_iff, Option.map_eq_some_iff] at hp
    obtain ⟨a, hx, t, ht, rfl⟩ := hp
    have h2 := ih ht
    refine ⟨by have := h2.len; simpa using this, fun j b v hb hv => ?_⟩
    cases j with
    | zero => simp at hb hv; subst hb; subst hv; exact ⟨rfl, ev_ok h hx⟩
    | succ j => exact h2.at_ j b v (by simpa using hb) (by simpa using hv)
theorem VR.cellsPW {σ : Sg} {w : World} {x : AV} {v : Value} (h : VR σ w x v) (hc : (cellsAV x).all isCell = true) :
    ∃ us : List Value, v.cells = us.toArray ∧ PW (fun a u => VR σ w a u ∧ u.oneCell' = true) (cellsAV x) us := by
  obtain ⟨us, h1, h2, h3⟩ := h.cells hc
  exact ⟨us, h1, h2, h3⟩
theorem fill_ok {P : Program} {σ : Sg} {w : World} {t : TypeId} {place : Nat → Option (Nat × Nat)} (hpl : ∀ i p, placeOf P t i = some p → place i = some p) :
    ∀ (ps : List (Nat × AV)) (qs : List (Nat × Value)) (l l' : List AV) (us : List Value), PW (PartR σ w) ps qs → PW (VR σ w) l us → fillAV P t l ps = some l' →
      ∃ us' : List Value, Instr.fill place us.toArray qs = some us'.toArray ∧ PW (VR σ w) l' us' := by
  intro ps
  induction ps with
  | nil =>
    intro qs l l' us hp hu h
    have : qs = [] := List.eq_nil_of_length_eq_zero (by simpa using hp.len)
    subst this
    simp only [fillAV, Option.some.injEq] at h
    subst h
    exact ⟨us, rfl, hu⟩
  | cons p r ih =>
    obtain ⟨i, x⟩ := p
    intro qs l l' us hp hu h
    cases qs with
    | nil => exact absurd hp.len (by simp)
    | cons q qs =>
      obtain ⟨i', v⟩ := q
      obtain ⟨rfl, hv⟩ := hp.at_ 0 (i, x) (i', v) rfl rfl
      have hr : PW (PartR σ w) r qs := ⟨by simpa using hp.len, fun j a u ha hu => hp.at_ (j + 1) a u (by simpa using ha) (by simpa using hu)⟩
      simp only [fillAV, Option.bind_eq_some_iff] at h
      obtain ⟨⟨off, size⟩, hpo, h⟩ := h
      split at h
      · rename_i hc
        obtain ⟨h1, h2, h3⟩ := hc
        obtain ⟨cs, hcs, hpw⟩ := hv.cellsPW h2
        have hpw' : PW (VR σ w) (cellsAV x) cs := ⟨hpw.len, fun j a u ha hu => (hpw.at_ j a u ha hu).1⟩
        obtain ⟨us', g1, g2⟩ := ih qs _ l' _ hr (hu.setFrom hpw' (j := off) (by rw [h1]; exact h3)) h
        refine ⟨us', ?_, g2⟩
        simp only [Instr.fill, hpl _ _ hpo, hcs]
        have e1 : cs.toArray.size = size := by simp [hpw.len, h1]
        have e2 : ¬ (off + cs.toArray.size > us.toArray.size) := by
          have := hu.len; simp only [List.size_toArray] at *; omega
        rw [if_neg (by simp only [e1]; simp; have := hu.len; simp at *; omega)]
        rw [fold_set']
        exact g1
      · cases h
theorem sizes_places {P : Program} : ∀ (fs : List Field), sizes P fs = true → ∃ places : List (Nat × Nat), fs.mapM (fun f => (P.info? f.type).map fun i => (f.offset, i.size)) = some places ∧ ∀ (i : Nat) (f : Field) (n : Nat), fs[i]? = some f → sizeT P f.type = some n → places[i]? = some (f.offset, n)
  | [], _ => ⟨[], rfl, fun i f n h => by simp at h⟩
  | f :: r, h => by
    simp only [sizes, Bool.and_eq_true] at h
    obtain ⟨ps, h1, h2⟩ := sizes_places r h.2
    obtain ⟨n, hn⟩ := Option.isSome_iff_exists.1 h.1
    simp only [sizeT, Option.map_eq_some_iff] at hn
    obtain ⟨i, hi, rfl⟩ := hn
    refine ⟨(f.offset, i.size) :: ps, by simp [hi, h1], fun j g m hg hm => ?_⟩
    cases j with
    | zero =>
      simp at hg; subst hg
      simp only [sizeT, hi, Option.map_some, Option.some.injEq] at hm
      simp [hm]
    | succ j => simpa using h2 j g m (by simpa using hg) hm
theorem zeroT_agg {P : Program} {t : TypeId} {l : List PV} (h : zeroT P t = some (.agg l)) : ∃ (i : TypeInfo) (cs : Array Value), P.info? t = some i ∧ i.zero = some (.agg cs) ∧ l = cs.toList.map .lit := by
  simp only [zeroT, Option.map_eq_some_iff, Option.bind_eq_some_iff] at h
  obtain ⟨v, ⟨i, h1, h2⟩, h3⟩ := h
  cases v <;> simp [valPV] at h3
  subst h3
  exact ⟨i, _, h1, h2, rfl⟩
theorem build_ok {P : Program} {σ : Sg} {w : World} {t : TypeId} {ps : List (Nat × AV)} {qs : Array (Nat × Value)} {y : AV} (hp : PW (PartR σ w) ps qs.toList) (h : build P t ps = some y) :
    ∃ u, (Instr.build t qs).run P w = .ok u w ∧ VR σ w y u := by
  unfold build at h
  split at h
  · rename_i hs
    simp only [Option.bind_eq_some_iff] at h
    obtain ⟨z, hz, h⟩ := h
    split at h
    · rename_i l
      simp only [Option.map_eq_some_iff] at h
      obtain ⟨l', hf, rfl⟩ := h
      obtain ⟨i, cs, hi, hzi, rfl⟩ := zeroT_agg hz
      have h0 : PW (VR σ w) ((cs.toList.map PV.lit).map AV.p) cs.toList := ⟨by simp, fun j a v ha hv => by
        simp only [List.map_map, List.getElem?_map, hv] at ha
        simp at ha; subst ha; exact VR.lit _ _ _⟩
      unfold allSized at hs
      split at hs
      · rename_i fs hu
        obtain ⟨places, hpl, hat⟩ := sizes_places fs.toList hs
        obtain ⟨us', g1, g2⟩ := fill_ok (P := P) (t := t) (place := fun i => places.toArray[i]?) (fun i p hip => by
          simp only [placeOf, hu, Option.bind_eq_some_iff, Option.map_eq_some_iff] at hip
          obtain ⟨f, hf, n, hn, rfl⟩ := hip
          simpa using hat i f n (by simpa using hf) hn) ps qs.toList _ l' cs.toList hp h0 hf
        refine ⟨_, run_build w t qs us'.toArray ?_, VR.mkAgg g2.len g2.at_⟩
        simp only [Program.built, hi, hu, hzi, hpl, Value.cells]
        simpa using g1
      · rename_i n e hu
        obtain ⟨m, hm⟩ := Option.isSome_iff_exists.1 hs
        have hm' := hm
        simp only [sizeT, Option.map_eq_some_iff] at hm'
        obtain ⟨ie, hie, rfl⟩ := hm'
        obtain ⟨us', g1, g2⟩ := fill_ok (P := P) (t := t) (place := fun i => some (i * ie.size, ie.size)) (fun i p hip => by
          simp only [placeOf, hu, Option.map_eq_some_iff, hm] at hip
          obtain ⟨n, hn, rfl⟩ := hip
          cases hn; rfl) ps qs.toList _ l' cs.toList hp h0 hf
        refine ⟨_, run_build w t qs us'.toArray ?_, VR.mkAgg g2.len g2.at_⟩
        simp only [Program.built, hi, hu, hzi, hie, Value.cells]
        simpa using g1
      · cases hs
    · cases h
  · cases h
end Go.Proofs.YtalfnpdgajfkiaaDoor.Ax
