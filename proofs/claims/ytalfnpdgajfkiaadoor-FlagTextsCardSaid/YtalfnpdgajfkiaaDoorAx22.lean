/- 'Ax', part 22: what a call hands back, as the caller's own. -/
import Derived.Test.YtalfnpdgajfkiaaDoorAx20
set_option linter.unusedVariables false
set_option linter.unusedSimpArgs false
namespace Go.Proofs.YtalfnpdgajfkiaaDoor.Ax
open Go

theorem matC_look {id : Nat} {x : PV} {b : Nat} {y : Blk} (h : look (matC id x).2 b = some y) : ∃ sz l, b = id ∧ x = .sl sz l ∧ y = .row sz l := by
  cases x with
  | sl sz l => obtain ⟨h1, h2⟩ := look_one h; exact ⟨sz, l, h1, rfl, h2⟩
  | _ => simp [matC, look] at h
theorem matCells_look : ∀ (xs : List PV) (id b : Nat) (y : Blk), look (matCells id xs).2 b = some y → ∃ i sz l, b = id + i ∧ xs[i]? = some (.sl sz l) ∧ y = .row sz l
  | [], id, b, y, h => by simp [matCells, look] at h
  | x :: r, id, b, y, h => by
    simp only [matCells] at h
    rw [look_append] at h
    cases hc : look (matC id x).2 b with
    | some z =>
      rw [hc] at h
      simp only [Option.some_or, Option.some.injEq] at h
      subst h
      obtain ⟨sz, l, h1, h2, h3⟩ := matC_look hc
      exact ⟨0, sz, l, by omega, by simp [h2], h3⟩
    | none =>
      rw [hc] at h
      simp only [Option.none_or] at h
      obtain ⟨i, sz, l, h1, h2, h3⟩ := matCells_look r (id + 1) b y h
      exact ⟨i + 1, sz, l, by omega, by simpa using h2, h3⟩
theorem matCells_has : ∀ (xs : List PV) (id i sz : Nat) (l : List PV), xs[i]? = some (.sl sz l) → (look (matCells id xs).2 (id + i)).isSome = true
  | [], id, i, sz, l, h => by simp at h
  | x :: r, id, i, sz, l, h => by
    simp only [matCells]
    rw [look_append]
    cases i with
    | zero => simp at h; subst h; simp [matC, look]
    | succ i =>
      have := matCells_has r (id + 1) i sz l (by simpa using h)
      rw [show id + 1 + i = id + (i + 1) by omega] at this
      cases look (matC id x).2 (id + (i + 1)) with
      | some z => rfl
      | none => simpa using this
theorem matCells_at : ∀ (xs : List PV) (id : Nat), (matCells id xs).1.length = xs.length ∧ ∀ (i : Nat) (x : PV), xs[i]? = some x → (matCells id xs).1[i]? = some (matC (id + i) x).1
  | [], id => ⟨rfl, fun i x h => by simp at h⟩
  | y :: r, id => by
    obtain ⟨h1, h2⟩ := matCells_at r (id + 1)
    refine ⟨by simp [matCells, h1], fun i x h => ?_⟩
    cases i with
    | zero => simp at h; subst h; simp [matCells]
    | succ i => have := h2 i x (by simpa using h); simp only [matCells, List.getElem?_cons_succ]; rw [this, show id + 1 + i = id + (i + 1) by omega]
theorem matCells_append : ∀ (l m : List PV) (id : Nat), matCells id (l ++ m) = ((matCells id l).1 ++ (matCells (id + l.length) m).1, (matCells id l).2 ++ (matCells (id + l.length) m).2)
  | [], m, id => by simp [matCells]
  | x :: r, m, id => by
    simp only [List.cons_append, matCells, matCells_append r m (id + 1), List.length_cons, List.append_assoc]
    rw [show id + 1 + r.length = id + (r.length + 1) by omega]
theorem mat_cells (id : Nat) (x : PV) : (mat id x).2 = (matCells id (cellsOf x)).2 := by
  cases x <;> simp [mat, cellsOf, matCells]
theorem mats_cells : ∀ (xs : List PV) (id : Nat), (mats id xs).2 = (matCells id (flat xs)).2
  | [], id => rfl
  | x :: r, id => by
    simp only [mats, flat, matCells_append, mat_cells, mats_cells r]
/-- How a result is made of its cells. -/
def ShapeR (x : PV) (v : Value) (us : List Value) : Prop := (∃ l, x = .agg l ∧ v = .agg us.toArray) ∨ ((∀ l, x ≠ .agg l) ∧ us = [v])
theorem mat_ok {σ : Sg} {w : World} {id : Nat} {x : PV} {v : Value} {us : List Value} (hs : ShapeR x v us) (h : PW (VR σ w) (matCells id (cellsOf x)).1 us) : VR σ w (mat id x).1 v := by
  rcases hs with ⟨l, rfl, rfl⟩ | ⟨hx, rfl⟩
  · exact VR.mkAgg h.len h.at_
  · cases x with
    | agg l => exact absurd rfl (hx l)
    | _ => exact h.at_ 0 _ v rfl rfl
theorem mats_ok {σ : Sg} {w : World} : ∀ (xs : List PV) (id : Nat) (vs : List Value) (uss : List (List Value)), PW (fun (x : PV × Value) us => ShapeR x.1 x.2 us ∧ us.length = (cellsOf x.1).length) (xs.zip vs) uss → vs.length = xs.length → PW (VR σ w) (matCells id (flat xs)).1 uss.flatten → PW (VR σ w) (mats id xs).1 vs
  | [], id, vs, uss, _, hl, _ => by
    have : vs = [] := List.eq_nil_of_length_eq_zero (by simpa using hl)
    subst this
    exact PW.nil
  | x :: r, id, vs, uss, hs, hl, h => by
    cases vs with
    | nil => simp at hl
    | cons v vs =>
      cases uss with
      | nil => exact absurd hs.len (by simp)
      | cons us uss =>
        obtain ⟨h1, h2⟩ := hs.at_ 0 (x, v) us rfl rfl
        have h2 : us.length = (cellsOf x).length := h2
        simp only [flat, matCells_append, List.flatten_cons] at h
        have hlen := (matCells_at (cellsOf x) id).1
        have ha : PW (VR σ w) (matCells id (cellsOf x)).1 us := by
          refine ⟨by rw [h2, hlen], fun j a u ha hu => h.at_ j a u ?_ ?_⟩
          · rw [List.getElem?_append_left (List.getElem?_eq_some_iff.1 ha).1]; exact ha
          · rw [List.getElem?_append_left (List.getElem?_eq_some_iff.1 hu).1]; exact hu
        have hb : PW (VR σ w) (matCells (id + (cellsOf x).length) (flat r)).1 uss.flatten := by
          refine ⟨by have := h.len; simp only [List.length_append] at this; rw [hlen, h2] at this; omega, fun j a u ha hu => h.at_ (us.length + j) a u ?_ ?_⟩
          · rw [List.getElem?_append_right (by rw [hlen, h2]; omega), hlen, h2, Nat.add_sub_cancel_left]; exact ha
          · rw [List.getElem?_append_right (by omega), Nat.add_sub_cancel_left]; exact hu
        simp only [mats]
        exact (mats_ok r _ vs uss hs.tail (by simpa using hl) hb).cons (mat_ok h1 ha)
theorem pureR_ok {T : World → Prop} {base : Bs T} {σ : Sg} {w : World} {hp0 : HP} (hH : HR base σ w hp0) {hp hp1 : HP} (hs : Sub hp hp0) {a : AV} {x : PV} {v : Value} (h : pureR hp a = some (x, hp1)) (hv : VR σ w a v) :
    ∃ us os, Cells base σ w hp hp1 (cellsOf x) us os ∧ Sub hp1 hp ∧ ShapeR x v us := by
  have single : ∀ {a : AV} {x : PV} {v : Value}, pureC hp a = some (x, hp1) → VR σ w a v → ∃ us os, Cells base σ w hp hp1 (cellsOf x) us os ∧ Sub hp1 hp ∧ ShapeR x v us := by
    intro a x v h hv
    have hx : cellsOf x = [x] ∧ ∀ l, x ≠ .agg l := by
      unfold pureC at h
      split at h
      · cases h; exact ⟨rfl, fun l h => by cases h⟩
      · cases h; exact ⟨rfl, fun l h => by cases h⟩
      · split at h
        · cases h; exact ⟨rfl, fun l h => by cases h⟩
        · cases h
      · cases h
    obtain ⟨os, h1, h2⟩ := pureCs_ok hH [a] hp hp1 [x] [v] hs (by simp [pureCs, h]) (PW.nil.cons hv)
    exact ⟨[v], os, by rw [hx.1]; exact h1, h2, .inr ⟨hx.2, rfl⟩⟩
  unfold pureR at h
  split at h
  · rename_i l
    simp only [Option.map_eq_some_iff] at h
    obtain ⟨⟨ys, hq⟩, hy, h⟩ := h
    cases h
    obtain ⟨vs, rfl, hl, hvs⟩ := hv.agg_list
    obtain ⟨os, h1, h2⟩ := pureCs_ok hH _ hp hq ys vs hs hy ⟨by simpa using hl, hvs⟩
    exact ⟨vs, os, h1, h2, .inl ⟨ys, rfl, rfl⟩⟩
  · rename_i l
    simp only [Option.map_eq_some_iff] at h
    obtain ⟨⟨ys, hq⟩, hy, h⟩ := h
    cases h
    cases hv with
    | agg _ vs hl hvs =>
      obtain ⟨os, h1, h2⟩ := pureCs_ok hH _ hp hq ys vs hs hy ⟨hl, hvs⟩
      exact ⟨vs, os, h1, h2, .inl ⟨ys, rfl, rfl⟩⟩
  · exact single h hv
theorem pureRs_ok {T : World → Prop} {base : Bs T} {σ : Sg} {w : World} {hp0 : HP} (hH : HR base σ w hp0) : ∀ (l : List AV) (hp hp1 : HP) (xs : List PV) (vs : List Value), Sub hp hp0 → pureRs hp l = some (xs, hp1) → PW (VR σ w) l vs →
    vs.length = xs.length ∧ ∃ uss os, Cells base σ w hp hp1 (flat xs) uss.flatten os ∧ Sub hp1 hp ∧ PW (fun (x : PV × Value) us => ShapeR x.1 x.2 us ∧ us.length = (cellsOf x.1).length) (xs.zip vs) uss
  | [], hp, hp1, xs, vs, hs, h, hv => by
    simp only [pureRs, Option.some.injEq] at h
    cases h
    have : vs = [] := List.eq_nil_of_length_eq_zero (by simpa using hv.len)
    subst this
    exact ⟨rfl, [], [], ⟨rfl, rfl, fun i x v o h => by simp [flat] at h, fun i b h => by simp at h, fun i j b h => by simp at h⟩, fun _ _ h => h, PW.nil⟩
  | a :: r, hp, hp1, xs, vs, hs, h, hv => by
    simp only [pureRs, Option.bind_eq_some_iff, Option.map_eq_some_iff] at h
    obtain ⟨⟨x, hpx⟩, hx, ⟨ys, hpy⟩, hy, h⟩ := h
    cases h
    cases vs with
    | nil => exact absurd hv.len (by simp)
    | cons v vs =>
      obtain ⟨us, os, h1, h2, h3⟩ := pureR_ok hH hs hx (hv.at_ 0 a v rfl rfl)
      obtain ⟨hl, uss, ps, h4, h5, h6⟩ := pureRs_ok hH r hpx hpy ys vs (fun b z hz => hs b z (h2 b z hz)) hy hv.tail
      refine ⟨by simp [hl], us :: uss, os ++ ps, ?_, fun b z hz => h2 b z (h5 b z hz), ?_⟩
      · simp only [flat, List.flatten_cons]
        exact h1.append h4 h2 h5
      · simp only [List.zip_cons_cons]
        exact h6.cons ⟨h3, h1.lv⟩
/-- The cells' rows become the caller's own. -/
theorem Cells.new {T : World → Prop} {base : Bs T} {σ' : Sg} {w w' : World} {hp0 hp1 : HP} {xs : List PV} {us : List Value} {os : List (Option Nat)} (hC : Cells base σ' w' hp0 hp1 xs us os) (hH : HR base σ' w' hp0) (hbn : base.n = w.heap.size) {ok : Nat → Prop} (hG : base.G = fun k => ok k ∨ w.heap.size ≤ k) {fl : Bool} (hfl : fl = true → xs.all flatC = true)
    {σ : Sg} {id : Nat} (h1 : fl = true ∨ ∀ k, k < w.heap.size → ok k → okS σ k) (h2 : ∀ k, w.heap.size ≤ k → σ.G k) (h3 : ∀ (b : Nat) (k : Bk), σ b = some (some k) → k.k < w.heap.size) (h4 : ∀ b x, look (matCells id xs).2 b = some x → σ b = none) :
    ∃ τ : Nat → Option Bk, (∀ b x, look (matCells id xs).2 b = some x → (∀ k, τ b = some k → w.heap.size ≤ k.k ∧ k.k < w'.heap.size ∧ BR (upd σ (matCells id xs).2 τ) w' k x) ∧ (τ b = none → ∃ sz, x = .row sz [])) ∧
      (∀ b b' x x' k k', look (matCells id xs).2 b = some x → look (matCells id xs).2 b' = some x' → τ b = some k → τ b' = some k' → k.k = k'.k → b = b') ∧ PW (VR (upd σ (matCells id xs).2 τ) w') (matCells id xs).1 us := by
  let τ : Nat → Option Bk := fun b => match os[b - id]?, xs[b - id]? with
    | some (some c), some (.sl sz l) => (σ' c).join.map fun k => ⟨k.k, sz, l.length⟩
    | _, _ => none
  have hτ : ∀ (i c sz : Nat) (l : List PV), os[i]? = some (some c) → xs[i]? = some (.sl sz l) → τ (id + i) = (σ' c).join.map fun k => (⟨k.k, sz, l.length⟩ : Bk) := fun i c sz l ho hx => by
    simp only [τ, Nat.add_sub_cancel_left, ho, hx]
  have hcell : ∀ (i sz : Nat) (l : List PV), xs[i]? = some (.sl sz l) → ∃ v c, us[i]? = some v ∧ os[i]? = some (some c) ∧ Cell base σ' w' (.sl sz l) v (some c) := fun i sz l hx => by
    have hi := (List.getElem?_eq_some_iff.1 hx).1
    obtain ⟨v, hv⟩ : ∃ v, us[i]? = some v := ⟨us[i]'(by rw [hC.lv]; exact hi), List.getElem?_eq_getElem _⟩
    obtain ⟨o, ho⟩ : ∃ o, os[i]? = some o := ⟨os[i]'(by rw [hC.lo]; exact hi), List.getElem?_eq_getElem _⟩
    have := hC.at_ i _ v o hx hv ho
    cases this with
    | nil _ b hb => exact ⟨_, b, hv, ho, .nil _ b hb⟩
    | row _ b l k cap o' cs e fz g1 g2 g3 g4 g5 g6 g7 g8 => exact ⟨_, b, hv, ho, .row _ b l k cap o' cs e fz g1 g2 g3 g4 g5 g6 g7 g8⟩
  -- what is tracked now
  have hback : ∀ b r, upd σ (matCells id xs).2 τ b = some r → ((look (matCells id xs).2 b).isSome = true ∧ r = τ b) ∨ σ b = some r := fun b r hr => by
    rw [upd_at] at hr
    split at hr
    · rename_i hs; exact .inl ⟨hs, (Option.some.inj hr).symm⟩
    · exact .inr hr
  have htrk : ∀ b k, (look (matCells id xs).2 b).isSome = true → τ b = some k → ∃ c k0, σ' c = some (some k0) ∧ k.k = k0.k ∧ w.heap.size ≤ k.k := fun b k hb hk => by
    obtain ⟨y, hy⟩ := Option.isSome_iff_exists.1 hb
    obtain ⟨i, sz, l, rfl, hx, _⟩ := matCells_look xs id b y hy
    obtain ⟨v, c, hv, ho, hcl⟩ := hcell i sz l hx
    rw [hτ i c sz l ho hx] at hk
    cases hcl with
    | nil _ _ hb => rw [hb] at hk; simp at hk
    | row _ _ _ k0 cap o' cs e fz g1 g2 => rw [g1] at hk; simp at hk; subst hk; exact ⟨c, k0, g1, rfl, by simp only; omega⟩
  have hok : fl = false → ∀ j, j < w'.heap.size → okS σ' j → okS (upd σ (matCells id xs).2 τ) j := fun hff j hj ho => by
    have hnew : ∀ b k, (look (matCells id xs).2 b).isSome = true → τ b = some k → k.k ≠ j := fun b k hb hk e => by
      obtain ⟨c, k0, g1, g2, _⟩ := htrk b k hb hk
      exact ho.2 c k0 g1 (by omega)
    by_cases hlt : j < w.heap.size
    · have hoj : ok j := by
        have := ho.1
        rw [hH.g, hG] at this
        rcases this with h | h
        · exact h
        · omega
      have hs := (h1.resolve_left (by rw [hff]; simp)) j hlt hoj
      exact ⟨hs.1, fun b t ht => by
        rcases hback b _ ht with ⟨g1, g2⟩ | g
        · exact hnew b t g1 g2.symm
        · exact hs.2 b t g⟩
    · exact ⟨h2 j (by omega), fun b t ht => by
        rcases hback b _ ht with ⟨g1, g2⟩ | g
        · exact hnew b t g1 g2.symm
        · have := h3 b t g; omega⟩
  have hrow : ∀ (i sz : Nat) (l : List PV) (k : Nat), xs[i]? = some (.sl sz l) → RowBlk σ' w' sz l k → RowBlk (upd σ (matCells id xs).2 τ) w' sz l k := fun i sz l k hx hr => by
    cases hff : fl with
    | false => exact hr.ext (Ext.refl _ _) (hok hff) rfl
    | true =>
      obtain ⟨cs, e, fz, f, k1, k2, k3, k4, k5⟩ := hr.ex
      refine ⟨cs, e, fz, f, k1, k2, k3, k4, fun i' x' j c hx' hc => ?_⟩
      have hlit := List.all_eq_true.1 (hfl hff) _ (List.mem_of_getElem? hx)
      simp only [flatC] at hlit
      have hlit2 := List.all_eq_true.1 (List.all_eq_true.1 hlit x' (List.mem_of_getElem? hx')) c (List.mem_of_getElem? hc)
      have h5 := k5 i' x' j c hx' hc
      generalize f i' j = fv at h5 ⊢
      cases h5 with
      | lit => exact .lit _
      | _ => simp [isLit] at hlit2
  refine ⟨τ, fun b y hy => ?_, fun b b' y y' k k' hy hy' hk hk' e => ?_, ⟨?_, fun i a v ha hv => ?_⟩⟩
  · obtain ⟨i, sz, l, rfl, hx, rfl⟩ := matCells_look xs id b y hy
    obtain ⟨v, c, hv, ho, hcl⟩ := hcell i sz l hx
    rw [hτ i c sz l ho hx]
    cases hcl with
    | nil _ _ hb => rw [hb]; exact ⟨fun k hk => by simp at hk, fun _ => ⟨sz, rfl⟩⟩
    | row _ _ _ k0 cap o' cs e fz g1 g2 g3 g4 g5 g6 g7 g8 =>
      rw [g1]
      refine ⟨fun k hk => ?_, fun h => by simp at h⟩
      simp at hk; subst hk
      exact ⟨by simp only; omega, g3, rfl, rfl, hrow i sz l k0.k hx g4⟩
  · obtain ⟨i, sz, l, rfl, hx, rfl⟩ := matCells_look xs id b y hy
    obtain ⟨j, sz', l', rfl, hx', rfl⟩ := matCells_look xs id b' y' hy'
    obtain ⟨v, c, hv, ho, hcl⟩ := hcell i sz l hx
    obtain ⟨v', c', hv', ho', hcl'⟩ := hcell j sz' l' hx'
    rw [hτ i c sz l ho hx] at hk
    rw [hτ j c' sz' l' ho' hx'] at hk'
    cases hcl with
    | nil _ _ hb => rw [hb] at hk; simp at hk
    | row _ _ _ k0 cap o' cs e' fz g1 g2 =>
      cases hcl' with
      | nil _ _ hb => rw [hb] at hk'; simp at hk'
      | row _ _ _ k0' cap' o'' cs' e'' fz' g1' g2' =>
        rw [g1] at hk; rw [g1'] at hk'
        simp at hk hk'
        subst hk; subst hk'
        have := hH.inj c c' k0 k0' g1 g1' e
        subst this
        have := hC.apart i j c ho ho'
        omega
  · rw [(matCells_at xs id).1, hC.lv]
  · have hi : i < xs.length := by rw [← (matCells_at xs id).1]; exact (List.getElem?_eq_some_iff.1 ha).1
    have hx : xs[i]? = some xs[i] := List.getElem?_eq_getElem hi
    rw [(matCells_at xs id).2 i _ hx] at ha
    cases ha
    obtain ⟨o, ho⟩ : ∃ o, os[i]? = some o := ⟨os[i]'(by rw [hC.lo]; exact hi), List.getElem?_eq_getElem _⟩
    have hcl := hC.at_ i _ v o hx hv ho
    generalize hxi : xs[i] = x at hx hcl
    cases hcl with
    | lit => exact VR.lit _ _ _
    | ifc t v => exact .p _ _ (.ifc t v)
    | nil sz b hb =>
      refine .slnil _ _ _ ?_
      rw [upd_at, if_pos (matCells_has xs id i sz [] hx), hτ i b sz [] ho hx, hb]; rfl
    | row sz b l k cap o' cs e fz g1 g2 g3 g4 g5 g6 g7 g8 =>
      refine .sl _ sz 0 l.length ⟨k.k, sz, l.length⟩ cap o' false ?_ rfl (by simp) (fun h => by rw [g8 h]; simp) g7 (fun h => by cases h) fun _ => ⟨cs, e, fz, g5, by simpa using g6⟩
      rw [upd_at, if_pos (matCells_has xs id i sz l hx), hτ i b sz l ho hx, g1]; rfl
end Go.Proofs.YtalfnpdgajfkiaaDoor.Ax
