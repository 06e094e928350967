/- 'Ax', part 21: what a call hands back. -/
import Derived.Test.YtalfnpdgajfkiaaDoorAx20
set_option linter.unusedVariables false
set_option linter.unusedSimpArgs false
namespace Go.Proofs.YtalfnpdgajfkiaaDoor.Ax
open Go

/-- A cell that is handed back: a scalar, or a row of the callee's own. -/
inductive Cell {T : World → Prop} (base : Bs T) (σ : Sg) (w : World) : PV → Value → Option Nat → Prop
  | lit (v : Value) : Cell base σ w (.lit v) v none
  | ifc (t : TypeId) (v : Value) : Cell base σ w .ifc (.iface t v) none
  | nil (sz b : Nat) (hb : σ b = some none) : Cell base σ w (.sl sz []) (.slice none 0 0) (some b)
  | row (sz b : Nat) (l : List PV) (k : Bk) (cap o : Nat) (cs : Array Value) (e : TypeId) (fz : Nat × Nat) (hb : σ b = some (some k)) (hk : base.n ≤ k.k) (hlt : k.k < w.heap.size) (hr : RowBlk σ w sz l k.k) (hc : w.heap[k.k]? = some (.cells cs e fz)) (hs : cs.size = cap * sz) (hn : l.length ≤ cap) (ho : 0 < cap → o = 0) :
      Cell base σ w (.sl sz l) (.slice (some ⟨k.k, o, none⟩) l.length cap) (some b)
theorem RowBlk.take {σ : Sg} {w : World} {sz : Nat} {l : List PV} {k : Nat} (h : RowBlk σ w sz l k) (n : Nat) : RowBlk σ w sz (l.take n) k := by
  obtain ⟨cs, e, fz, f, h1, h2, h3, h4, h5⟩ := h.ex
  have hat : ∀ (i : Nat) (x : PV), (l.take n)[i]? = some x → l[i]? = some x := fun i x hx => by
    rw [List.getElem?_take] at hx
    split at hx
    · exact hx
    · cases hx
  exact ⟨cs, e, fz, f, h1, h2, fun i x hx => h3 i x (hat i x hx), fun i x j c hx hc => h4 i x j c (hat i x hx) hc, fun i x j c hx hc => h5 i x j c (hat i x hx) hc⟩
/-- Fewer blocks are looked at. -/
def Sub (hp' hp : HP) : Prop := ∀ (b : Nat) (x : Blk), look hp' b = some x → look hp b = some x
theorem Sub.del (hp : HP) (b : Nat) : Sub (Ax.del hp b) hp := fun c x h => by
  rw [look_del] at h
  split at h
  · cases h
  · exact h
theorem pureC_ok {T : World → Prop} {base : Bs T} {σ : Sg} {w : World} {hp0 hp hp1 : HP} (hH : HR base σ w hp0) (hs : Sub hp hp0) {a : AV} {x : PV} {v : Value} (h : pureC hp a = some (x, hp1)) (hv : VR σ w a v) :
    ∃ o, Cell base σ w x v o ∧ Sub hp1 hp0 ∧ Sub hp1 hp ∧ (∀ b, o = some b → (look hp b).isSome = true ∧ look hp1 b = none) := by
  unfold pureC at h
  split at h
  · cases h; rw [hv.litEq]; exact ⟨none, .lit _, hs, fun _ _ h => h, fun b hb => by cases hb⟩
  · cases h; cases hv with | p _ _ hv => cases hv; exact ⟨none, .ifc _ _, hs, fun _ _ h => h, fun b hb => by cases hb⟩
  · rename_i b sz n
    split at h
    · rename_i s l hl
      cases h
      have hsub1 : Sub (del hp b) hp := Sub.del hp b
      have hbo : ∀ c, some b = some c → (look hp c).isSome = true ∧ look (del hp b) c = none := fun c hc => by cases hc; exact ⟨by rw [hl]; rfl, by rw [look_del, if_pos rfl]⟩
      cases hv with
      | sl _ _ _ _ k cap o _ hσ hks hlen ho hn hf hr =>
        obtain ⟨h1, h2, z, h3, h4⟩ := hH.blk b k hσ
        rw [hs b _ hl] at h3; cases h3
        obtain ⟨g1, g2, g3⟩ := h4
        have hss : s = sz := by omega
        subst hss
        obtain ⟨cs, e, fz, r1, r2⟩ := hr rfl
        have htl : (l.take n).length = n := by rw [List.length_take]; omega
        have := Cell.row (base := base) (σ := σ) (w := w) s b (l.take n) k cap o cs e fz hσ h1 h2 (g3.take n) r1 (by simpa using r2) (by omega) (fun h => by have := ho h; simpa using this)
        rw [htl] at this
        exact ⟨some b, this, fun c x hx => hs c x (hsub1 c x hx), hsub1, hbo⟩
      | slnil _ _ _ hσ =>
        obtain ⟨z, g⟩ := hH.nil b hσ
        rw [hs b _ hl] at g; cases g
        exact ⟨some b, by simpa using Cell.nil (base := base) (w := w) sz b hσ, fun c x hx => hs c x (hsub1 c x hx), hsub1, hbo⟩
    · cases h
  · cases h
/-- Cells that are handed back: no row twice. -/
structure Cells {T : World → Prop} (base : Bs T) (σ : Sg) (w : World) (hp hp1 : HP) (xs : List PV) (vs : List Value) (os : List (Option Nat)) : Prop where
  lv : vs.length = xs.length
  lo : os.length = xs.length
  at_ : ∀ (i : Nat) (x : PV) (v : Value) (o : Option Nat), xs[i]? = some x → vs[i]? = some v → os[i]? = some o → Cell base σ w x v o
  there : ∀ (i b : Nat), os[i]? = some (some b) → (look hp b).isSome = true ∧ look hp1 b = none
  apart : ∀ (i j b : Nat), os[i]? = some (some b) → os[j]? = some (some b) → i = j
theorem Cells.append {T : World → Prop} {base : Bs T} {σ : Sg} {w : World} {hp hp1 hp2 : HP} {xs ys : List PV} {vs us : List Value} {os ps : List (Option Nat)} (h : Cells base σ w hp hp1 xs vs os) (h' : Cells base σ w hp1 hp2 ys us ps) (hs1 : Sub hp1 hp) (hs : Sub hp2 hp1) : Cells base σ w hp hp2 (xs ++ ys) (vs ++ us) (os ++ ps) := by
  have cut : ∀ {i b : Nat}, (os ++ ps)[i]? = some (some b) → (i < os.length ∧ os[i]? = some (some b)) ∨ (os.length ≤ i ∧ ps[i - os.length]? = some (some b)) := fun {i b} hi => by
    by_cases hlt : i < os.length
    · rw [List.getElem?_append_left hlt] at hi; exact .inl ⟨hlt, hi⟩
    · rw [List.getElem?_append_right (by omega)] at hi; exact .inr ⟨by omega, hi⟩
  refine ⟨by simp [h.lv, h'.lv], by simp [h.lo, h'.lo], fun i x v o hx hv ho => ?_, fun i b hi => ?_, fun i j b hi hj => ?_⟩
  · by_cases hlt : i < xs.length
    · rw [List.getElem?_append_left hlt] at hx
      rw [List.getElem?_append_left (by rw [h.lv]; exact hlt)] at hv
      rw [List.getElem?_append_left (by rw [h.lo]; exact hlt)] at ho
      exact h.at_ i x v o hx hv ho
    · rw [List.getElem?_append_right (by omega)] at hx
      rw [List.getElem?_append_right (by rw [h.lv]; omega), h.lv] at hv
      rw [List.getElem?_append_right (by rw [h.lo]; omega), h.lo] at ho
      exact h'.at_ _ x v o hx hv ho
  · rcases cut hi with ⟨_, hi⟩ | ⟨_, hi⟩
    · obtain ⟨g1, g2⟩ := h.there i b hi
      refine ⟨g1, ?_⟩
      cases hl : look hp2 b with
      | none => rfl
      | some z => rw [hs b z hl] at g2; cases g2
    · obtain ⟨g1, g2⟩ := h'.there _ b hi
      obtain ⟨z, hz⟩ := Option.isSome_iff_exists.1 g1
      exact ⟨by rw [hs1 b z hz]; rfl, g2⟩
  · rcases cut hi with ⟨h1, hi⟩ | ⟨h1, hi⟩ <;> rcases cut hj with ⟨h2, hj⟩ | ⟨h2, hj⟩
    · exact h.apart i j b hi hj
    · have := (h.there i b hi).2; have := (h'.there _ b hj).1; simp_all
    · have := (h.there j b hj).2; have := (h'.there _ b hi).1; simp_all
    · have := h'.apart _ _ b hi hj; omega
theorem pureCs_ok {T : World → Prop} {base : Bs T} {σ : Sg} {w : World} {hp0 : HP} (hH : HR base σ w hp0) : ∀ (l : List AV) (hp hp1 : HP) (xs : List PV) (vs : List Value), Sub hp hp0 → pureCs hp l = some (xs, hp1) → PW (VR σ w) l vs → ∃ os, Cells base σ w hp hp1 xs vs os ∧ Sub hp1 hp
  | [], hp, hp1, xs, vs, hs, h, hv => by
    simp only [pureCs, Option.some.injEq] at h
    cases h
    have : vs = [] := List.eq_nil_of_length_eq_zero (by simpa using hv.len)
    subst this
    exact ⟨[], ⟨rfl, rfl, fun i x v o h => by simp at h, fun i b h => by simp at h, fun i j b h => by simp at h⟩, fun _ _ h => h⟩
  | a :: r, hp, hp1, xs, vs, hs, h, hv => by
    simp only [pureCs, Option.bind_eq_some_iff, Option.map_eq_some_iff] at h
    obtain ⟨⟨x, hpx⟩, hx, ⟨ys, hpy⟩, hy, h⟩ := h
    cases h
    cases vs with
    | nil => exact absurd hv.len (by simp)
    | cons v vs =>
      obtain ⟨o, h1, h2, h3, h4⟩ := pureC_ok hH hs hx (hv.at_ 0 a v rfl rfl)
      obtain ⟨os, h5, h6⟩ := pureCs_ok hH r hpx hpy ys vs h2 hy hv.tail
      have one : Cells base σ w hp hpx [x] [v] [o] := ⟨rfl, rfl, fun i x' v' o' hx hv ho => by
        cases i with
        | zero => simp at hx hv ho; subst hx; subst hv; subst ho; exact h1
        | succ i => simp at hx, fun i b hi => by
        cases i with
        | zero => simp at hi; exact h4 b hi
        | succ i => simp at hi, fun i j b hi hj => by
        cases i with
        | succ i => simp at hi
        | zero => cases j with
          | zero => rfl
          | succ j => simp at hj⟩
      exact ⟨o :: os, one.append h5 h3 h6, fun b x hx => h3 b x (h6 b x hx)⟩
end Go.Proofs.YtalfnpdgajfkiaaDoor.Ax
