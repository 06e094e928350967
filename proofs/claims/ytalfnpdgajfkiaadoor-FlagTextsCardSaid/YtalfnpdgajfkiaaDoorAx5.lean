/- 'Ax', part 5: operations one by one, first half: types, reading of memory, fields, elements. -/
import Derived.Test.YtalfnpdgajfkiaaDoorAx4
set_option linter.unusedVariables false
set_option linter.unusedSimpArgs false
namespace Go.Proofs.YtalfnpdgajfkiaaDoor.Ax
open Go

/-! ### Types -/
theorem run_und {P : Program} {t : TypeId} {d : TypeDesc} (h : P.underlying t = some d) (w : World) : (underlying t).run P w = .ok d w := by
  simp [underlying, h]
theorem run_size {P : Program} {t : TypeId} {n : Nat} (h : sizeT P t = some n) (w : World) : (sizeOf t).run P w = .ok n w := by
  simp only [sizeT, Option.map_eq_some_iff] at h
  obtain ⟨i, h1, h2⟩ := h
  simp [sizeOf, typeInfo, h1, h2]
theorem run_zero {P : Program} {t : TypeId} {z : PV} (h : zeroT P t = some z) (w : World) : ∃ v, (zeroValue t).run P w = .ok v w ∧ z = valPV v ∧ ∃ i, P.info? t = some i ∧ i.zero = some v := by
  simp only [zeroT, Option.map_eq_some_iff, Option.bind_eq_some_iff] at h
  obtain ⟨v, ⟨i, h1, h2⟩, h3⟩ := h
  exact ⟨v, by simp [zeroValue, typeInfo, h1, h2], h3.symm, i, h1, h2⟩
theorem run_agg {P : Program} {t : TypeId} {g : Bool} (h : isAggT P t = some g) (w : World) : (isAgg t).run P w = .ok g w := by
  unfold isAggT at h
  split at h <;> try (cases h; done)
  · rename_i hu; cases h; simp [isAgg, underlying, hu]
  · rename_i hu; cases h; simp [isAgg, underlying, hu]
  · rename_i d h1 h2 hu
    cases h
    unfold isAgg
    rw [Sem.run_bind, run_und hu]
    cases d <;> first | rfl | (exact absurd rfl (h1 _)) | (exact absurd rfl (h2 _ _))

/-! ### Parts of a list of cells -/
theorem mkAgg_p (l : List PV) : mkAgg (l.map .p) = .p (.agg l) := by
  have : ∀ l : List PV, unp (l.map .p) = some l := by
    intro l
    induction l with
    | nil => rfl
    | cons x r ih => simp [unp, ih]
  unfold mkAgg
  rw [this]
theorem loadPV_av (P : Program) (t : TypeId) (e : PV) (j : Nat) : loadAV P t ((cellsOf e).map .p) j = (loadPV P t e j).map .p := by
  unfold loadAV loadPV
  cases isAggT P t with
  | none => rfl
  | some g =>
    cases g with
    | true =>
      simp only [Option.bind_some, if_true]
      cases sizeT P t with
      | none => rfl
      | some n =>
        simp only [Option.bind_some, List.length_map]
        split
        · rw [← List.map_drop, ← List.map_take, mkAgg_p]; rfl
        · rfl
    | false => simp
/-- What 'loadAV' speaks of. -/
def PartV (P : Program) (t : TypeId) (vs : List Value) (j : Nat) (v : Value) : Prop :=
  (isAggT P t = some true ∧ ∃ n, sizeT P t = some n ∧ j + n ≤ vs.length ∧ v = .agg ((vs.drop j).take n).toArray) ∨ (isAggT P t = some false ∧ vs[j]? = some v)
theorem loadAV_val {P : Program} {σ : Sg} {w : World} {l : List AV} {vs : List Value} (hl : vs.length = l.length) (h : ∀ (j : Nat) (a : AV) (v : Value), l[j]? = some a → vs[j]? = some v → VR σ w a v)
    {t : TypeId} {j : Nat} {y : AV} (hy : loadAV P t l j = some y) : ∃ v, VR σ w y v ∧ PartV P t vs j v := by
  unfold loadAV at hy
  simp only [Option.bind_eq_some_iff] at hy
  obtain ⟨g, hg, hy⟩ := hy
  cases g with
  | true =>
    simp only [if_true, Option.bind_eq_some_iff] at hy
    obtain ⟨n, hn, hy⟩ := hy
    split at hy
    · rename_i hjn
      cases hy
      refine ⟨_, VR.mkAgg (us := (vs.drop j).take n) (by simp; omega) fun i a u ha hu => ?_, .inl ⟨hg, n, hn, by omega, rfl⟩⟩
      rw [List.getElem?_take] at ha hu
      split at ha
      · rename_i hi
        rw [if_pos hi] at hu
        rw [List.getElem?_drop] at ha hu
        exact h _ _ _ ha hu
      · cases ha
    · cases hy
  | false =>
    simp only [Bool.false_eq_true, if_false] at hy
    have hlt : j < vs.length := by rw [hl]; exact (List.getElem?_eq_some_iff.1 hy).1
    exact ⟨vs[j], h j y _ hy (List.getElem?_eq_getElem hlt), .inr ⟨hg, List.getElem?_eq_getElem hlt⟩⟩
theorem PartV.run_loadVar {P : Program} {w : World} {t : TypeId} {vs : List Value} {j : Nat} {v : Value} (h : PartV P t vs j v) {a : Addr} (hc : ∀ (i : Nat) (u : Value), vs[i]? = some u → w.cell? (a.add i) = some u) :
    (loadVar t (a.add j)).run P w = .ok v w := by
  rcases h with ⟨hg, n, hn, hle, rfl⟩ | ⟨hg, hv⟩
  · have := run_loadCells_list (P := P) (w := w) (a.add j) ((vs.drop j).take n) fun i u hu => by
      rw [List.getElem?_take] at hu
      split at hu
      · rw [List.getElem?_drop] at hu; rw [Addr.add_add]; exact hc _ _ hu
      · cases hu
    have hlen : ((vs.drop j).take n).length = n := by simp; omega
    rw [hlen] at this
    simp [loadVar, run_agg hg, run_size hn, this]
  · simp [loadVar, run_agg hg, hc j v hv]
theorem PartV.run_part {P : Program} {w : World} {t : TypeId} {vs : List Value} {j : Nat} {v : Value} (h : PartV P t vs j v) : (part t vs.toArray j).run P w = .ok v w := by
  rcases h with ⟨hg, n, hn, hle, rfl⟩ | ⟨hg, hv⟩
  · simp [part, run_agg hg, run_size hn, List.extract_eq_take_drop]
  · simp [part, run_agg hg, hv]

theorem cell_at {w : World} {k : Nat} {cs : Array Value} {e : TypeId} {fz : Nat × Nat} (h : w.heap[k]? = some (.cells cs e fz)) (o : Nat) : w.cell? ⟨k, o, none⟩ = cs[o]? := by
  simp [World.cell?, h]

/-! ### Loads -/
theorem row_load {P : Program} {σ : Sg} {w : World} {t : TypeId} {l : List PV} {e : PV} {i j sz : Nat} {x : PV} (a : Addr) (f : Nat → Nat → Value) (he : l[i]? = some e) (hx : loadPV P t e j = some x) (hrow : RowAt w sz l a f)
    (hrd : ∀ (i : Nat) (e : PV) (j : Nat) (c : PV), l[i]? = some e → (cellsOf e)[j]? = some c → Rd (okS σ) w c (f i j)) : ∃ v, (loadVar t (a.add (i * sz + j))).run P w = .ok v w ∧ VR σ w (.p x) v := by
  have h1 : loadAV P t ((cellsOf e).map .p) j = some (.p x) := by rw [loadPV_av, hx]; rfl
  obtain ⟨v, h2, h3⟩ := loadAV_val (σ := σ) (w := w) (vs := (List.range (cellsOf e).length).map (f i)) (by simp) (fun j a u ha hu => by
    simp only [List.getElem?_map, Option.map_eq_some_iff] at ha hu
    obtain ⟨c, hc, rfl⟩ := ha
    obtain ⟨j', hj, rfl⟩ := hu
    rw [List.getElem?_range (List.getElem?_eq_some_iff.1 hc).1] at hj
    cases hj
    exact .p _ _ (hrd i e j c he hc)) h1
  refine ⟨v, ?_, h2⟩
  have := h3.run_loadVar (w := w) (a := a.add (i * sz)) fun j u hu => by
    simp only [List.getElem?_map, Option.map_eq_some_iff] at hu
    obtain ⟨j', hj, rfl⟩ := hu
    have hlt : j < (cellsOf e).length := by
      have := (List.getElem?_eq_some_iff.1 hj).1
      simpa using this
    rw [List.getElem?_range hlt] at hj
    cases hj
    rw [Addr.add_add]
    exact hrow.cell i e j _ he (List.getElem?_eq_getElem hlt)
  rwa [Addr.add_add] at this
theorem RowBlk.at {σ : Sg} {w : World} {sz : Nat} {l : List PV} {k : Nat} (h : RowBlk σ w sz l k) : ∃ f : Nat → Nat → Value, RowAt w sz l ⟨k, 0, none⟩ f ∧ ∀ (i : Nat) (e : PV) (j : Nat) (c : PV), l[i]? = some e → (cellsOf e)[j]? = some c → Rd (okS σ) w c (f i j) := by
  obtain ⟨cs, e, fz, f, h1, h2, h3, h4, h5⟩ := h.ex
  exact ⟨f, ⟨h3, fun i x j c hx hc => by rw [add_at, cell_at h1, Nat.zero_add]; exact (h4 i x j c hx hc).1, fun i x j c hx hc => (h4 i x j c hx hc).2⟩, h5⟩
theorem load_ok {P : Program} {T : World → Prop} {base : Bs T} {σ : Sg} {w : World} {hp : HP} (hH : HR base σ w hp) {t : TypeId} {a y : AV} {v : Value} (ha : VR σ w a v) (hy : load P hp t a = some y) :
    ∃ u, (Instr.loadAt t v).run P w = .ok u w ∧ VR σ w y u := by
  unfold load at hy
  split at hy
  · rename_i b sz i j
    cases ha with
    | ptr _ _ _ _ k hk hks =>
      obtain ⟨_, _, z, h1, h2⟩ := hH.blk b k hk
      rw [h1] at hy
      cases z with
      | row sz' l =>
        obtain ⟨g1, g2, g3⟩ := h2
        obtain ⟨f, hrow, hrd⟩ := g3.at
        simp only [Option.bind_eq_some_iff, Option.map_eq_some_iff] at hy
        obtain ⟨e, he, x, hx, rfl⟩ := hy
        obtain ⟨u, h3, h4⟩ := row_load ⟨k.k, 0, none⟩ f he hx hrow hrd
        rw [add_at, Nat.zero_add, ← g1, hks] at h3
        exact ⟨u, by simpa [Instr.loadAt, Instr.sureAddr] using h3, h4⟩
      | iter s p => cases hy
      | map kc vc l => cases hy
      | vars l =>
        obtain ⟨cs, e, fz, g1, g2, g3, g4⟩ := h2.2.ex
        simp only at hy
        split at hy
        · rename_i hi
          subst hi
          obtain ⟨u, hu, hp⟩ := loadAV_val (σ := σ) (w := w) (vs := cs.toList) (by simpa using g3) (fun j a v ha hv => g4 j a v ha (by simpa using hv)) hy
          refine ⟨u, ?_, hu⟩
          have := hp.run_loadVar (w := w) (a := ⟨k.k, 0, none⟩) fun i u hu => by rw [add_at, cell_at g1]; simpa using hu
          rw [add_at] at this
          simpa [Instr.loadAt, Instr.sureAddr] using this
        · cases hy
  · rename_i sz l i j
    cases ha with
    | eptr _ _ _ _ a f hok hlt hrow hrd =>
      simp only [Option.bind_eq_some_iff, Option.map_eq_some_iff] at hy
      obtain ⟨e, he, x, hx, rfl⟩ := hy
      obtain ⟨u, h1, h2⟩ := row_load a f he hx hrow hrd
      exact ⟨u, by simpa [Instr.loadAt, Instr.sureAddr] using h1, h2⟩
  · cases hy

/-! ### Fields, elements -/
theorem fieldOf_some {P : Program} {s : TypeId} {f : Nat} {fd : Field} (h : fieldOf P s f = some fd) : ∃ fs, P.underlying s = some (.struct fs) ∧ fs[f]? = some fd := by
  unfold fieldOf at h
  split at h
  · rename_i fs hu; exact ⟨fs, hu, h⟩
  · cases h
theorem elemT_some {P : Program} {t e : TypeId} (h : elemT P t = some e) : P.underlying t = some (.slice e) := by
  unfold elemT at h
  split at h
  · rename_i hu; cases h; exact hu
  · cases h
theorem fieldAddr_ok {P : Program} {σ : Sg} {w : World} {s : TypeId} {f : Nat} {a y : AV} {v : Value} (ha : VR σ w a v) (hy : fieldAddr P s f a = some y) :
    ∃ u, (Instr.fieldAt s v f).run P w = .ok u w ∧ VR σ w y u := by
  simp only [fieldAddr, Option.bind_eq_some_iff] at hy
  obtain ⟨fd, hf, hy⟩ := hy
  obtain ⟨fs, hu, hfd⟩ := fieldOf_some hf
  split at hy
  · rename_i n hs
    split at hy
    · rename_i b sz i j
      cases hy
      cases ha with
      | ptr _ _ _ _ k hk hks =>
        refine ⟨.pointer (some ⟨k.k, i * sz + (j + fd.offset), none⟩), ?_, .ptr b sz i _ k hk hks⟩
        simp [Instr.fieldAt, run_und hu, hfd, Instr.sureAddr, fieldPlace, run_size hs, add_at, Nat.add_assoc]
    · rename_i sz l i j
      cases hy
      cases ha with
      | eptr _ _ _ _ a g hok hlt hrow hrd =>
        refine ⟨.pointer (some (a.add (i * sz + (j + fd.offset)))), ?_, .eptr sz l i _ a g hok hlt hrow hrd⟩
        simp [Instr.fieldAt, run_und hu, hfd, Instr.sureAddr, fieldPlace, run_size hs, Addr.add_add, Nat.add_assoc]
    · cases hy
  · cases hy
theorem VR.agg_list {σ : Sg} {w : World} {l : List PV} {v : Value} (h : VR σ w (.p (.agg l)) v) : ∃ vs : List Value, v = .agg vs.toArray ∧ vs.length = l.length ∧ ∀ (j : Nat) (a : AV) (u : Value), (l.map AV.p)[j]? = some a → vs[j]? = some u → VR σ w a u := by
  cases h with
  | p _ _ h =>
    cases h with
    | agg _ vs hl hv =>
      refine ⟨vs, rfl, hl, fun j a u ha hu => ?_⟩
      simp only [List.getElem?_map, Option.map_eq_some_iff] at ha
      obtain ⟨c, hc, rfl⟩ := ha
      exact .p _ _ (hv j c u hc hu)
theorem field_ok {P : Program} {σ : Sg} {w : World} {s : TypeId} {f : Nat} {a y : AV} {v : Value} (ha : VR σ w a v) (hy : field P s f a = some y) :
    ∃ u, (Instr.field s v f).run P w = .ok u w ∧ VR σ w y u := by
  simp only [field, Option.bind_eq_some_iff] at hy
  obtain ⟨fd, hf, hy⟩ := hy
  obtain ⟨fs, hu, hfd⟩ := fieldOf_some hf
  split at hy
  · obtain ⟨vs, rfl, hl, hv⟩ := ha.agg_list
    obtain ⟨u, h1, h2⟩ := loadAV_val (σ := σ) (w := w) (vs := vs) (by simpa using hl) hv hy
    exact ⟨u, by simp [Instr.field, run_und hu, hfd, asAgg, h2.run_part], h1⟩
  · cases ha with
    | agg _ vs hl hv =>
      obtain ⟨u, h1, h2⟩ := loadAV_val hl hv hy
      exact ⟨u, by simp [Instr.field, run_und hu, hfd, asAgg, h2.run_part], h1⟩
  · cases hy
theorem VR.int {σ : Sg} {w : World} {a : AV} {v : Value} {i : IntKind × Int} (h : VR σ w a v) (ha : asI a = some i) (P : Program) (w' : World) : (asIntOf v).run P w' = .ok i w' := by
  rw [asI_ok h ha]; rfl
theorem indexAddr_ok {P : Program} {σ : Sg} {w : World} {t : TypeId} {x ix y : AV} {v vi : Value} (hx : VR σ w x v) (hi : VR σ w ix vi) (hy : indexAddr P t x ix = some y) :
    ∃ u, (Instr.indexAt t v vi).run P w = .ok u w ∧ VR σ w y u := by
  simp only [indexAddr, Option.bind_eq_some_iff] at hy
  obtain ⟨e, he, n, hn, i, hi', hy⟩ := hy
  have hu := elemT_some he
  rw [asI_ok hi hi']
  split at hy
  · rename_i sz l
    split at hy
    · rename_i hc
      obtain ⟨h1, h2, h3, h4⟩ := hc
      cases hy
      cases hx with
      | p _ _ hx =>
        cases hx with
        | nil => simp at h4; omega
        | sl _ _ a cap f hok hlt hcap hrow hrd =>
          refine ⟨.pointer (some (a.add (i.2.toNat * sz + 0))), ?_, .eptr sz l _ 0 a f hok hlt hrow hrd⟩
          simp [Instr.indexAt, asIntOf, run_und hu, h3, h4, run_size hn, h1]
    · cases hy
  · rename_i b sz i0 len full
    split at hy
    · rename_i hc
      obtain ⟨h1, h2, h3, h4⟩ := hc
      cases hy
      cases hx with
      | sl _ _ _ _ k cap o _ hk hks hl ho hn' hf hr =>
        have ho := ho (by omega)
        refine ⟨.pointer (some ⟨k.k, (i0 + i.2.toNat) * sz + 0, none⟩), ?_, .ptr b sz _ 0 k hk hks⟩
        simp [Instr.indexAt, asIntOf, run_und hu, h3, h4, run_size hn, h1, add_at, Nat.add_mul, ho]
      | slnil => omega
    · cases hy
  · cases hy
theorem index_ok {P : Program} {σ : Sg} {w : World} {t : TypeId} {x ix y : AV} {v vi : Value} (hx : VR σ w x v) (hi : VR σ w ix vi) (hy : index P t x ix = some y) :
    ∃ u, (Instr.index t v vi).run P w = .ok u w ∧ VR σ w y u := by
  simp only [index, Option.bind_eq_some_iff] at hy
  obtain ⟨i, hi', hy⟩ := hy
  rw [asI_ok hi hi']
  split at hy
  · rename_i s hu
    split at hy
    · rename_i h0
      simp only [Option.map_eq_some_iff] at hy
      obtain ⟨b, hb, rfl⟩ := hy
      cases hx with
      | p _ _ hx =>
        cases hx
        exact ⟨.int .u8 b.toNat, by simp [Instr.index, asIntOf, run_und hu, h0, hb], VR.lit _ _ _⟩
    · cases hy
  · rename_i n e l hu
    split at hy
    · rename_i h0
      simp only [Option.bind_eq_some_iff] at hy
      obtain ⟨s, hs, hy⟩ := hy
      obtain ⟨vs, rfl, hl, hv⟩ := hx.agg_list
      obtain ⟨u, h1, h2⟩ := loadAV_val (σ := σ) (w := w) (vs := vs) (by simpa using hl) hv hy
      exact ⟨u, by simp [Instr.index, asIntOf, run_und hu, h0, run_size hs, h2.run_part], h1⟩
    · cases hy
  · cases hy
end Go.Proofs.YtalfnpdgajfkiaaDoor.Ax
