/- 'Ax', part 7: operations one by one: slices, lengths, literals, new rows. -/
import Derived.Test.YtalfnpdgajfkiaaDoorAx6
import Derived.Laws.MakeOwn
set_option linter.unusedVariables false
set_option linter.unusedSimpArgs false
namespace Go.Proofs.YtalfnpdgajfkiaaDoor.Ax
open Go

theorem bound_ok {P : Program} {σ : Sg} {w : World} {tm : TM} {vs : Array Value} {ds : List Deferred} (hT : TR σ w tm vs) {d y k : Nat} {o : Option Operand} (h : bound tm d y o = some k) :
    (o = none ∧ k = d) ∨ (∃ x, o = some x ∧ k ≤ y ∧ ∀ (y' : Nat) (c : BoundsCode) (w' : World), y ≤ y' → (Instr.sliceBound ((⟨vs, ds⟩ : Act).eval x) y' c).run P w' = .ok k w') := by
  cases o with
  | none => simp only [bound, Option.some.injEq] at h; exact .inl ⟨rfl, h.symm⟩
  | some x =>
    simp only [bound, Option.bind_eq_some_iff] at h
    obtain ⟨i, ⟨a, ha, hi⟩, h⟩ := h
    split at h
    · rename_i hb
      cases h
      refine .inr ⟨x, rfl, by omega, fun y' c w' hy => ?_⟩
      rw [asI_ok (ev_ok hT ha) hi]
      exact run_sliceBound w' _ _ _ _ hb.1 (by omega)
    · cases h
theorem bounds2_ok {P : Program} {σ : Sg} {w : World} {tm : TM} {vs : Array Value} {ds : List Deferred} (hT : TR σ w tm vs) {len cap h k : Nat} {lo hi : Option Operand} (hc : len ≤ cap) (hh : bound tm len len hi = some h) (hk : bound tm 0 h lo = some k) (isS : Bool) :
    (Instr.sliceBounds isS len cap (lo.map (⟨vs, ds⟩ : Act).eval) (hi.map (⟨vs, ds⟩ : Act).eval) none).run P w = .ok (k, h, cap) w ∧ k ≤ h ∧ h ≤ len := by
  rcases bound_ok (P := P) (ds := ds) hT hh with ⟨rfl, rfl⟩ | ⟨x, rfl, h1, h2⟩ <;> rcases bound_ok (P := P) (ds := ds) hT hk with ⟨rfl, rfl⟩ | ⟨z, rfl, h3, h4⟩
  · exact ⟨by simp [Instr.sliceBounds], by omega, by omega⟩
  · exact ⟨by simp [Instr.sliceBounds, h4], by omega, by omega⟩
  · exact ⟨by simp [Instr.sliceBounds, h2 _ _ _ hc], by omega, by omega⟩
  · exact ⟨by simp [Instr.sliceBounds, h2 _ _ _ hc, h4], by omega, by omega⟩
theorem bounds3_ok {P : Program} {σ : Sg} {w : World} {tm : TM} {vs : Array Value} {ds : List Deferred} (hT : TR σ w tm vs) {len cap m h k : Nat} {lo hi mx : Option Operand} (hs : hi.isSome = true) (hms : mx.isSome = true) (hc : len ≤ cap)
    (hm : bound tm len len mx = some m) (hh : bound tm m m hi = some h) (hk : bound tm 0 h lo = some k) :
    (Instr.sliceBounds true len cap (lo.map (⟨vs, ds⟩ : Act).eval) (hi.map (⟨vs, ds⟩ : Act).eval) (mx.map (⟨vs, ds⟩ : Act).eval)).run P w = .ok (k, h, m) w ∧ k ≤ h ∧ h ≤ m ∧ m ≤ len := by
  rcases bound_ok (P := P) (ds := ds) hT hm with ⟨rfl, rfl⟩ | ⟨u, rfl, h5, h6⟩
  · cases hms
  rcases bound_ok (P := P) (ds := ds) hT hh with ⟨rfl, rfl⟩ | ⟨x, rfl, h1, h2⟩
  · cases hs
  rcases bound_ok (P := P) (ds := ds) hT hk with ⟨rfl, rfl⟩ | ⟨z, rfl, h3, h4⟩
  · exact ⟨by simp [Instr.sliceBounds, h6 _ _ _ hc, h2], by omega, by omega, by omega⟩
  · exact ⟨by simp [Instr.sliceBounds, h6 _ _ _ hc, h2, h4], by omega, by omega, by omega⟩
theorem sliceAt_not {P : Program} {t : TypeId} {d : TypeDesc} (hu : P.underlying t = some d) (hd : ∀ n e, d ≠ .array n e) (x : Value) (lo hi mx : Option Value) (w : World) : (Instr.sliceAt t x lo hi mx).run P w = (Instr.slice t x lo hi mx).run P w := by
  unfold Instr.sliceAt
  rw [Sem.run_bind, run_und hu]
  cases d <;> first | rfl | exact absurd rfl (hd _ _)
theorem drop_take_at {α : Type} {l : List α} {h k i : Nat} {e : α} (he : ((l.take h).drop k)[i]? = some e) : l[k + i]? = some e := by
  rw [List.getElem?_drop, List.getElem?_take] at he
  split at he
  · exact he
  · cases he
theorem Rd.cut {ok : Nat → Prop} {w : World} {sz : Nat} {l : List PV} {a : Addr} {cap : Nat} {f : Nat → Nat → Value} (hok : ok a.block) (hlt : a.block < w.heap.size) (hcap : l.length ≤ cap)
      (hrow : RowAt w sz l a f) (hrd : ∀ (i : Nat) (e : PV) (j : Nat) (c : PV), l[i]? = some e → (cellsOf e)[j]? = some c → Rd ok w c (f i j)) {h k : Nat} (hk : k ≤ h) (hh : h ≤ l.length) :
    Rd ok w (.sl sz ((l.take h).drop k)) (.slice (some (if cap = k then a else a.add (k * sz))) (h - k) (cap - k)) := by
  have hlen : ((l.take h).drop k).length = h - k := by simp; omega
  have := Rd.sl (ok := ok) (w := w) sz ((l.take h).drop k) (if cap = k then a else a.add (k * sz)) (cap - k) (fun i j => f (k + i) j) (by split; exact hok; rw [Addr.block_add]; exact hok) (by split; exact hlt; rw [Addr.block_add]; exact hlt) (by omega)
    ⟨fun i e he => hrow.len _ e (drop_take_at he), fun i e j c he hc => by
      have h1 := drop_take_at he
      have h2 : i < ((l.take h).drop k).length := (List.getElem?_eq_some_iff.1 he).1
      rw [if_neg (by omega), Addr.add_add, ← hrow.cell _ e j c h1 hc]
      congr 2
      rw [Nat.add_mul]; omega, fun i e j c he hc => hrow.one _ e j c (drop_take_at he) hc⟩ fun i e j c he hc => hrd _ e j c (drop_take_at he) hc
  rwa [hlen] at this
theorem slice_ok {P : Program} {σ : Sg} {w : World} {tm : TM} {vs : Array Value} {ds : List Deferred} (hT : TR σ w tm vs) {t : TypeId} {x y : AV} {lo hi mx : Option Operand} {v : Value} (hx : VR σ w x v) (h : slice P tm t x lo hi mx = some y) :
    ∃ u, (Instr.sliceAt t v (lo.map (⟨vs, ds⟩ : Act).eval) (hi.map (⟨vs, ds⟩ : Act).eval) (mx.map (⟨vs, ds⟩ : Act).eval)).run P w = .ok u w ∧ VR σ w y u := by
  unfold slice at h
  split at h
  · cases h
  rename_i hmh
  split at h
  · rename_i s hu
    split at h
    · cases h
    · rename_i hm
      simp only [Option.bind_eq_some_iff, Option.map_eq_some_iff] at h
      obtain ⟨h', hh, k, hk, rfl⟩ := h
      have hm : mx = none := by simpa using hm
      subst hm
      obtain ⟨h1, h2, h3⟩ := bounds2_ok (P := P) (ds := ds) hT (Nat.le_refl _) hh hk false
      rw [hx.litEq, sliceAt_not hu (by simp)]
      exact ⟨_, by simp [Instr.slice, run_und hu, h1], VR.lit _ _ _⟩
  · rename_i e hu
    simp only [Option.bind_eq_some_iff, Option.map_eq_some_iff] at h
    obtain ⟨n, hn, m, hm, h', hh, k, hk, rfl⟩ := h
    rw [hx.litEq, sliceAt_not hu (by simp)]
    cases mx with
    | none =>
      simp only [bound, Option.some.injEq] at hm
      subst hm
      obtain ⟨h1, h2, h3⟩ := bounds2_ok (P := P) (ds := ds) hT (Nat.le_refl _) hh hk true
      have e1 : h' = 0 := by omega
      have e2 : k = 0 := by omega
      subst e1; subst e2
      exact ⟨_, by simp [Instr.slice, run_und hu, h1, run_size hn], VR.lit _ _ _⟩
    | some mo =>
      obtain ⟨h1, h2, h3, h4⟩ := bounds3_ok (P := P) (ds := ds) hT (by cases hi with | none => simp at hmh | some _ => rfl) rfl (Nat.le_refl _) hm hh hk
      have e1 : h' = 0 := by omega
      have e2 : k = 0 := by omega
      have e3 : m = 0 := by omega
      subst e1; subst e2; subst e3
      exact ⟨_, by simp only [Instr.slice, Sem.run_bind, run_und hu, Result.andThen_ok, h1, run_size hn]; rfl, VR.lit _ _ _⟩
  · rename_i e sz l hu
    simp only [Option.bind_eq_some_iff] at h
    obtain ⟨n, hn, h⟩ := h
    split at h
    · cases h
    rename_i hsz
    have hsz : sz = n := by simpa using hsz
    subst hsz
    cases mx with
    | some mo => cases h
    | none =>
      simp only [Option.bind_eq_some_iff, Option.map_eq_some_iff] at h
      obtain ⟨h', hh, k, hk, rfl⟩ := h
      rw [sliceAt_not hu (by simp)]
      cases hx with
      | p _ _ hx =>
        cases hx with
        | nil =>
          obtain ⟨h1, h2, h3⟩ := bounds2_ok (P := P) (ds := ds) hT (Nat.le_refl 0) hh hk true
          have e1 : h' = 0 := by simpa using h3
          have e2 : k = 0 := by omega
          subst e1; subst e2
          exact ⟨.slice none 0 0, by simp [Instr.slice, run_und hu, h1, run_size hn], .p _ _ (by simpa using Rd.nil sz)⟩
        | sl _ _ a cap f hok hlt hcap hrow hrd =>
          obtain ⟨h1, h2, h3⟩ := bounds2_ok (P := P) (ds := ds) hT hcap hh hk true
          refine ⟨_, ?_, .p _ _ (Rd.cut hok hlt hcap hrow hrd h2 h3)⟩
          simp [Instr.slice, run_und hu, h1, run_size hn]
          split <;> rfl
  · rename_i e b sz i n full hu
    simp only [Option.bind_eq_some_iff] at h
    obtain ⟨s, hs, h⟩ := h
    split at h
    · cases h
    rename_i hsz
    have hsz : sz = s := by simpa using hsz
    subst hsz
    rw [sliceAt_not hu (by simp)]
    cases mx with
    | none =>
      simp only at h
      split at h
      · cases h
      rename_i hfull
      simp only [Option.bind_eq_some_iff, Option.map_eq_some_iff] at h
      obtain ⟨h', hh, k, hk, rfl⟩ := h
      cases hx with
      | sl _ _ _ _ kb cap o _ hσ hks hl ho hn hf hr =>
        obtain ⟨h1, h2, h3⟩ := bounds2_ok (P := P) (ds := ds) hT hn hh hk true
        refine ⟨.slice (some ⟨kb.k, if cap = k then o else o + k * sz, none⟩) (h' - k) (cap - k), ?_, .sl b sz (i + k) (h' - k) kb (cap - k) _ full hσ hks (by omega) (fun hc => ?_) (by omega) (fun hf' => ?_) (fun hf' => ?_)⟩
        · simp [Instr.slice, run_und hu, h1, run_size hs]
          split <;> simp [add_at]
        · rw [if_neg (by omega), ho (by omega), Nat.add_mul]
        · have := hf hf'
          have : h' = n := by
            cases hi with
            | none => simpa [bound] using hh.symm
            | some q => subst hf'; simp at hfull
          omega
        · obtain ⟨cs, e', fz, hc1, hc2⟩ := hr hf'
          exact ⟨cs, e', fz, hc1, by rw [hc2]; congr 1; omega⟩
      | slnil =>
        obtain ⟨h1, h2, h3⟩ := bounds2_ok (P := P) (ds := ds) hT (Nat.le_refl _) hh hk true
        have e1 : h' = 0 := by omega
        have e2 : k = 0 := by omega
        subst e1; subst e2
        exact ⟨_, by simp only [Instr.slice, Sem.run_bind, run_und hu, Option.map_none, Result.andThen_ok, h1, run_size hs]; rfl, .slnil _ _ _ ‹_›⟩
    | some mo =>
      simp only [Option.bind_eq_some_iff] at h
      obtain ⟨m, hm, h', hh, h⟩ := h
      split at h
      · rename_i hhm
        subst hhm
        simp only [Option.map_eq_some_iff] at h
        obtain ⟨k, hk, rfl⟩ := h
        cases hx with
        | sl _ _ _ _ kb cap o _ hσ hks hl ho hn hf hr =>
          obtain ⟨h1, h2, h3, h4⟩ := bounds3_ok (P := P) (ds := ds) hT (by cases hi with | none => simp at hmh | some _ => rfl) rfl hn hm hh hk
          refine ⟨.slice (some ⟨kb.k, if h' = k then o else o + k * sz, none⟩) (h' - k) (h' - k), ?_, .sl b sz (i + k) (h' - k) kb (h' - k) _ true hσ hks (by omega) (fun hc => ?_) (by omega) (fun _ => rfl) (fun hf' => by cases hf')⟩
          · simp only [Instr.slice, Sem.run_bind, run_und hu, Result.andThen_ok, h1, run_size hs]
            split <;> simp [add_at]
          · rw [if_neg (by omega), ho (by omega), Nat.add_mul]
        | slnil =>
          obtain ⟨h1, h2, h3, h4⟩ := bounds3_ok (P := P) (ds := ds) hT (by cases hi with | none => simp at hmh | some _ => rfl) rfl (Nat.le_refl _) hm hh hk
          have e1 : h' = 0 := by omega
          have e2 : k = 0 := by omega
          subst e1; subst e2
          exact ⟨_, by simp only [Instr.slice, Sem.run_bind, run_und hu, Result.andThen_ok, h1, run_size hs]; rfl, .slnil _ _ _ ‹_›⟩
      · cases h
  · cases h
theorem lenAV_ok {P : Program} {σ : Sg} {w : World} {t ty : TypeId} {ts : Array TypeId} {x : AV} {v : Value} {n : Nat} (ht : ts[0]? = some t) (hx : VR σ w x v) (h : lenAV P t x = some n) : (Builtin.len_ ts ty #[v]).run P w = .ok (.int .i64 n) w := by
  unfold lenAV at h
  split at h
  · rename_i hu; cases h; rw [hx.litEq]; simp [Builtin.len_, ht, run_und hu, goInt]
  · rename_i hu; cases h; rw [hx.litEq]; simp [Builtin.len_, ht, run_und hu, goInt]
  · rename_i hu; cases h
    cases hx with | p _ _ hx => cases hx <;> simp [Builtin.len_, ht, run_und hu, goInt]
  · rename_i hu; cases h
    cases hx <;> simp [Builtin.len_, ht, run_und hu, goInt]
  · rename_i hu; cases h; simp [Builtin.len_, ht, run_und hu, goInt]
  · cases h
end Go.Proofs.YtalfnpdgajfkiaaDoor.Ax
