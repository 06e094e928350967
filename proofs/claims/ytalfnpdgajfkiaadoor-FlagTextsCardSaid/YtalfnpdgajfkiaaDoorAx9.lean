/- 'Ax', part 9: rows as flat lists of cells; what a value is as pure data; literals of slices, 'make'. -/
import Derived.Test.YtalfnpdgajfkiaaDoorAx8
set_option linter.unusedVariables false
set_option linter.unusedSimpArgs false
namespace Go.Proofs.YtalfnpdgajfkiaaDoor.Ax
open Go

def flat : List PV → List PV
  | [] => []
  | e :: r => cellsOf e ++ flat r
theorem flat_append (l m : List PV) : flat (l ++ m) = flat l ++ flat m := by
  induction l with
  | nil => rfl
  | cons x r ih => simp [flat, ih]
def Wide (n : Nat) (l : List PV) : Prop := ∀ (i : Nat) (e : PV), l[i]? = some e → (cellsOf e).length = n
theorem Wide.tail {n : Nat} {e : PV} {l : List PV} (h : Wide n (e :: l)) : Wide n l := fun i x hx => h (i + 1) x (by simpa using hx)
theorem Wide.head {n : Nat} {e : PV} {l : List PV} (h : Wide n (e :: l)) : (cellsOf e).length = n := h 0 e rfl
theorem Wide.of_mem {n : Nat} {l : List PV} (h : ∀ e, e ∈ l → (cellsOf e).length = n) : Wide n l := fun i e he => h e (List.mem_of_getElem? he)
theorem Wide.mem {n : Nat} {l : List PV} (h : Wide n l) {e : PV} (he : e ∈ l) : (cellsOf e).length = n := by
  obtain ⟨i, hi⟩ := List.getElem?_of_mem he
  exact h i e hi
theorem flat_length {n : Nat} {l : List PV} (h : Wide n l) : (flat l).length = l.length * n := by
  induction l with
  | nil => simp [flat]
  | cons x r ih => simp only [flat, List.length_append, h.head, ih h.tail, List.length_cons, Nat.succ_mul]; omega
theorem flat_get {n : Nat} {l : List PV} (h : Wide n l) {i : Nat} {e : PV} {j : Nat} {c : PV} (he : l[i]? = some e) (hc : (cellsOf e)[j]? = some c) : (flat l)[i * n + j]? = some c := by
  induction l generalizing i with
  | nil => simp at he
  | cons x r ih =>
    have hj : j < (cellsOf e).length := (List.getElem?_eq_some_iff.1 hc).1
    cases i with
    | zero =>
      simp at he; subst he
      simp only [flat, Nat.zero_mul, Nat.zero_add]
      rw [List.getElem?_append_left hj]; exact hc
    | succ i =>
      simp only [flat]
      rw [List.getElem?_append_right (by rw [h.head, Nat.succ_mul]; omega), h.head, show (i + 1) * n + j - n = i * n + j by rw [Nat.succ_mul]; omega]
      exact ih h.tail (by simpa using he)
theorem flat_at {n : Nat} (hn : 0 < n) {l : List PV} (h : Wide n l) {p : Nat} {c : PV} (hp : (flat l)[p]? = some c) : ∃ e, l[p / n]? = some e ∧ (cellsOf e)[p % n]? = some c := by
  have hlt : p < l.length * n := by rw [← flat_length h]; exact (List.getElem?_eq_some_iff.1 hp).1
  have h1 : p / n < l.length := by rw [Nat.div_lt_iff_lt_mul hn]; exact hlt
  refine ⟨l[p / n], List.getElem?_eq_getElem h1, ?_⟩
  have h2 : p % n < (cellsOf l[p / n]).length := by rw [h _ _ (List.getElem?_eq_getElem h1)]; exact Nat.mod_lt _ hn
  have h3 := flat_get h (List.getElem?_eq_getElem h1) (List.getElem?_eq_getElem h2)
  rw [show p / n * n + p % n = p by rw [Nat.mul_comm]; exact Nat.div_add_mod p n, hp] at h3
  rw [List.getElem?_eq_getElem h2]; exact h3.symm
/-- Cells that are read as pure data. -/
abbrev CR (ok : Nat → Prop) (w : World) (c : PV) (u : Value) : Prop := Rd ok w c u ∧ u.oneCell' = true
theorem RowBlk.of_flat {σ : Sg} {w : World} {n : Nat} {l : List PV} {k : Nat} (hl : Wide n l) {cs : Array Value} {e : TypeId} (hk : w.heap[k]? = some (.cells cs e (0, 0))) {us : List Value} (hp : PW (CR (okS σ) w) (flat l) us) (hu : ∀ (p : Nat) (u : Value), us[p]? = some u → cs[p]? = some u) : RowBlk σ w n l k := by
  have key : ∀ (i : Nat) (x : PV) (j : Nat) (c : PV), l[i]? = some x → (cellsOf x)[j]? = some c → ∃ u, us[i * n + j]? = some u ∧ cs[i * n + j]? = some u ∧ CR (okS σ) w c u := fun i x j c hx hc => by
    have h1 := flat_get hl hx hc
    have h2 : i * n + j < us.length := by rw [hp.len]; exact (List.getElem?_eq_some_iff.1 h1).1
    exact ⟨us[i * n + j], List.getElem?_eq_getElem h2, hu _ _ (List.getElem?_eq_getElem h2), hp.at_ _ _ _ h1 (List.getElem?_eq_getElem h2)⟩
  refine ⟨cs, e, (0, 0), fun i j => us.getD (i * n + j) undef, hk, rfl, hl, fun i x j c hx hc => ?_, fun i x j c hx hc => ?_⟩
  · obtain ⟨u, h1, h2, h3⟩ := key i x j c hx hc
    simp only [List.getD_eq_getElem?_getD, h1, Option.getD_some]
    exact ⟨h2, h3.2⟩
  · obtain ⟨u, h1, h2, h3⟩ := key i x j c hx hc
    simp only [List.getD_eq_getElem?_getD, h1, Option.getD_some]
    exact h3.1
/-- The cells of a row, as a flat list. -/
theorem RowAt.flat {ok : Nat → Prop} {w : World} {n : Nat} (hn : 0 < n) {l : List PV} {a : Addr} {f : Nat → Nat → Value} (h : RowAt w n l a f)
    (hrd : ∀ (i : Nat) (e : PV) (j : Nat) (c : PV), l[i]? = some e → (cellsOf e)[j]? = some c → Rd ok w c (f i j)) : ∃ us : List Value, PW (CR ok w) (flat l) us ∧ us.length = l.length * n ∧ ∀ (p : Nat) (u : Value), us[p]? = some u → w.cell? (a.add p) = some u := by
  have hl : Wide n l := h.len
  have hdm : ∀ p, p / n * n + p % n = p := fun p => by rw [Nat.mul_comm]; exact Nat.div_add_mod p n
  refine ⟨(List.range (l.length * n)).map fun p => f (p / n) (p % n), ⟨by simp [flat_length hl], fun p c u hc hu => ?_⟩, by simp, fun p u hu => ?_⟩
  · obtain ⟨e, h1, h2⟩ := flat_at hn hl hc
    simp only [List.getElem?_map, Option.map_eq_some_iff] at hu
    obtain ⟨q, hq, rfl⟩ := hu
    have : q = p := by
      have := List.getElem?_eq_some_iff.1 hq
      obtain ⟨_, h⟩ := this
      simpa using h.symm
    subst this
    exact ⟨hrd _ _ _ _ h1 h2, h.one _ _ _ _ h1 h2⟩
  · simp only [List.getElem?_map, Option.map_eq_some_iff] at hu
    obtain ⟨q, hq, rfl⟩ := hu
    obtain ⟨hlt, h'⟩ := List.getElem?_eq_some_iff.1 hq
    have : q = p := by simpa using h'.symm
    subst this
    have hlt : q < (Ax.flat l).length := by rw [flat_length hl]; simpa using hlt
    obtain ⟨e, h1, h2⟩ := flat_at hn hl (List.getElem?_eq_getElem hlt)
    have := h.cell _ _ _ _ h1 h2
    rwa [hdm] at this

/-! ### Pure data of a value -/
theorem RowAt.sub {w : World} {sz : Nat} {l : List PV} {k i n o : Nat} {f : Nat → Nat → Value} (h : RowAt w sz l ⟨k, 0, none⟩ f) (ho : 0 < n → o = i * sz) : RowAt w sz ((l.drop i).take n) ⟨k, o, none⟩ (fun p j => f (i + p) j) := by
  have hat : ∀ (p : Nat) (e : PV), ((l.drop i).take n)[p]? = some e → l[i + p]? = some e ∧ 0 < n := fun p e he => by
    rw [List.getElem?_take] at he
    split at he
    · rw [List.getElem?_drop] at he; exact ⟨he, by omega⟩
    · cases he
  refine ⟨fun p e he => h.len _ e (hat p e he).1, fun p e j c he hc => ?_, fun p e j c he hc => h.one _ e j c (hat p e he).1 hc⟩
  obtain ⟨h1, h2⟩ := hat p e he
  rw [← h.cell _ e j c h1 hc, add_at, add_at, ho h2, Nat.add_mul]
  congr 2
  omega
theorem take_drop_at {α : Type} {l : List α} {i n p : Nat} {e : α} (he : ((l.drop i).take n)[p]? = some e) : l[i + p]? = some e := by
  rw [List.getElem?_take] at he
  split at he
  · rw [List.getElem?_drop] at he; exact he
  · cases he
mutual
theorem pureAV_ok {T : World → Prop} {base : Bs T} {σ : Sg} {w : World} {hp : HP} {ok : Nat → Prop} (hH : HR base σ w hp) (hok : ∀ k, okS σ k → ok k) : ∀ (a : AV) (x : PV) (v : Value), pureAV hp a = some x → VR σ w a v → (∀ b k, b ∈ rowsIn a → σ b = some (some k) → ok k.k) → Rd ok w x v
  | .p y, x, v, h, hv, _ => by
    simp only [pureAV, Option.some.injEq] at h; subst h
    cases hv with | p _ _ hv => exact hv.ext (Ext.refl _ _) fun k _ => hok k
  | .sl b sz i n full, x, v, h, hv, hr => by
    simp only [pureAV] at h
    cases hv with
    | sl _ _ _ _ k cap o _ hσ hks hl ho hn hf hrr =>
      obtain ⟨_, hlt, z, h1, h2⟩ := hH.blk b k hσ
      rw [h1] at h
      cases z with
      | vars l => cases h
      | iter s p => cases h
      | row s l =>
        simp only [Option.some.injEq] at h; subst h
        obtain ⟨g1, g2, g3⟩ := h2
        obtain ⟨f, hrow, hrd⟩ := g3.at
        have hlen : ((l.drop i).take n).length = n := by rw [List.length_take, List.length_drop]; omega
        have hs : s = sz := by omega
        subst hs
        have := Rd.sl (ok := ok) (w := w) s ((l.drop i).take n) ⟨k.k, o, none⟩ cap (fun p j => f (i + p) j) (hr b k (by simp [rowsIn]) hσ) hlt (by omega) (hrow.sub fun h0 => ho (by omega)) fun p e j c he hc => (hrd _ e j c (take_drop_at he) hc).ext (Ext.refl _ _) fun k _ => hok k
        rwa [hlen] at this
    | slnil _ _ _ hσ =>
      obtain ⟨s, h1⟩ := hH.nil b hσ
      rw [h1] at h
      simp only [Option.some.injEq] at h; subst h
      simpa using Rd.nil sz
  | .agg l, x, v, h, hv, hr => by
    simp only [pureAV, Option.map_eq_some_iff] at h
    obtain ⟨ps, hps, rfl⟩ := h
    cases hv with
    | agg _ vs hl hv =>
      have := pureAVs_ok hH hok l ps vs hps ⟨hl, hv⟩ (fun b k hb => hr b k (by simpa [rowsIn] using hb))
      exact .agg _ _ this.len this.at_
  | .fn f [], x, v, h, hv, _ => by
    simp only [pureAV, Option.some.injEq] at h; subst h
    cases hv with
    | fn _ _ vs hl _ =>
      have : vs = [] := List.eq_nil_of_length_eq_zero (by simpa using hl)
      subst this
      exact .lit _
  | .ptr .., _, _, h, _, _ | .eptr .., _, _, h, _, _ | .fn _ (_ :: _), _, _, h, _, _ | .tup .., _, _, h, _, _ | .iface .., _, _, h, _, _ | .son .., _, _, h, _, _ | .tsl .., _, _, h, _, _ | .dead, _, _, h, _, _ => by simp [pureAV] at h
theorem pureAVs_ok {T : World → Prop} {base : Bs T} {σ : Sg} {w : World} {hp : HP} {ok : Nat → Prop} (hH : HR base σ w hp) (hok : ∀ k, okS σ k → ok k) : ∀ (l : List AV) (xs : List PV) (vs : List Value), pureAVs hp l = some xs → PW (VR σ w) l vs → (∀ b k, b ∈ rowsIns l → σ b = some (some k) → ok k.k) → PW (Rd ok w) xs vs
  | [], xs, vs, h, hv, _ => by
    simp only [pureAVs, Option.some.injEq] at h; subst h
    exact ⟨by simpa using hv.len, fun j a v ha => by simp at ha⟩
  | a :: r, xs, vs, h, hv, hr => by
    simp only [pureAVs, Option.bind_eq_some_iff, Option.map_eq_some_iff] at h
    obtain ⟨x, hx, t, ht, rfl⟩ := h
    cases vs with
    | nil => exact absurd hv.len (by simp)
    | cons v vs =>
      have h1 := pureAV_ok hH hok a x v hx (hv.at_ 0 a v rfl rfl) (fun b k hb => hr b k (by simp [rowsIns, hb]))
      have h2 := pureAVs_ok hH hok r t vs ht ⟨by simpa using hv.len, fun j a v ha hv' => hv.at_ (j + 1) a v (by simpa using ha) (by simpa using hv')⟩ (fun b k hb => hr b k (by simp [rowsIns, hb]))
      refine ⟨by simpa using h2.len, fun j c u hc hu => ?_⟩
      cases j with
      | zero => simp at hc hu; subst hc; subst hu; exact h1
      | succ j => exact h2.at_ j c u (by simpa using hc) (by simpa using hu)
end
end Go.Proofs.YtalfnpdgajfkiaaDoor.Ax
