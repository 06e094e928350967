/- 'Ax', part 9: rows as flat lists of cells; what a value is as pure data; literals of slices, 'make'. -/
import Derived.Test.YtalfnpdgajfkiaaDoorAx7
set_option linter.unusedVariables false
set_option linter.unusedSimpArgs false
namespace Go.Proofs.YtalfnpdgajfkiaaDoor.Ax
open Go

def flat : List PV → List PV
  | [] => []
  | e :: r => cellsOf e ++ flat r
theorem flat_append (l m : List PV) : flat (l ++ m) = flat l ++ flat m := by
  induction l with
  | nil => rfl
  | cons x r ih => simp [flat, ih]
def Wide (n : Nat) (l : List PV) : Prop := ∀ (i : Nat) (e : PV), l[i]? = some e → (cellsOf e).length = n
theorem Wide.tail {n : Nat} {e : PV} {l : List PV} (h : Wide n (e :: l)) : Wide n l := fun i x hx => h (i + 1) x (by simpa using hx)
theorem Wide.head {n : Nat} {e : PV} {l : List PV} (h : Wide n (e :: l)) : (cellsOf e).length = n := h 0 e rfl
theorem Wide.of_mem {n : Nat} {l : List PV} (h : ∀ e, e ∈ l → (cellsOf e).length = n) : Wide n l := fun i e he => h e (List.mem_of_getElem? he)
theorem Wide.mem {n : Nat} {l : List PV} (h : Wide n l) {e : PV} (he : e ∈ l) : (cellsOf e).length = n := by
  obtain ⟨i, hi⟩ := List.getElem?_of_mem he
  exact h i e hi
theorem flat_length {n : Nat} {l : List PV} (h : Wide n l) : (flat l).length = l.length * n := by
  induction l with
  | nil => simp [flat]
  | cons x r ih => simp only [flat, List.length_append, h.head, ih h.tail, List.length_cons, Nat.succ_mul]; omega
theorem flat_get {n : Nat} {l : List PV} (h : Wide n l) {i : Nat} {e : PV} {j : Nat} {c : PV} (he : l[i]? = some e) (hc : (cellsOf e)[j]? = some c) : (flat l)[i * n + j]? = some c := by
  induction l generalizing i with
  | nil => simp at he
  | cons x r ih =>
    have hj : j < (cellsOf e).length := (List.getElem?_eq_some_iff.1 hc).1
    cases i with
    | zero =>
      simp at he; subst he
      simp only [flat, Nat.zero_mul, Nat.zero_add]
      rw [List.getElem?_append_left hj]; exact hc
    | succ i =>
      simp only [flat]
      rw [List.getElem?_append_right (by rw [h.head, Nat.succ_mul]; omega), h.head, show (i + 1) * n + j - n = i * n + j by rw [Nat.succ_mul]; omega]
      exact ih h.tail (by simpa using he)
theorem flat_at {n : Nat} (hn : 0 < n) {l : List PV} (h : Wide n l) {p : Nat} {c : PV} (hp : (flat l)[p]? = some c) : ∃ e, l[p / n]? = some e ∧ (cellsOf e)[p % n]? = some c := by
  have hlt : p < l.length * n := by rw [← flat_length h]; exact (List.getElem?_eq_some_iff.1 hp).1
  have h1 : p / n < l.length := by rw [Nat.div_lt_iff_lt_mul hn]; exact hlt
  refine ⟨l[p / n], List.getElem?_eq_getElem h1, ?_⟩
  have h2 : p % n < (cellsOf l[p / n]).length := by rw [h _ _ (List.getElem?_eq_getElem h1)]; exact Nat.mod_lt _ hn
  have h3 := flat_get h (List.getElem?_eq_getElem h1) (List.getElem?_eq_getElem h2)
  rw [show p / n * n + p % n = p by rw [Nat.mul_comm]; exact Nat.div_add_mod p n, hp] at h3
  rw [List.getElem?_eq_getElem h2]; exact h3.symm
/-- Cells that are read as pure data. -/
abbrev CR (ok : Nat → Prop) (w : World) (c : PV) (u : Value) : Prop := Rd ok w c u ∧ u.oneCell' = true
theorem RowBlk.of_flat {σ : Sg} {w : World} {n : Nat} {l : List PV} {k : Nat} (hl : Wide n l) {cs : Array Value} {e : TypeId} (hk : w.heap[k]? = some (.cells cs e (0, 0))) {us : List Value} (hp : PW (CR (okS σ) w) (flat l) us) (hu : ∀ (p : Nat) (u : Value), us[p]? = some u → cs[p]? = some u) : RowBlk σ w n l k := by
  have key : ∀ (i : Nat) (x : PV) (j : Nat) (c : PV), l[i]? = some x → (cellsOf x)[j]? = some c → ∃ u, us[i * n + j]? = some u ∧ cs[i * n + j]? = some u ∧ CR (okS σ) w c u := fun i x j c hx hc => by
    have h1 := flat_get hl hx hc
    have h2 : i * n + j < us.length := by rw [hp.len]; exact (List.getElem?_eq_some_iff.1 h1).1
    exact ⟨us[i * n + j], List.getElem?_eq_getElem h2, hu _ _ (List.getElem?_eq_getElem h2), hp.at_ _ _ _ h1 (List.getElem?_eq_getElem h2)⟩
  refine ⟨cs, e, (0, 0), fun i j => us.getD (i * n + j) undef, hk, rfl, hl, fun i x j c hx hc => ?_, fun i x j c hx hc => ?_⟩
  · obtain ⟨u, h1, h2, h3⟩ := key i x j c hx hc
    simp only [List.getD_eq_getElem?_getD, h1, Option.getD_some]
    exact ⟨h2, h3.2⟩
  · obtain ⟨u, h1, h2, h3⟩ := key i x j c hx hc
    simp only [List.getD_eq_getElem?_getD, h1, Option.getD_some]
    exact h3.1
/-- The cells of a row, as a flat list. -/
theorem RowAt.flat {ok : Nat → Prop} {w : World} {n : Nat} (hn : 0 < n) {l : List PV} {a : Addr} {f : Nat → Nat → Value} (h : RowAt w n l a f)
    (hrd : ∀ (i : Nat) (e : PV) (j : Nat) (c : PV), l[i]? = some e → (cellsOf e)[j]? = some c → Rd ok w c (f i j)) : ∃ us : List Value, PW (CR ok w) (flat l) us ∧ us.length = l.length * n ∧ ∀ (p : Nat) (u : Value), us[p]? = some u → w.cell? (a.add p) = some u := by
  have hl : Wide n l := h.len
  have hdm : ∀ p, p / n * n + p % n = p := fun p => by rw [Nat.mul_comm]; exact Nat.div_add_mod p n
  refine ⟨(List.range (l.length * n)).map fun p => f (p / n) (p % n), ⟨by simp [flat_length hl], fun p c u hc hu => ?_⟩, by simp, fun p u hu => ?_⟩
  · obtain ⟨e, h1, h2⟩ := flat_at hn hl hc
    simp only [List.getElem?_map, Option.map_eq_some_iff] at hu
    obtain ⟨q, hq, rfl⟩ := hu
    have : q = p := by
      have := List.getElem?_eq_some_iff.1 hq
      obtain ⟨_, h⟩ := this
      simpa using h.symm
    subst this
    exact ⟨hrd _ _ _ _ h1 h2, h.one _ _ _ _ h1 h2⟩
  · simp only [List.getElem?_map, Option.map_eq_some_iff] at hu
    obtain ⟨q, hq, rfl⟩ := hu
    obtain ⟨hlt, h'⟩ := List.getElem?_eq_some_iff.1 hq
    have : q = p := by simpa using h'.symm
    subst this
    have hlt : q < (Ax.flat l).length := by rw [flat_length hl]; simpa using hlt
    obtain ⟨e, h1, h2⟩ := flat_at hn hl (List.getElem?_eq_getElem hlt)
    have := h.cell _ _ _ _ h1 h2
    rwa [hdm] at this

/-! ### Pure data of a value -/
theorem RowAt.sub {w : World} {sz : Nat} {l : List PV} {k i n o : Nat} {f : Nat → Nat → Value} (h : RowAt w sz l ⟨k, 0, none⟩ f) (ho : 0 < n → o = i * sz) : RowAt w sz ((l.drop i).take n) ⟨k, o, none⟩ (fun p j => f (i + p) j) := by
  have hat : ∀ (p : Nat) (e : PV), ((l.drop i).take n)[p]? = some e → l[i + p]? = some e ∧ 0 < n := fun p e he => by
    rw [List.getElem?_take] at he
    split at he
    · rw [List.getElem?_drop] at he; exact ⟨he, by omega⟩
    · cases he
  refine ⟨fun p e he => h.len _ e (hat p e he).1, fun p e j c he hc => ?_, fun p e j c he hc => h.one _ e j c (hat p e he).1 hc⟩
  obtain ⟨h1, h2⟩ := hat p e he
  rw [← h.cell _ e j c h1 hc, add_at, add_at, ho h2, Nat.add_mul]
  congr 2
  omega
theorem take_drop_at {α : Type} {l : List α} {i n p : Nat} {e : α} (he : ((l.drop i).take n)[p]? = some e) : l[i + p]? = some e := by
  rw [List.getElem?_take] at he
  split at he
  · rw [List.getElem?_drop] at he; exact he
  · cases he
mutual
theorem pureAV_ok {T : World → Prop} {base : Bs T} {σ : Sg} {w : World} {hp : HP} {ok : Nat → Prop} (hH : HR base σ w hp) (hok : ∀ k, okS σ k → ok k) : ∀ (a : AV) (x : PV) (v : Value), pureAV hp a = some x → VR σ w a v → (∀ b k, b ∈ rowsIn a → σ b = some (some k) → ok k.k) → Rd ok w x v
  | .p y, x, v, h, hv, _ => by
    simp only [pureAV, Option.some.injEq] at h; subst h
    cases hv with | p _ _ hv => exact hv.ext (Ext.refl _ _) fun k _ => hok k
  | .sl b sz i n full, x, v, h, hv, hr => by
    simp only [pureAV] at h
    cases hv with
    | sl _ _ _ _ k cap o _ hσ hks hl ho hn hf hrr =>
      obtain ⟨_, hlt, z, h1, h2⟩ := hH.blk b k hσ
      rw [h1] at h
      cases z with
      | vars l => cases h
      | iter s p => cases h
      | map kc vc l => cases h
      | row s l =>
        simp only [Option.some.injEq] at h; subst h
        obtain ⟨g1, g2, g3⟩ := h2
        obtain ⟨f, hrow, hrd⟩ := g3.at
        have hlen : ((l.drop i).take n).length = n := by rw [List.length_take, List.length_drop]; omega
        have hs : s = sz := by omega
        subst hs
        have := Rd.sl (ok := ok) (w := w) s ((l.drop i).take n) ⟨k.k, o, none⟩ cap (fun p j => f (i + p) j) (hr b k (by simp [rowsIn]) hσ) hlt (by omega) (hrow.sub fun h0 => ho (by omega)) fun p e j c he hc => (hrd _ e j c (take_drop_at he) hc).ext (Ext.refl _ _) fun k _ => hok k
        rwa [hlen] at this
    | slnil _ _ _ hσ =>
      obtain ⟨s, h1⟩ := hH.nil b hσ
      rw [h1] at h
      simp only [Option.some.injEq] at h; subst h
      simpa using Rd.nil sz
  | .agg l, x, v, h, hv, hr => by
    simp only [pureAV, Option.map_eq_some_iff] at h
    obtain ⟨ps, hps, rfl⟩ := h
    cases hv with
    | agg _ vs hl hv =>
      have := pureAVs_ok hH hok l ps vs hps ⟨hl, hv⟩ (fun b k hb => hr b k (by simpa [rowsIn] using hb))
      exact .agg _ _ this.len this.at_
  | .fn f [], x, v, h, hv, _ => by
    simp only [pureAV, Option.some.injEq] at h; subst h
    cases hv with
    | fn _ _ vs hl _ =>
      have : vs = [] := List.eq_nil_of_length_eq_zero (by simpa using hl)
      subst this
      exact .lit _
  | .ptr .., _, _, h, _, _ | .eptr .., _, _, h, _, _ | .fn _ (_ :: _), _, _, h, _, _ | .tup .., _, _, h, _, _ | .iface .., _, _, h, _, _ | .son .., _, _, h, _, _ | .tsl .., _, _, h, _, _ | .dead, _, _, h, _, _ => by simp [pureAV] at h
theorem pureAVs_ok {T : World → Prop} {base : Bs T} {σ : Sg} {w : World} {hp : HP} {ok : Nat → Prop} (hH : HR base σ w hp) (hok : ∀ k, okS σ k → ok k) : ∀ (l : List AV) (xs : List PV) (vs : List Value), pureAVs hp l = some xs → PW (VR σ w) l vs → (∀ b k, b ∈ rowsIns l → σ b = some (some k) → ok k.k) → PW (Rd ok w) xs vs
  | [], xs, vs, h, hv, _ => by
    simp only [pureAVs, Option.some.injEq] at h; subst h
    exact ⟨by simpa using hv.len, fun j a v ha => by simp at ha⟩
  | a :: r, xs, vs, h, hv, hr => by
    simp only [pureAVs, Option.bind_eq_some_iff, Option.map_eq_some_iff] at h
    obtain ⟨x, hx, t, ht, rfl⟩ := h
    cases vs with
    | nil => exact absurd hv.len (by simp)
    | cons v vs =>
      have h1 := pureAV_ok hH hok a x v hx (hv.at_ 0 a v rfl rfl) (fun b k hb => hr b k (by simp [rowsIns, hb]))
      have h2 := pureAVs_ok hH hok r t vs ht ⟨by simpa using hv.len, fun j a v ha hv' => hv.at_ (j + 1) a v (by simpa using ha) (by simpa using hv')⟩ (fun b k hb => hr b k (by simp [rowsIns, hb]))
      refine ⟨by simpa using h2.len, fun j c u hc hu => ?_⟩
      cases j with
      | zero => simp at hc hu; subst hc; subst hu; exact h1
      | succ j => exact h2.at_ j c u (by simpa using hc) (by simpa using hu)
end
end Go.Proofs.YtalfnpdgajfkiaaDoor.Ax
set_option linter.unusedVariables false
set_option linter.unusedSimpArgs false
namespace Go.Proofs.YtalfnpdgajfkiaaDoor.Ax
open Go

theorem new_row {σ : Sg} {w w' : World} {id n : Nat} {l : List PV} {cs : Array Value} {e : TypeId} {us : List Value} {cap : Nat} {full : Bool} (hg : Grow w w') (hw : w'.heap = w.heap.push (.cells cs e)) (hσ : σ id = none)
    (hσk : ∀ (b : Nat) (k : Bk), σ b = some (some k) → k.k < w.heap.size) (hl : Wide n l) (hp : PW (CR (okS σ) w) (flat l) us) (hu : ∀ (p : Nat) (u : Value), us[p]? = some u → cs[p]? = some u) (hcap : l.length ≤ cap) (hf : full = true → cap = l.length) (hr : cs.size = cap * n) :
    NewR σ w (.sl id n 0 l.length full) [(id, .row n l)] (.slice (some ⟨w.heap.size, 0, none⟩) l.length cap) w' := by
  have hat : w'.heap[w.heap.size]? = some (.cells cs e (0, 0)) := by rw [hw]; simp
  have hok : ∀ k, k < w.heap.size → okS σ k → okS (setS σ id (some ⟨w.heap.size, n, l.length⟩)) k := fun k hk ho => ⟨ho.1, fun x t hx => by
    by_cases hxi : x = id
    · subst hxi; rw [setS_self] at hx; cases hx; simp only; omega
    · rw [setS_ne hxi] at hx; exact ho.2 x t hx⟩
  refine NewR.of_one hg ⟨w.heap.size, n, l.length⟩ (Nat.le_refl _) (by rw [hw]; simp) ⟨rfl, rfl, RowBlk.of_flat hl hat (us := us) ⟨hp.len, fun j c u hc hu => ?_⟩ hu⟩ ?_
  · obtain ⟨h1, h2⟩ := hp.at_ j c u hc hu
    exact ⟨h1.ext (hg.ext _) hok, h2⟩
  · exact .sl id n 0 l.length ⟨w.heap.size, n, l.length⟩ cap 0 full (setS_self _ _ _) rfl (by simp) (by simp) hcap hf fun _ => ⟨cs, e, (0, 0), hat, by rw [hr]; simp⟩

theorem Rd.cells {ok : Nat → Prop} {w : World} {x : PV} {v : Value} (h : Rd ok w x v) (hc : (cellsOf x).all isCellPV = true) : ∃ us : List Value, v.cells = us.toArray ∧ PW (CR ok w) (cellsOf x) us := by
  have one : ∀ (a : PV) (u : Value), isCellPV a = true → Rd ok w a u → u.oneCell' = true := by
    intro a u ha hu
    cases hu with
    | ifc => rfl
    | lit => cases u <;> first | rfl | (exact absurd ha (by simp [isCellPV]))
    | nil => rfl
    | sl => rfl
    | agg => exact absurd ha (by simp [isCellPV])
  have single : ∀ (x : PV) (v : Value), cellsOf x = [x] → isCellPV x = true → Rd ok w x v → ∃ us : List Value, v.cells = us.toArray ∧ PW (CR ok w) (cellsOf x) us := by
    intro x v h1 h2 h3
    have h4 := one x v h2 h3
    have h5 : v.cells = #[v] := by cases v <;> first | rfl | (simp [Value.oneCell'] at h4)
    refine ⟨[v], by rw [h5], by rw [h1]; rfl, fun j c u hc hu => ?_⟩
    rw [h1] at hc
    cases j with
    | zero => simp at hc hu; subst hc; subst hu; exact ⟨h3, h4⟩
    | succ j => simp at hc
  cases h with
  | agg l vs hl hv => exact ⟨vs, rfl, hl, fun j c u hc' hu => ⟨hv j c u hc' hu, one c u (List.all_eq_true.1 hc c (List.mem_of_getElem? hc')) (hv j c u hc' hu)⟩⟩
  | lit v => exact single _ _ rfl (by simpa [cellsOf] using hc) (.lit v)
  | ifc t v => exact single _ _ rfl (by simpa [cellsOf] using hc) (.ifc t v)
  | nil sz => exact single _ _ rfl (by simpa [cellsOf] using hc) (.nil sz)
  | sl sz l a cap f h1 h2 h3 h4 h5 => exact single _ _ rfl (by simpa [cellsOf] using hc) (.sl sz l a cap f h1 h2 h3 h4 h5)
theorem PW.append {α β : Type} {R : α → β → Prop} {l m : List α} {us vs : List β} (h : PW R l us) (h' : PW R m vs) : PW R (l ++ m) (us ++ vs) := by
  refine ⟨by simp [h.len, h'.len], fun j a v ha hv => ?_⟩
  by_cases hj : j < l.length
  · rw [List.getElem?_append_left hj] at ha
    rw [List.getElem?_append_left (by rw [h.len]; exact hj)] at hv
    exact h.at_ j a v ha hv
  · rw [List.getElem?_append_right (by omega)] at ha
    rw [List.getElem?_append_right (by rw [h.len]; omega), h.len] at hv
    exact h'.at_ _ a v ha hv
theorem PW.take {α β : Type} {R : α → β → Prop} {l : List α} {us : List β} (h : PW R l us) (n : Nat) : PW R (l.take n) (us.take n) := by
  refine ⟨by simp [h.len], fun j a v ha hv => ?_⟩
  rw [List.getElem?_take] at ha hv
  split at ha
  · rename_i hj; rw [if_pos hj] at hv; exact h.at_ j a v ha hv
  · cases ha
theorem PW.drop {α β : Type} {R : α → β → Prop} {l : List α} {us : List β} (h : PW R l us) (n : Nat) : PW R (l.drop n) (us.drop n) := by
  refine ⟨by simp [h.len], fun j a v ha hv => ?_⟩
  rw [List.getElem?_drop] at ha hv
  exact h.at_ _ a v ha hv
theorem PW.tail {α β : Type} {R : α → β → Prop} {a : α} {l : List α} {v : β} {us : List β} (h : PW R (a :: l) (v :: us)) : PW R l us := ⟨by simpa using h.len, fun j a v ha hv => h.at_ (j + 1) a v (by simpa using ha) (by simpa using hv)⟩
theorem PW.cons {α β : Type} {R : α → β → Prop} {a : α} {l : List α} {v : β} {us : List β} (h : R a v) (h' : PW R l us) : PW R (a :: l) (v :: us) := ⟨by simp [h'.len], fun j b u hb hu => by
  cases j with
  | zero => simp at hb hu; subst hb; subst hu; exact h
  | succ j => exact h'.at_ j b u (by simpa using hb) (by simpa using hu)⟩
theorem PW.nil {α β : Type} {R : α → β → Prop} : PW R ([] : List α) ([] : List β) := ⟨rfl, fun j a v ha => by simp at ha⟩
theorem PW.imp {α β : Type} {R S : α → β → Prop} {l : List α} {us : List β} (h : PW R l us) (hi : ∀ a v, R a v → S a v) : PW S l us := ⟨h.len, fun j a v ha hv => hi a v (h.at_ j a v ha hv)⟩
theorem setFrom_mid {α : Type} (A B C D : List α) (h : B.length = D.length) : setFrom (A ++ B ++ C) A.length D = A ++ D ++ C := by
  apply List.ext_getElem?
  intro i
  rw [setFrom_get _ _ _ _ (by simp; omega)]
  by_cases h1 : i < A.length
  · rw [if_neg (by omega), List.append_assoc, List.append_assoc, List.getElem?_append_left h1, List.getElem?_append_left h1]
  · by_cases h2 : i < A.length + D.length
    · rw [if_pos ⟨by omega, h2⟩, List.append_assoc, List.getElem?_append_right (by omega), List.getElem?_append_left (by omega)]
    · rw [if_neg (by omega), List.getElem?_append_right (by simp; omega), List.getElem?_append_right (by simp; omega)]
      simp [h]

/-! ### Literals of slices -/
theorem elems_wide {hp : HP} {z : PV} {n : Nat} (hz : (cellsOf z).length = n) : ∀ (k : Nat) (ps : List (Nat × AV)) (l : List PV), elems hp z n k ps = some l → Wide n l ∧ l.length = k
  | 0, [], l, h => by simp only [elems, Option.some.injEq] at h; subst h; exact ⟨fun i e he => by simp at he, rfl⟩
  | 0, p :: r, l, h => by simp [elems] at h
  | k + 1, [], l, h => by
    simp only [elems, Option.map_eq_some_iff] at h
    obtain ⟨t, ht, rfl⟩ := h
    obtain ⟨h1, h2⟩ := elems_wide hz k [] t ht
    refine ⟨fun i e he => ?_, by simp [h2]⟩
    cases i with
    | zero => simp at he; subst he; exact hz
    | succ i => exact h1 i e (by simpa using he)
  | k + 1, (i, x) :: r, l, h => by
    simp only [elems, Option.bind_eq_some_iff] at h
    obtain ⟨y, hy, h⟩ := h
    split at h
    · rename_i hc
      simp only [Option.map_eq_some_iff] at h
      obtain ⟨t, ht, rfl⟩ := h
      obtain ⟨h1, h2⟩ := elems_wide hz k r t ht
      refine ⟨fun i e he => ?_, by simp [h2]⟩
      cases i with
      | zero => simp at he; subst he; exact hc.1
      | succ i => exact h1 i e (by simpa using he)
    · cases h
theorem Rd_lit_cells {ok : Nat → Prop} {w : World} (v : Value) (h : v.cells.all (·.oneCell') = true) : PW (CR ok w) (cellsOf (valPV v)) v.cells.toList := by
  cases v with
  | agg cs =>
    refine ⟨by simp [valPV, cellsOf, Value.cells], fun j c u hc hu => ?_⟩
    simp only [valPV, cellsOf, List.getElem?_map, Value.cells] at hc hu
    rw [hu] at hc
    simp at hc; subst hc
    exact ⟨.lit u, by simpa using (Array.all_eq_true_iff_forall_mem.1 h) u (by simpa [Value.cells] using List.mem_of_getElem? hu)⟩
  | tuple cs => simp [Value.cells, Value.oneCell'] at h
  | _ => exact ⟨rfl, fun j c u hc hu => by
      cases j with
      | zero => simp [valPV, cellsOf, Value.cells] at hc hu; subst hc; subst hu; exact ⟨.lit _, rfl⟩
      | succ j => simp [valPV, cellsOf] at hc⟩
theorem one_cells {v : Value} (h : (cellsOf (valPV v)).all isCellPV = true) : v.cells.all (·.oneCell') = true := by
  cases v with
  | agg cs =>
    simp only [valPV, cellsOf, List.all_map] at h
    simp only [Value.cells]
    rw [Array.all_eq_true_iff_forall_mem]
    intro u hu
    have := List.all_eq_true.1 h u (by simpa using hu)
    cases u <;> simp_all [isCellPV, Value.oneCell']
  | tuple cs => simp [valPV, cellsOf, isCellPV] at h
  | _ => simp [Value.cells, Value.oneCell']
theorem zeros_flat {ok : Nat → Prop} {w : World} {z : PV} {v : Value} {n m : Nat} (hn : 0 < n) (hz : (cellsOf z).length = n) (hv : PW (CR ok w) (cellsOf z) v.cells.toList) :
    PW (CR ok w) (flat (List.replicate m z)) ((Array.range (m * n)).map (v.cells[· % v.cells.size]!)).toList := by
  have hwide : Wide n (List.replicate m z) := Wide.of_mem fun e he => by rw [(List.mem_replicate.1 he).2]; exact hz
  have hsz : v.cells.size = n := by have := hv.len; rw [hz] at this; simpa using this
  refine ⟨by rw [flat_length hwide]; simp, fun p c u hc hu => ?_⟩
  obtain ⟨e, h1, h2⟩ := flat_at hn hwide hc
  have he : e = z := (List.mem_replicate.1 (List.mem_of_getElem? h1)).2
  subst he
  have hp : p % n < v.cells.size := by rw [hsz]; exact Nat.mod_lt _ hn
  have hu' : v.cells.toList[p % n]? = some u := by
    simp only [Array.toList_map, Array.toList_range, List.getElem?_map, Option.map_eq_some_iff] at hu
    obtain ⟨q, hq, rfl⟩ := hu
    have hqp : q = p := by
      obtain ⟨_, h⟩ := List.getElem?_eq_some_iff.1 hq
      simpa using h.symm
    subst hqp
    rw [hsz]
    simp [hp]
  exact hv.at_ _ _ _ h2 hu'
theorem fill_rows {P : Program} {T : World → Prop} {base : Bs T} {σ : Sg} {w : World} {hp : HP} {ok : Nat → Prop} (hH : HR base σ w hp) (hok : ∀ k, okS σ k → ok k) {z : PV} {n : Nat} (hz : (cellsOf z).length = n) :
    ∀ (ps : List (Nat × AV)) (qs : List (Nat × Value)) (m : Nat) (done l : List PV) (us : List Value), PW (PartR σ w) ps qs → Wide n done → inOrder done.length ps = true → elems hp z n m ps = some l →
      (∀ b k, b ∈ rowsIns (ps.map (·.2)) → σ b = some (some k) → ok k.k) → PW (CR ok w) (flat (done ++ List.replicate m z)) us →
      ∃ us' : List Value, Instr.fill (fun i => some (i * n, n)) us.toArray qs = some us'.toArray ∧ PW (CR ok w) (flat (done ++ l)) us' := by
  intro ps
  induction ps with
  | nil =>
    intro qs m done l us hq hw ho he hr hu
    have : qs = [] := List.eq_nil_of_length_eq_zero (by simpa using hq.len)
    subst this
    refine ⟨us, rfl, ?_⟩
    have : l = List.replicate m z := by
      clear hu
      induction m generalizing l with
      | zero => simp only [elems, Option.some.injEq] at he; subst he; rfl
      | succ m ih =>
        simp only [elems, Option.map_eq_some_iff] at he
        obtain ⟨t, ht, rfl⟩ := he
        rw [ih t ht]; rfl
    rw [this]; exact hu
  | cons p r ih =>
    obtain ⟨i, x⟩ := p
    intro qs m done l us hq hw ho he hr hu
    cases qs with
    | nil => exact absurd hq.len (by simp)
    | cons q qs =>
      obtain ⟨i', v⟩ := q
      obtain ⟨hii, hv⟩ := hq.at_ 0 (i, x) (i', v) rfl rfl
      have hii : i = i' := hii
      subst hii
      cases m with
      | zero => simp [elems] at he
      | succ m =>
        simp only [elems, Option.bind_eq_some_iff] at he
        obtain ⟨y, hy, he⟩ := he
        split at he
        · rename_i hc
          simp only [Option.map_eq_some_iff] at he
          obtain ⟨t, ht, rfl⟩ := he
          simp only [inOrder, Bool.and_eq_true, beq_iff_eq] at ho
          obtain ⟨hi, ho⟩ := ho
          subst hi
          have hrd := pureAV_ok hH hok x y v hy hv (fun b k hb => hr b k (by simp [rowsIns, hb]))
          obtain ⟨cs, hcs, hpw⟩ := hrd.cells hc.2
          have hlen : cs.length = n := by rw [hpw.len, hc.1]
          have e0 : flat (done ++ List.replicate (m + 1) z) = flat done ++ cellsOf z ++ flat (List.replicate m z) := by rw [flat_append, List.replicate_succ]; simp [flat]
          have hfl := flat_length hw
          have hu2 : PW (CR ok w) (flat ((done ++ [y]) ++ List.replicate m z)) (setFrom us (done.length * n) cs) := by
            have h1 := hu.setFrom hpw (j := done.length * n) (by rw [e0]; simp [hfl]; omega)
            rw [e0, ← hfl, setFrom_mid _ _ _ _ (by rw [hz, hc.1])] at h1
            rw [hfl] at h1
            rw [flat_append, flat_append]
            simpa [flat] using h1
          obtain ⟨us', g1, g2⟩ := ih qs m (done ++ [y]) t _ hq.tail (by
            intro j e hj
            by_cases hjl : j < done.length
            · rw [List.getElem?_append_left hjl] at hj; exact hw j e hj
            · rw [List.getElem?_append_right (by omega)] at hj
              cases hjj : j - done.length with
              | zero => rw [hjj] at hj; simp at hj; subst hj; exact hc.1
              | succ q => rw [hjj] at hj; simp at hj) (by simpa using ho) ht (fun b k hb => hr b k (by simp only [List.map_cons, rowsIns]; exact List.mem_append_right _ hb)) hu2
          refine ⟨us', ?_, by simpa using g2⟩
          have hus : us.length = (flat done).length + n + (flat (List.replicate m z)).length := by rw [hu.len, e0]; simp [hz]; omega
          simp only [Instr.fill, hcs]
          rw [if_neg (by simp [hlen]; omega), fold_set']
          exact g1
        · cases he
theorem cutL_sub {σ : Sg} {l : List Nat} {w : World} {hp : HP} {T : World → Prop} {base : Bs T} (hH : HR base σ w hp) : ∀ (b : Nat) (k : Bk), cutL σ l b = some (some k) → k.k < w.heap.size := fun b k h => (hH.blk b k (cutL_some h).2).2.1
/-- Rows that are cut are none of the call's own any more. -/
theorem okS_cut_row {σ : Sg} {l : List Nat} {w : World} {hp : HP} {T : World → Prop} {base : Bs T} (hH : HR base σ w hp) : ∀ (b : Nat) (k : Bk), b ∈ l → σ b = some (some k) → okS (cutL σ l) k.k := fun b k hb hk => ⟨by rw [cutL_G, hH.g]; exact base.up _ (hH.blk b k hk).1, fun c t hc he => by
  obtain ⟨h1, h2⟩ := cutL_some hc
  have := hH.inj c b t k h2 hk he
  subst this
  exact h1 hb⟩
theorem buildSlice_ok {P : Program} {T : World → Prop} {base : Bs T} {σ : Sg} {w : World} {hp : HP} (hH : HR base σ w hp) {id : Nat} {t : TypeId} {len : Nat} {ps : List (Nat × AV)} {qs : Array (Nat × Value)} {y : AV × HP × List Nat} (hq : PW (PartR σ w) ps qs.toList)
    (h : buildSlice P hp id t len ps = some y) (hf : ∀ b x, look y.2.1 b = some x → cutL σ y.2.2 b = none) : ∃ u w', (Instr.buildSlice t len qs).run P w = .ok u w' ∧ NewR (cutL σ y.2.2) w y.1 y.2.1 u w' := by
  simp only [buildSlice, Option.bind_eq_some_iff] at h
  obtain ⟨e, he, n, hn, z, hz, h⟩ := h
  split at h
  · rename_i hc
    obtain ⟨h1, h2, h3, h4, h5⟩ := hc
    simp only [Option.map_eq_some_iff] at h
    obtain ⟨l, hl, rfl⟩ := h
    obtain ⟨v, hv, rfl, _⟩ := run_zero hz w
    obtain ⟨g1, g2⟩ := elems_wide h4 _ _ _ hl
    have hz0 := zeros_flat (ok := okS (cutL σ (rowsIns (ps.map (·.2))))) (w := w) (m := len) h1 h4 (Rd_lit_cells v (one_cells h5))
    obtain ⟨ZS, hZS⟩ : ∃ ZS : List Value, ((Array.range (len * n)).map (v.cells[· % v.cells.size]!)) = ZS.toArray := ⟨_, (Array.toArray_toList).symm⟩
    rw [hZS] at hz0
    obtain ⟨us', k1, k2⟩ := fill_rows (P := P) hH (ok := okS (cutL σ (rowsIns (ps.map (·.2))))) (fun k hk => okS_cutL hk) h4 ps qs.toList len [] l ZS hq (fun i e he => by simp at he) (by simpa using h3) hl (okS_cut_row hH) (by simpa using hz0)
    have hid := hf id (.row n l) (by simp [look])
    have hlen : us'.length = len * n := by rw [k2.len]; simp only [List.nil_append]; rw [flat_length g1, g2]
    refine ⟨.slice (some ⟨w.heap.size, 0, none⟩) len len, { w with heap := w.heap.push (.cells us'.toArray e) }, ?_, ?_⟩
    · have hnn : ¬ (len * n > 2 ^ 24) := by omega
      simp only [Instr.buildSlice, Sem.run_bind, run_und (elemT_some he), Result.andThen_ok, run_size hn, if_neg hnn, Sem.run_pure]
      by_cases h0 : len * n = 0
      · simp only [h0, if_true, Sem.run_bind, Sem.run_pure, Result.andThen_ok]
        have e1 : ((Array.range 0).map (fun x => (#[] : Array Value)[x % (#[] : Array Value).size]!)) = ZS.toArray := by rw [← hZS, h0]; simp
        rw [e1, k1]
        simp [newRow]
      · simp only [h0, if_false, Sem.run_bind, hv, Result.andThen_ok, Sem.run_pure]
        rw [hZS, k1]
        simp [newRow]
    · have := new_row (σ := cutL σ (rowsIns (ps.map (·.2)))) (w := w) (w' := { w with heap := w.heap.push (.cells us'.toArray e) }) (id := id) (n := n) (l := l) (cs := us'.toArray) (e := e) (us := us') (cap := len) (full := false) (Grow.alloc w _) rfl hid (cutL_sub hH) g1 (by simpa using k2) (fun p u hu => by simpa using hu) (by omega) (fun h => by cases h) (by simpa using hlen)
      rw [g2] at this
      simpa only [g2] using this
  · cases h
theorem makeSlice_ok {P : Program} {T : World → Prop} {base : Bs T} {σ : Sg} {w : World} {hp : HP} (hH : HR base σ w hp) {id : Nat} {t : TypeId} {lv cv : AV} {vl vc : Value} {y : AV × HP} (hl : VR σ w lv vl) (hc : VR σ w cv vc)
    (h : makeSlice P id t lv cv = some y) (hf : ∀ b x, look y.2 b = some x → σ b = none) : ∃ u w', (Instr.makeSlice t vl vc).run P w = .ok u w' ∧ NewR σ w y.1 y.2 u w' := by
  simp only [makeSlice, Option.bind_eq_some_iff] at h
  obtain ⟨e, he, n, hn, z, hz, by_, hby, l, hl', c, hc', h⟩ := h
  split at h
  · rename_i hcc
    obtain ⟨h1, h2, h3, h4, h5, h6, h7⟩ := hcc
    cases h
    obtain ⟨v, hv, rfl, i, hi, hiz⟩ := run_zero hz w
    have hb : i.bytes = by_ := by simpa [hi] using hby
    have hs : i.size = n := by simpa [sizeT, hi] using hn
    have hbytes : (i.bytes : Int) * c.2 ≤ 281474976710656 := by
      have h8 : (i.bytes : Int) ≤ 65536 := by omega
      have h9 : (i.bytes : Int) * c.2 ≤ 65536 * 2147483648 := Int.mul_le_mul h8 h4 (by omega) (by omega)
      omega
    have hr := run_make (P := P) w t e i v (elemT_some he) hi hiz l.1 c.1 l.2 c.2 h2 h3 hbytes (by omega)
    rw [asI_ok hl hl', asI_ok hc hc']
    have hid := hf id _ (by simp [look]; rfl)
    have hwide : Wide n (List.replicate l.2.toNat (valPV v)) := Wide.of_mem fun e he => by rw [(List.mem_replicate.1 he).2]; exact h6
    have hz0 := zeros_flat (ok := okS σ) (w := w) (m := l.2.toNat) h1 h6 (Rd_lit_cells v (one_cells h7))
    have hle : l.2.toNat ≤ c.2.toNat := by omega
    refine ⟨_, _, hr, ?_⟩
    have := new_row (σ := σ) (w := w) (w' := w.alloc (.cells (madeCells v.cells (c.2.toNat * i.size)) e)) (id := id) (n := n) (l := List.replicate l.2.toNat (valPV v)) (cs := madeCells v.cells (c.2.toNat * i.size)) (e := e) (cap := c.2.toNat) (full := false) (Grow.alloc w _) rfl hid (fun b k hk => (hH.blk b k hk).2.1) hwide hz0 (fun p u hu => by
      have hp : p < l.2.toNat * n := by have := (List.getElem?_eq_some_iff.1 hu).1; simpa using this
      have hp2 : p < c.2.toNat * n := Nat.lt_of_lt_of_le hp (Nat.mul_le_mul_right _ hle)
      simp only [madeCells, hs]
      simp [hp] at hu
      simp [hp2, hu]) (by simpa using hle) (fun hff => by cases hff) (by rw [size_madeCells, hs])
    simpa using this
  · cases h
end Go.Proofs.YtalfnpdgajfkiaaDoor.Ax
