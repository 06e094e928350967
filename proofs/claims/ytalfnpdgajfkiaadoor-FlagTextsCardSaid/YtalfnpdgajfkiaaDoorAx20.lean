/- 'Ax', part 20: regions and code. -/
import Derived.Test.YtalfnpdgajfkiaaDoorAx19
set_option linter.unusedVariables false
set_option linter.unusedSimpArgs false
namespace Go.Proofs.YtalfnpdgajfkiaaDoor.Ax
open Go

def idx : Nat → List Oper → List (Nat × Oper)
  | _, [] => []
  | c, o :: r => (c, o) :: idx (c + 1) r
theorem splitSegs_flatten (m : List Nat) : ∀ (l : List Oper) (c : Nat) (cur : List (Nat × Oper)), (splitSegs m c l cur).flatten = cur ++ idx c l
  | [], c, cur => by simp [splitSegs, idx]
  | o :: r, c, cur => by
    simp only [splitSegs]
    split
    · simp [splitSegs_flatten m r (c + 1) [(c, o)], idx]
    · simp [splitSegs_flatten m r (c + 1) (cur ++ [(c, o)]), idx]
theorem idx_get : ∀ (l : List Oper) (c p : Nat) (x : Nat × Oper), (idx c l)[p]? = some x → x.1 = c + p ∧ l[p]? = some x.2
  | [], c, p, x, h => by simp [idx] at h
  | o :: r, c, p, x, h => by
    cases p with
    | zero => simp [idx] at h; subst h; exact ⟨rfl, rfl⟩
    | succ p =>
      simp only [idx, List.getElem?_cons_succ] at h
      obtain ⟨h1, h2⟩ := idx_get r (c + 1) p x h
      exact ⟨by omega, by simpa using h2⟩
theorem idx_length : ∀ (l : List Oper) (c : Nat), (idx c l).length = l.length
  | [], _ => rfl
  | o :: r, c => by simp [idx, idx_length r]
theorem idx_drop : ∀ (l : List Oper) (c k : Nat), (idx c l).drop k = idx (c + k) (l.drop k)
  | l, c, 0 => by simp
  | [], c, k + 1 => by simp [idx]
  | o :: r, c, k + 1 => by
    simp only [idx, List.drop_succ_cons]
    rw [idx_drop r (c + 1) k, show c + 1 + k = c + (k + 1) by omega]
theorem HR.weaken {T : World → Prop} {base : Bs T} {σ : Sg} {w : World} {hp hp' : HP} (h : HR base σ w hp) (hl : HLe hp hp') : HR base σ w hp' :=
  ⟨h.inj, h.g, h.t, fun b k hk => by obtain ⟨h1, h2, x, h3, h4⟩ := h.blk b k hk; exact ⟨h1, h2, x, hl b x h3, h4⟩, fun b hb => by obtain ⟨s, g⟩ := h.nil b hb; exact ⟨s, hl b _ g⟩⟩
theorem segs_ok {E : Env} {cl : FuncId → List PV → R} {rn : Run} (hcl : ClOK E cl) (hpr : PrimOK E) (hrn : RnOK E rn) {base : Bs E.T} {ups : List (Array Value)} {ds : List Deferred} {fb nt : Nat} {ops : Array Oper} {K : St → R} {r : List PV} {Q : Exit → Act → World → Prop}
    {m : List Nat} (hm1 : ∀ (i a : Nat), m[i]? = some a → ∀ j, a.testBit j = true → Anc ops i j) (hm2 : ∀ (i : Nat) (o : Oper), ops[i]? = some o → ∀ j, j ∈ afters o → j < i) (hm3 : m.length = ops.size) (hdk : ops.toList.all (dstOK nt) = true) :
    ∀ (segs : List (List (Nat × Oper))) (c : Nat) (σ : Sg) (st : St) (vs : Array Value) (w : World) (listed : Array Bool), segK E cl rn fb nt ops segs st K = some r → segs.flatten = idx c (ops.toList.drop c) → c ≤ ops.size → segsOK ops m c segs = true →
      Rel base ups σ st vs w → base.n ≤ w.heap.size → vs.size = nt → Goes r base ups nt ds w K (Q .normal) → Lst ops.size listed (fun i => decide (i < c)) → wpAny E.P .any ops Q (ops.size - c) listed ⟨vs, ds⟩ w
  | [], c, σ, st, vs, w, listed, h, hfl, hc, hok, hR, hb, hv, hn, hL => by
    have hlen : ops.size - c = 0 := by
      have := congrArg List.length hfl
      rw [idx_length] at this
      simp at this
      omega
    rw [hlen]
    refine ⟨?_, hn st σ vs w h hR hv (Kept.refl _ _)⟩
    cases hr : Region.ready .any ops listed with
    | nil => rfl
    | cons i r =>
      have hi : i ∈ Region.ready .any ops listed := by rw [hr]; simp
      obtain ⟨o, ho, h1, _⟩ := hL.ready.1 hi
      have := (Array.getElem?_eq_some_iff.1 ho).1
      simp at h1
      omega
  | s :: segs, c, σ, st, vs, w, listed, h, hfl, hc, hok, hR, hb, hv, hn, hL => by
    simp only [segsOK, Bool.and_eq_true] at hok
    obtain ⟨⟨hcut, hro⟩, hok'⟩ := hok
    simp only [List.flatten_cons] at hfl
    have hidx : ∀ (p : Nat) (x : Nat × Oper), s[p]? = some x → x.1 = c + p ∧ ops[c + p]? = some x.2 := fun p x hx => by
      have h1 : (s ++ segs.flatten)[p]? = some x := by rw [List.getElem?_append_left (List.getElem?_eq_some_iff.1 hx).1]; exact hx
      rw [hfl] at h1
      obtain ⟨h2, h3⟩ := idx_get _ _ _ _ h1
      exact ⟨h2, by rw [List.getElem?_drop] at h3; simpa using h3⟩
    have hfl' : segs.flatten = idx (c + s.length) (ops.toList.drop (c + s.length)) := by
      have h1 := congrArg (List.drop s.length) hfl
      rw [List.drop_left, idx_drop, List.drop_drop] at h1
      exact h1
    have hc' : c + s.length ≤ ops.size := by
      have h1 := congrArg List.length hfl
      rw [idx_length] at h1
      simp at h1
      omega
    have next : ∀ σ1 st1 vs1 w1 listed1, segK E cl rn fb nt ops segs st1 K = some r → Rel base ups σ1 st1 vs1 w1 → vs1.size = nt → Kept base w w1 → Lst ops.size listed1 (fun i => decide (i < c + s.length)) → wpAny E.P .any ops Q (ops.size - (c + s.length)) listed1 ⟨vs1, ds⟩ w1 :=
      fun σ1 st1 vs1 w1 listed1 g1 g2 g3 g4 g5 => segs_ok hcl hpr hrn hm1 hm2 hm3 hdk segs (c + s.length) σ1 st1 vs1 w1 listed1 g1 hfl' hc' hok' g2 (Nat.le_trans hb g4.size) g3 (hn.from g4) g5
    have hDn : Down ops (fun i => decide (i < c)) := fun i o ho hi j hj => by
      have := hm2 i o ho j hj
      simp at hi ⊢; omega
    simp only [segK] at h
    split at h
    · -- one operation
      rename_i i o
      obtain ⟨hi, ho⟩ := hidx 0 (i, o) rfl
      simp only [Nat.add_zero] at hi ho
      have hi : i = c := hi
      subst hi
      have hlt : i < ops.size := (Array.getElem?_eq_some_iff.1 ho).1
      have hready : ∀ k, k ∈ Region.ready .any ops listed → k = i := fun k hk => by
        obtain ⟨ok, hok, g1, g2⟩ := hL.ready.1 hk
        have hksz := (Array.getElem?_eq_some_iff.1 hok).1
        simp at g1
        by_cases hki : k = i
        · exact hki
        · have hmk : m[k]? = some m[k] := List.getElem?_eq_getElem (by omega)
          have := hDn.anc_ready (hm1 k _ hmk i (cutAt_bit hcut (by simp; omega) hmk i (by simp))) hok (fun j hj => (g2 j hj).2) hm2
          simp at this
      rw [show ops.size - i = (ops.size - (i + 1)) + 1 by omega]
      refine ⟨fun hr => ?_, fun k hk => ?_⟩
      · have : i ∈ Region.ready .any ops listed := hL.ready.2 ⟨o, ho, by simp, fun j hj => by have := hm2 i o ho j hj; exact ⟨by omega, by simp; omega⟩⟩
        rw [hr] at this; cases this
      · have := hready k hk
        subst this
        unfold wpOp
        rw [ho]
        simp only
        refine op1_ok hcl hpr hrn h (List.all_eq_true.1 hdk o (by have := Array.mem_of_getElem? ho; simpa using this)) hR hb hv fun st' σ' vs' w' g1 g2 g3 g4 => ?_
        refine next σ' st' vs' w' _ g1 g2 g3 g4 ⟨by simp [hL.size], fun j hj => ?_⟩
        have := (hL.mark k).at_ j hj
        rw [this]
        unfold mark1
        simp only [List.length_singleton]
        congr 1
        by_cases hjk : j = k
        · subst hjk; simp
        · rw [if_neg hjk]; simp; omega
    · -- many
      obtain ⟨outs, tm2, tm', hp', hT, hle, hK⟩ := free_tr hpr _ _ h
      obtain ⟨hlen, hat⟩ := hT.at_
      refine free_ok hcl hpr hT hm1 hm2 hm3 hidx hcut hro hdk hc' (w0 := w) (ups := ups) (base := base) (up := st.up) (fun σ1 vs1 w1 listed1 g1 g2 g3 g4 => next σ1 _ vs1 w1 listed1 hK ⟨fun s' a ha => g1.tm s' a (by rw [← hle s']; exact ha), g1.up, g1.hp⟩ g2 g3 g4) _ (fun i => decide (i < c)) listed σ vs w (unl_lt _ _ hc).symm hL hDn (fun j hj => by simpa using hj) (fun j hj => by simp; omega)
        ⟨hR.hp.weaken hT.le, fun p y hy _ b x hx => ?_, hR.up, fun s' a ha _ => hR.tm s' a ha, fun p x y s' _ _ hf => by simp at hf; omega, hv, Kept.refl _ _, hb⟩
      obtain ⟨⟨i, o⟩, hp⟩ : ∃ x, s[p]? = some x := ⟨s[p]'(by rw [← hlen]; exact (List.getElem?_eq_some_iff.1 hy).1), List.getElem?_eq_getElem _⟩
      obtain ⟨a, nb, tmp, hpp, g1, g2⟩ := hat p i o hp
      rw [hy] at g1; cases g1
      exact hR.hp.none_of (g2.old b x hx)
theorem Rel.drew {T : World → Prop} {base : Bs T} {ups : List (Array Value)} {σ : Sg} {st : St} {vs : Array Value} {w : World} (h : Rel base ups σ st vs w) : Rel base ups σ st vs { w with drawn := w.drawn + 1 } := by
  have hE := Ext.drew (okS σ) w
  have ht : ∀ tm vs, TR σ w tm vs → TR σ { w with drawn := w.drawn + 1 } tm vs := fun tm vs ht => ht.ext hE (fun _ _ h => h) fun s a ha => .inr ⟨ha, fun _ _ _ h => h⟩
  refine ⟨ht _ _ h.tm, h.up.ext' ht, ⟨h.hp.inj, h.hp.g, base.keep w _ (fun _ _ => rfl) h.hp.t, fun b k hk => ?_, h.hp.nil⟩⟩
  obtain ⟨h1, h2, x, h3, h4⟩ := h.hp.blk b k hk
  refine ⟨h1, h2, x, h3, ?_⟩
  cases x with
  | row s l => exact ⟨h4.1, h4.2.1, RowBlk.ext h4.2.2 hE (fun _ _ h => h) rfl⟩
  | iter s p => exact h4
  | map kc vc l => exact h4
  | vars l => exact ⟨h4.1, VarsBlk.ext h4.2 hE (fun _ _ h => h) rfl rfl fun j a ha => .inr ⟨ha, fun _ _ _ h => h⟩⟩
theorem region_ok {E : Env} {cl : FuncId → List PV → R} {rn : Run} (hmix : E.P.follows .mixedOrders = true) (hcl : ClOK E cl) (hpr : PrimOK E) (hrn : RnOK E rn) {base : Bs E.T} {ups : List (Array Value)} {ds : List Deferred} {fb nt id : Nat} {ops : Array Oper} {K : St → R} {r : List PV} {Q : Exit → Act → World → Prop}
    {segs : List (List (Nat × Oper))} (hs : segsOf ops = some segs) (hdk : ops.toList.all (dstOK nt) = true) {σ : Sg} {st : St} {vs : Array Value} {w : World} (h : segK E cl rn fb nt ops segs st K = some r) (hR : Rel base ups σ st vs w) (hb : base.n ≤ w.heap.size) (hv : vs.size = nt) (hn : Goes r base ups nt ds w K (Q .normal)) :
    (Code.region id ops true).wp E.P Q ⟨vs, ds⟩ w := by
  simp only [segsOf, Option.bind_eq_some_iff] at hs
  obtain ⟨m, hm, hs⟩ := hs
  split at hs
  · rename_i hok
    cases hs
    obtain ⟨hm1, hm2, hm3⟩ := ancs_ok (ops := ops) ops.toList [] m hm (by simp) (by simp) (fun i a h => by simp at h) (fun i o h => by simp at h)
    have hk : Kept base w { w with drawn := w.drawn + 1 } := ⟨rfl, rfl, rfl, Nat.le_refl _, fun _ _ => rfl⟩
    refine wp_region_any hmix ?_
    have := segs_ok hcl hpr hrn hm1 hm2 hm3 hdk (splitSegs m 0 ops.toList []) 0 σ st vs { w with drawn := w.drawn + 1 } (Array.replicate ops.size false) h (by rw [splitSegs_flatten]; simp) (Nat.zero_le _) hok hR.drew hb hv (hn.from hk) ⟨by simp, fun i hi => by simp [hi]⟩ (Q := Q)
    simpa using this
  · cases hs
end Go.Proofs.YtalfnpdgajfkiaaDoor.Ax
set_option linter.unusedVariables false
set_option linter.unusedSimpArgs false
namespace Go.Proofs.YtalfnpdgajfkiaaDoor.Ax
open Go

/-- A cell that is handed back: a scalar, or a row of the callee's own. -/
inductive Cell {T : World → Prop} (base : Bs T) (σ : Sg) (w : World) : PV → Value → Option Nat → Prop
  | lit (v : Value) : Cell base σ w (.lit v) v none
  | ifc (t : TypeId) (v : Value) : Cell base σ w .ifc (.iface t v) none
  | nil (sz b : Nat) (hb : σ b = some none) : Cell base σ w (.sl sz []) (.slice none 0 0) (some b)
  | row (sz b : Nat) (l : List PV) (k : Bk) (cap o : Nat) (cs : Array Value) (e : TypeId) (fz : Nat × Nat) (hb : σ b = some (some k)) (hk : base.n ≤ k.k) (hlt : k.k < w.heap.size) (hr : RowBlk σ w sz l k.k) (hc : w.heap[k.k]? = some (.cells cs e fz)) (hs : cs.size = cap * sz) (hn : l.length ≤ cap) (ho : 0 < cap → o = 0) :
      Cell base σ w (.sl sz l) (.slice (some ⟨k.k, o, none⟩) l.length cap) (some b)
theorem RowBlk.take {σ : Sg} {w : World} {sz : Nat} {l : List PV} {k : Nat} (h : RowBlk σ w sz l k) (n : Nat) : RowBlk σ w sz (l.take n) k := by
  obtain ⟨cs, e, fz, f, h1, h2, h3, h4, h5⟩ := h.ex
  have hat : ∀ (i : Nat) (x : PV), (l.take n)[i]? = some x → l[i]? = some x := fun i x hx => by
    rw [List.getElem?_take] at hx
    split at hx
    · exact hx
    · cases hx
  exact ⟨cs, e, fz, f, h1, h2, fun i x hx => h3 i x (hat i x hx), fun i x j c hx hc => h4 i x j c (hat i x hx) hc, fun i x j c hx hc => h5 i x j c (hat i x hx) hc⟩
/-- Fewer blocks are looked at. -/
def Sub (hp' hp : HP) : Prop := ∀ (b : Nat) (x : Blk), look hp' b = some x → look hp b = some x
theorem Sub.del (hp : HP) (b : Nat) : Sub (Ax.del hp b) hp := fun c x h => by
  rw [look_del] at h
  split at h
  · cases h
  · exact h
theorem pureC_ok {T : World → Prop} {base : Bs T} {σ : Sg} {w : World} {hp0 hp hp1 : HP} (hH : HR base σ w hp0) (hs : Sub hp hp0) {a : AV} {x : PV} {v : Value} (h : pureC hp a = some (x, hp1)) (hv : VR σ w a v) :
    ∃ o, Cell base σ w x v o ∧ Sub hp1 hp0 ∧ Sub hp1 hp ∧ (∀ b, o = some b → (look hp b).isSome = true ∧ look hp1 b = none) := by
  unfold pureC at h
  split at h
  · cases h; rw [hv.litEq]; exact ⟨none, .lit _, hs, fun _ _ h => h, fun b hb => by cases hb⟩
  · cases h; cases hv with | p _ _ hv => cases hv; exact ⟨none, .ifc _ _, hs, fun _ _ h => h, fun b hb => by cases hb⟩
  · rename_i b sz n
    split at h
    · rename_i s l hl
      cases h
      have hsub1 : Sub (del hp b) hp := Sub.del hp b
      have hbo : ∀ c, some b = some c → (look hp c).isSome = true ∧ look (del hp b) c = none := fun c hc => by cases hc; exact ⟨by rw [hl]; rfl, by rw [look_del, if_pos rfl]⟩
      cases hv with
      | sl _ _ _ _ k cap o _ hσ hks hlen ho hn hf hr =>
        obtain ⟨h1, h2, z, h3, h4⟩ := hH.blk b k hσ
        rw [hs b _ hl] at h3; cases h3
        obtain ⟨g1, g2, g3⟩ := h4
        have hss : s = sz := by omega
        subst hss
        obtain ⟨cs, e, fz, r1, r2⟩ := hr rfl
        have htl : (l.take n).length = n := by rw [List.length_take]; omega
        have := Cell.row (base := base) (σ := σ) (w := w) s b (l.take n) k cap o cs e fz hσ h1 h2 (g3.take n) r1 (by simpa using r2) (by omega) (fun h => by have := ho h; simpa using this)
        rw [htl] at this
        exact ⟨some b, this, fun c x hx => hs c x (hsub1 c x hx), hsub1, hbo⟩
      | slnil _ _ _ hσ =>
        obtain ⟨z, g⟩ := hH.nil b hσ
        rw [hs b _ hl] at g; cases g
        exact ⟨some b, by simpa using Cell.nil (base := base) (w := w) sz b hσ, fun c x hx => hs c x (hsub1 c x hx), hsub1, hbo⟩
    · cases h
  · cases h
/-- Cells that are handed back: no row twice. -/
structure Cells {T : World → Prop} (base : Bs T) (σ : Sg) (w : World) (hp hp1 : HP) (xs : List PV) (vs : List Value) (os : List (Option Nat)) : Prop where
  lv : vs.length = xs.length
  lo : os.length = xs.length
  at_ : ∀ (i : Nat) (x : PV) (v : Value) (o : Option Nat), xs[i]? = some x → vs[i]? = some v → os[i]? = some o → Cell base σ w x v o
  there : ∀ (i b : Nat), os[i]? = some (some b) → (look hp b).isSome = true ∧ look hp1 b = none
  apart : ∀ (i j b : Nat), os[i]? = some (some b) → os[j]? = some (some b) → i = j
theorem Cells.append {T : World → Prop} {base : Bs T} {σ : Sg} {w : World} {hp hp1 hp2 : HP} {xs ys : List PV} {vs us : List Value} {os ps : List (Option Nat)} (h : Cells base σ w hp hp1 xs vs os) (h' : Cells base σ w hp1 hp2 ys us ps) (hs1 : Sub hp1 hp) (hs : Sub hp2 hp1) : Cells base σ w hp hp2 (xs ++ ys) (vs ++ us) (os ++ ps) := by
  have cut : ∀ {i b : Nat}, (os ++ ps)[i]? = some (some b) → (i < os.length ∧ os[i]? = some (some b)) ∨ (os.length ≤ i ∧ ps[i - os.length]? = some (some b)) := fun {i b} hi => by
    by_cases hlt : i < os.length
    · rw [List.getElem?_append_left hlt] at hi; exact .inl ⟨hlt, hi⟩
    · rw [List.getElem?_append_right (by omega)] at hi; exact .inr ⟨by omega, hi⟩
  refine ⟨by simp [h.lv, h'.lv], by simp [h.lo, h'.lo], fun i x v o hx hv ho => ?_, fun i b hi => ?_, fun i j b hi hj => ?_⟩
  · by_cases hlt : i < xs.length
    · rw [List.getElem?_append_left hlt] at hx
      rw [List.getElem?_append_left (by rw [h.lv]; exact hlt)] at hv
      rw [List.getElem?_append_left (by rw [h.lo]; exact hlt)] at ho
      exact h.at_ i x v o hx hv ho
    · rw [List.getElem?_append_right (by omega)] at hx
      rw [List.getElem?_append_right (by rw [h.lv]; omega), h.lv] at hv
      rw [List.getElem?_append_right (by rw [h.lo]; omega), h.lo] at ho
      exact h'.at_ _ x v o hx hv ho
  · rcases cut hi with ⟨_, hi⟩ | ⟨_, hi⟩
    · obtain ⟨g1, g2⟩ := h.there i b hi
      refine ⟨g1, ?_⟩
      cases hl : look hp2 b with
      | none => rfl
      | some z => rw [hs b z hl] at g2; cases g2
    · obtain ⟨g1, g2⟩ := h'.there _ b hi
      obtain ⟨z, hz⟩ := Option.isSome_iff_exists.1 g1
      exact ⟨by rw [hs1 b z hz]; rfl, g2⟩
  · rcases cut hi with ⟨h1, hi⟩ | ⟨h1, hi⟩ <;> rcases cut hj with ⟨h2, hj⟩ | ⟨h2, hj⟩
    · exact h.apart i j b hi hj
    · have := (h.there i b hi).2; have := (h'.there _ b hj).1; simp_all
    · have := (h.there j b hj).2; have := (h'.there _ b hi).1; simp_all
    · have := h'.apart _ _ b hi hj; omega
theorem pureCs_ok {T : World → Prop} {base : Bs T} {σ : Sg} {w : World} {hp0 : HP} (hH : HR base σ w hp0) : ∀ (l : List AV) (hp hp1 : HP) (xs : List PV) (vs : List Value), Sub hp hp0 → pureCs hp l = some (xs, hp1) → PW (VR σ w) l vs → ∃ os, Cells base σ w hp hp1 xs vs os ∧ Sub hp1 hp
  | [], hp, hp1, xs, vs, hs, h, hv => by
    simp only [pureCs, Option.some.injEq] at h
    cases h
    have : vs = [] := List.eq_nil_of_length_eq_zero (by simpa using hv.len)
    subst this
    exact ⟨[], ⟨rfl, rfl, fun i x v o h => by simp at h, fun i b h => by simp at h, fun i j b h => by simp at h⟩, fun _ _ h => h⟩
  | a :: r, hp, hp1, xs, vs, hs, h, hv => by
    simp only [pureCs, Option.bind_eq_some_iff, Option.map_eq_some_iff] at h
    obtain ⟨⟨x, hpx⟩, hx, ⟨ys, hpy⟩, hy, h⟩ := h
    cases h
    cases vs with
    | nil => exact absurd hv.len (by simp)
    | cons v vs =>
      obtain ⟨o, h1, h2, h3, h4⟩ := pureC_ok hH hs hx (hv.at_ 0 a v rfl rfl)
      obtain ⟨os, h5, h6⟩ := pureCs_ok hH r hpx hpy ys vs h2 hy hv.tail
      have one : Cells base σ w hp hpx [x] [v] [o] := ⟨rfl, rfl, fun i x' v' o' hx hv ho => by
        cases i with
        | zero => simp at hx hv ho; subst hx; subst hv; subst ho; exact h1
        | succ i => simp at hx, fun i b hi => by
        cases i with
        | zero => simp at hi; exact h4 b hi
        | succ i => simp at hi, fun i j b hi hj => by
        cases i with
        | succ i => simp at hi
        | zero => cases j with
          | zero => rfl
          | succ j => simp at hj⟩
      exact ⟨o :: os, one.append h5 h3 h6, fun b x hx => h3 b x (h6 b x hx)⟩
end Go.Proofs.YtalfnpdgajfkiaaDoor.Ax
