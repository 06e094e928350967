/- 'Ax', part 20: regions and code. -/
import Derived.Test.YtalfnpdgajfkiaaDoorAx19
set_option linter.unusedVariables false
set_option linter.unusedSimpArgs false
namespace Go.Proofs.YtalfnpdgajfkiaaDoor.Ax
open Go

def idx : Nat → List Oper → List (Nat × Oper)
  | _, [] => []
  | c, o :: r => (c, o) :: idx (c + 1) r
theorem splitSegs_flatten (m : List Nat) : ∀ (l : List Oper) (c : Nat) (cur : List (Nat × Oper)), (splitSegs m c l cur).flatten = cur ++ idx c l
  | [], c, cur => by simp [splitSegs, idx]
  | o :: r, c, cur => by
    simp only [splitSegs]
    split
    · simp [splitSegs_flatten m r (c + 1) [(c, o)], idx]
    · simp [splitSegs_flatten m r (c + 1) (cur ++ [(c, o)]), idx]
theorem idx_get : ∀ (l : List Oper) (c p : Nat) (x : Nat × Oper), (idx c l)[p]? = some x → x.1 = c + p ∧ l[p]? = some x.2
  | [], c, p, x, h => by simp [idx] at h
  | o :: r, c, p, x, h => by
    cases p with
    | zero => simp [idx] at h; subst h; exact ⟨rfl, rfl⟩
    | succ p =>
      simp only [idx, List.getElem?_cons_succ] at h
      obtain ⟨h1, h2⟩ := idx_get r (c + 1) p x h
      exact ⟨by omega, by simpa using h2⟩
theorem idx_length : ∀ (l : List Oper) (c : Nat), (idx c l).length = l.length
  | [], _ => rfl
  | o :: r, c => by simp [idx, idx_length r]
theorem idx_drop : ∀ (l : List Oper) (c k : Nat), (idx c l).drop k = idx (c + k) (l.drop k)
  | l, c, 0 => by simp
  | [], c, k + 1 => by simp [idx]
  | o :: r, c, k + 1 => by
    simp only [idx, List.drop_succ_cons]
    rw [idx_drop r (c + 1) k, show c + 1 + k = c + (k + 1) by omega]
theorem HR.weaken {T : World → Prop} {base : Bs T} {σ : Sg} {w : World} {hp hp' : HP} (h : HR base σ w hp) (hl : HLe hp hp') : HR base σ w hp' :=
  ⟨h.inj, h.g, h.t, fun b k hk => by obtain ⟨h1, h2, x, h3, h4⟩ := h.blk b k hk; exact ⟨h1, h2, x, hl b x h3, h4⟩, fun b hb => by obtain ⟨s, g⟩ := h.nil b hb; exact ⟨s, hl b _ g⟩⟩
theorem segs_ok {E : Env} {cl : FuncId → List PV → R} {rn : Run} (hcl : ClOK E cl) (hpr : PrimOK E) (hrn : RnOK E rn) {base : Bs E.T} {ups : List (Array Value)} {ds : List Deferred} {fb nt : Nat} {ops : Array Oper} {K : St → R} {r : List PV} {Q : Exit → Act → World → Prop}
    {m : List Nat} (hm1 : ∀ (i a : Nat), m[i]? = some a → ∀ j, a.testBit j = true → Anc ops i j) (hm2 : ∀ (i : Nat) (o : Oper), ops[i]? = some o → ∀ j, j ∈ afters o → j < i) (hm3 : m.length = ops.size) (hdk : ops.toList.all (dstOK nt) = true) :
    ∀ (segs : List (List (Nat × Oper))) (c : Nat) (σ : Sg) (st : St) (vs : Array Value) (w : World) (listed : Array Bool), segK E cl rn fb nt ops segs st K = some r → segs.flatten = idx c (ops.toList.drop c) → c ≤ ops.size → segsOK ops m c segs = true →
      Rel base ups σ st vs w → base.n ≤ w.heap.size → vs.size = nt → Goes r base ups nt ds w K (Q .normal) → Lst ops.size listed (fun i => decide (i < c)) → wpAny E.P .any ops Q (ops.size - c) listed ⟨vs, ds⟩ w
  | [], c, σ, st, vs, w, listed, h, hfl, hc, hok, hR, hb, hv, hn, hL => by
    have hlen : ops.size - c = 0 := by
      have := congrArg List.length hfl
      rw [idx_length] at this
      simp at this
      omega
    rw [hlen]
    refine ⟨?_, hn st σ vs w h hR hv (Kept.refl _ _)⟩
    cases hr : Region.ready .any ops listed with
    | nil => rfl
    | cons i r =>
      have hi : i ∈ Region.ready .any ops listed := by rw [hr]; simp
      obtain ⟨o, ho, h1, _⟩ := hL.ready.1 hi
      have := (Array.getElem?_eq_some_iff.1 ho).1
      simp at h1
      omega
  | s :: segs, c, σ, st, vs, w, listed, h, hfl, hc, hok, hR, hb, hv, hn, hL => by
    simp only [segsOK, Bool.and_eq_true] at hok
    obtain ⟨⟨hcut, hro⟩, hok'⟩ := hok
    simp only [List.flatten_cons] at hfl
    have hidx : ∀ (p : Nat) (x : Nat × Oper), s[p]? = some x → x.1 = c + p ∧ ops[c + p]? = some x.2 := fun p x hx => by
      have h1 : (s ++ segs.flatten)[p]? = some x := by rw [List.getElem?_append_left (List.getElem?_eq_some_iff.1 hx).1]; exact hx
      rw [hfl] at h1
      obtain ⟨h2, h3⟩ := idx_get _ _ _ _ h1
      exact ⟨h2, by rw [List.getElem?_drop] at h3; simpa using h3⟩
    have hfl' : segs.flatten = idx (c + s.length) (ops.toList.drop (c + s.length)) := by
      have h1 := congrArg (List.drop s.length) hfl
      rw [List.drop_left, idx_drop, List.drop_drop] at h1
      exact h1
    have hc' : c + s.length ≤ ops.size := by
      have h1 := congrArg List.length hfl
      rw [idx_length] at h1
      simp at h1
      omega
    have next : ∀ σ1 st1 vs1 w1 listed1, segK E cl rn fb nt ops segs st1 K = some r → Rel base ups σ1 st1 vs1 w1 → vs1.size = nt → Kept base w w1 → Lst ops.size listed1 (fun i => decide (i < c + s.length)) → wpAny E.P .any ops Q (ops.size - (c + s.length)) listed1 ⟨vs1, ds⟩ w1 :=
      fun σ1 st1 vs1 w1 listed1 g1 g2 g3 g4 g5 => segs_ok hcl hpr hrn hm1 hm2 hm3 hdk segs (c + s.length) σ1 st1 vs1 w1 listed1 g1 hfl' hc' hok' g2 (Nat.le_trans hb g4.size) g3 (hn.from g4) g5
    have hDn : Down ops (fun i => decide (i < c)) := fun i o ho hi j hj => by
      have := hm2 i o ho j hj
      simp at hi ⊢; omega
    simp only [segK] at h
    split at h
    · -- one operation
      rename_i i o
      obtain ⟨hi, ho⟩ := hidx 0 (i, o) rfl
      simp only [Nat.add_zero] at hi ho
      have hi : i = c := hi
      subst hi
      have hlt : i < ops.size := (Array.getElem?_eq_some_iff.1 ho).1
      have hready : ∀ k, k ∈ Region.ready .any ops listed → k = i := fun k hk => by
        obtain ⟨ok, hok, g1, g2⟩ := hL.ready.1 hk
        have hksz := (Array.getElem?_eq_some_iff.1 hok).1
        simp at g1
        by_cases hki : k = i
        · exact hki
        · have hmk : m[k]? = some m[k] := List.getElem?_eq_getElem (by omega)
          have := hDn.anc_ready (hm1 k _ hmk i (cutAt_bit hcut (by simp; omega) hmk i (by simp))) hok (fun j hj => (g2 j hj).2) hm2
          simp at this
      rw [show ops.size - i = (ops.size - (i + 1)) + 1 by omega]
      refine ⟨fun hr => ?_, fun k hk => ?_⟩
      · have : i ∈ Region.ready .any ops listed := hL.ready.2 ⟨o, ho, by simp, fun j hj => by have := hm2 i o ho j hj; exact ⟨by omega, by simp; omega⟩⟩
        rw [hr] at this; cases this
      · have := hready k hk
        subst this
        unfold wpOp
        rw [ho]
        simp only
        refine op1_ok hcl hpr hrn h (List.all_eq_true.1 hdk o (by have := Array.mem_of_getElem? ho; simpa using this)) hR hb hv fun st' σ' vs' w' g1 g2 g3 g4 => ?_
        refine next σ' st' vs' w' _ g1 g2 g3 g4 ⟨by simp [hL.size], fun j hj => ?_⟩
        have := (hL.mark k).at_ j hj
        rw [this]
        unfold mark1
        simp only [List.length_singleton]
        congr 1
        by_cases hjk : j = k
        · subst hjk; simp
        · rw [if_neg hjk]; simp; omega
    · -- many
      obtain ⟨outs, tm2, tm', hp', hT, hle, hK⟩ := free_tr hpr _ _ h
      obtain ⟨hlen, hat⟩ := hT.at_
      refine free_ok hcl hpr hT hm1 hm2 hm3 hidx hcut hro hdk hc' (w0 := w) (ups := ups) (base := base) (up := st.up) (fun σ1 vs1 w1 listed1 g1 g2 g3 g4 => next σ1 _ vs1 w1 listed1 hK ⟨fun s' a ha => g1.tm s' a (by rw [← hle s']; exact ha), g1.up, g1.hp⟩ g2 g3 g4) _ (fun i => decide (i < c)) listed σ vs w (unl_lt _ _ hc).symm hL hDn (fun j hj => by simpa using hj) (fun j hj => by simp; omega)
        ⟨hR.hp.weaken hT.le, fun p y hy _ b x hx => ?_, hR.up, fun s' a ha _ => hR.tm s' a ha, fun p x y s' _ _ hf => by simp at hf; omega, hv, Kept.refl _ _, hb⟩
      obtain ⟨⟨i, o⟩, hp⟩ : ∃ x, s[p]? = some x := ⟨s[p]'(by rw [← hlen]; exact (List.getElem?_eq_some_iff.1 hy).1), List.getElem?_eq_getElem _⟩
      obtain ⟨a, nb, tmp, hpp, g1, g2⟩ := hat p i o hp
      rw [hy] at g1; cases g1
      exact hR.hp.none_of (g2.old b x hx)
theorem Rel.drew {T : World → Prop} {base : Bs T} {ups : List (Array Value)} {σ : Sg} {st : St} {vs : Array Value} {w : World} (h : Rel base ups σ st vs w) : Rel base ups σ st vs { w with drawn := w.drawn + 1 } := by
  have hE := Ext.drew (okS σ) w
  have ht : ∀ tm vs, TR σ w tm vs → TR σ { w with drawn := w.drawn + 1 } tm vs := fun tm vs ht => ht.ext hE (fun _ _ h => h) fun s a ha => .inr ⟨ha, fun _ _ _ h => h⟩
  refine ⟨ht _ _ h.tm, h.up.ext' ht, ⟨h.hp.inj, h.hp.g, base.keep w _ (fun _ _ => rfl) h.hp.t, fun b k hk => ?_, h.hp.nil⟩⟩
  obtain ⟨h1, h2, x, h3, h4⟩ := h.hp.blk b k hk
  refine ⟨h1, h2, x, h3, ?_⟩
  cases x with
  | row s l => exact ⟨h4.1, h4.2.1, RowBlk.ext h4.2.2 hE (fun _ _ h => h) rfl⟩
  | iter s p => exact h4
  | vars l => exact ⟨h4.1, VarsBlk.ext h4.2 hE (fun _ _ h => h) rfl rfl fun j a ha => .inr ⟨ha, fun _ _ _ h => h⟩⟩
theorem region_ok {E : Env} {cl : FuncId → List PV → R} {rn : Run} (hmix : E.P.follows .mixedOrders = true) (hcl : ClOK E cl) (hpr : PrimOK E) (hrn : RnOK E rn) {base : Bs E.T} {ups : List (Array Value)} {ds : List Deferred} {fb nt id : Nat} {ops : Array Oper} {K : St → R} {r : List PV} {Q : Exit → Act → World → Prop}
    {segs : List (List (Nat × Oper))} (hs : segsOf ops = some segs) (hdk : ops.toList.all (dstOK nt) = true) {σ : Sg} {st : St} {vs : Array Value} {w : World} (h : segK E cl rn fb nt ops segs st K = some r) (hR : Rel base ups σ st vs w) (hb : base.n ≤ w.heap.size) (hv : vs.size = nt) (hn : Goes r base ups nt ds w K (Q .normal)) :
    (Code.region id ops true).wp E.P Q ⟨vs, ds⟩ w := by
  simp only [segsOf, Option.bind_eq_some_iff] at hs
  obtain ⟨m, hm, hs⟩ := hs
  split at hs
  · rename_i hok
    cases hs
    obtain ⟨hm1, hm2, hm3⟩ := ancs_ok (ops := ops) ops.toList [] m hm (by simp) (by simp) (fun i a h => by simp at h) (fun i o h => by simp at h)
    have hk : Kept base w { w with drawn := w.drawn + 1 } := ⟨rfl, rfl, rfl, Nat.le_refl _, fun _ _ => rfl⟩
    refine wp_region_any hmix ?_
    have := segs_ok hcl hpr hrn hm1 hm2 hm3 hdk (splitSegs m 0 ops.toList []) 0 σ st vs { w with drawn := w.drawn + 1 } (Array.replicate ops.size false) h (by rw [splitSegs_flatten]; simp) (Nat.zero_le _) hok hR.drew hb hv (hn.from hk) ⟨by simp, fun i hi => by simp [hi]⟩ (Q := Q)
    simpa using this
  · cases hs
end Go.Proofs.YtalfnpdgajfkiaaDoor.Ax
