/- 'Ax', part 19: regions whose order is drawn. -/
import Derived.Test.YtalfnpdgajfkiaaDoorAx18
set_option linter.unusedVariables false
set_option linter.unusedSimpArgs false
namespace Go.Proofs.YtalfnpdgajfkiaaDoor.Ax
open Go

/-- How things stand within a segment: what is done of it is told by f. -/
structure FInv {T : World → Prop} (base : Bs T) (ups : List (Array Value)) (up : List TM) (nt c : Nat) (l : List (Nat × Oper)) (outs : List (AV × HP)) (tm : TM) (hp : HP) (w0 : World) (f : Nat → Bool) (σ : Sg) (vs : Array Value) (w : World) : Prop where
  hr : HR base σ w hp
  new : ∀ (p : Nat) (y : AV × HP), outs[p]? = some y → f (c + p) = false → ∀ b x, look y.2 b = some x → σ b = none
  ur : UR σ w up ups
  s0 : ∀ (s : Nat) (a : AV), look tm s = some a → (∀ (q : Nat) (x : Nat × Oper), l[q]? = some x → x.2.dst ≠ some s) → ∃ v : Value, vs[s]? = some v ∧ VR σ w a v
  sq : ∀ (p : Nat) (x : Nat × Oper) (y : AV × HP) (s : Nat), l[p]? = some x → outs[p]? = some y → f (c + p) = true → x.2.dst = some s → ∃ v : Value, vs[s]? = some v ∧ VR σ w y.1 v
  sz : vs.size = nt
  kept : Kept base w0 w
  le : base.n ≤ w.heap.size
theorem free_step {E : Env} {cl : FuncId → List PV → R} (hcl : ClOK E cl) (hpr : PrimOK E) {base : Bs E.T} {ups : List (Array Value)} {up : List TM} {nt c fb : Nat} {ops : Array Oper} {l : List (Nat × Oper)} {outs : List (AV × HP)} {tm tm' : TM} {hp hp' : HP} {ds : List Deferred} {w0 : World} {Q : Exit → Act → World → Prop}
    (hT : Tr E cl fb ops l tm hp outs tm' hp') {f : Nat → Bool} {σ : Sg} {vs : Array Value} {w : World} (hI : FInv base ups up nt c l outs tm hp' w0 f σ vs w) {p : Nat} {o : Oper} (hp1 : l[p]? = some (c + p, o)) (ho : ops[c + p]? = some o) (hf : f (c + p) = false) (hdk : dstOK nt o = true)
    (hread : ∀ (q : Nat) (x : Nat × Oper) (s : Nat), l[q]? = some x → x.2.dst = some s → s ∈ o.looksAt ops → q < p ∧ f (c + q) = true)
    (hdist : ∀ (q q' : Nat) (x x' : Nat × Oper) (s : Nat), l[q]? = some x → l[q']? = some x' → x.2.dst = some s → x'.2.dst = some s → q = q')
    {K : Act → World → Prop} (hK : ∀ σ' vs' w', FInv base ups up nt c l outs tm hp' w0 (mark1 f (c + p)) σ' vs' w' → K ⟨vs', ds⟩ w') : wpOp E.P ops Q (c + p) K ⟨vs, ds⟩ w := by
  obtain ⟨hlen, hat⟩ := hT.at_
  obtain ⟨a, nb, tmp, hpp, hout, hA⟩ := hat p (c + p) o hp1
  have hd : ∀ t, o.dst = some t → t < vs.size := by rw [hI.sz]; exact dstOK_lt hdk
  -- what is read is there
  have hlook : ∀ s, s ∈ o.looksAt ops → ∀ b, look tmp s = some b → ∃ v : Value, vs[s]? = some v ∧ VR σ w b v := by
    intro s hs b hb
    by_cases hex : ∃ (q : Nat) (x : Nat × Oper), l[q]? = some x ∧ x.2.dst = some s
    · obtain ⟨q, x, hq, hxs⟩ := hex
      obtain ⟨h1, h2⟩ := hread q x s hq hxs hs
      obtain ⟨y, hy⟩ : ∃ y, outs[q]? = some y := ⟨outs[q]'(by rw [hlen]; exact (List.getElem?_eq_some_iff.1 hq).1), List.getElem?_eq_getElem _⟩
      have := hA.lookq s q x y h1 hq hy hxs fun q' x' h3 h4 h5 h6 => by have := hdist q q' x x' s hq h5 hxs h6; omega
      rw [hb] at this; cases this
      exact hI.sq q x y s hq hy h2 hxs
    · have hno : ∀ (q : Nat) (x : Nat × Oper), l[q]? = some x → x.2.dst ≠ some s := fun q x hq hx => hex ⟨q, x, hq, hx⟩
      rw [hA.look0 s fun q x _ hq => hno q x hq] at hb
      exact hI.s0 s b hb hno
  -- behind it
  have after : ∀ (v : Value) (w' : World), NewR σ w a nb v w' → K ((⟨vs, ds⟩ : Act).put o.dst v) w' := by
    intro v w' hN
    obtain ⟨σ', hG, h1, h2, h3, h4, h5, h6⟩ := hN.joinTo (hp' := hp') hI.hr hI.le (hI.new p (a, nb) hout hf) hA.new fun b x _ h => h
    have live : ∀ (b : AV) (u : Value), VR σ w b u → VR σ' w' b u := fun b u hu => hu.ext h3 h4 fun x _ r hr => h5 x r hr
    rw [act_put]
    refine hK σ' _ w' ⟨h2, fun q y hq hfq b x hx => ?_, hI.ur.ext' fun tm vs ht => ht.ext h3 h4 fun s a ha => .inr ⟨ha, fun b _ r hr => h5 b r hr⟩, fun s b hb hno => ?_, fun q x y s hq hy hfq hxs => ?_, (put_size _ _ _ _).trans hI.sz, hI.kept.trans (hN.grow.kept hI.le), Nat.le_trans hI.le hN.grow.size⟩
    · unfold mark1 at hfq
      by_cases hqp : c + q = c + p
      · rw [if_pos hqp] at hfq; cases hfq
      · rw [if_neg hqp] at hfq
        refine h6 b ?_ (hI.new q y hq hfq b x hx)
        -- the new blocks of two operations are apart
        by_cases hlt : q < p
        · cases hn : look nb b with
          | none => rfl
          | some z => rw [hA.apart q y b z hlt hq hn] at hx; cases hx
        · obtain ⟨⟨iq, oq⟩, hlq⟩ : ∃ x, l[q]? = some x := ⟨l[q]'(by rw [← hlen]; exact (List.getElem?_eq_some_iff.1 hq).1), List.getElem?_eq_getElem _⟩
          obtain ⟨a2, nb2, tm2, hp2, g1, g2⟩ := hat q iq oq hlq
          rw [hq] at g1; cases g1
          exact g2.apart p (a, nb) b x (by omega) hout hx
    · obtain ⟨u, hu, hv⟩ := hI.s0 s b hb hno
      have : o.dst ≠ some s := hno p (c + p, o) hp1
      refine ⟨u, ?_, live b u hv⟩
      cases hdst : o.dst with
      | none => exact hu
      | some d =>
        simp only [Act.put]
        rw [Array.getElem?_setIfInBounds_ne (fun e => this (by rw [hdst, e]))]; exact hu
    · unfold mark1 at hfq
      by_cases hqp : q = p
      · subst hqp
        rw [hp1] at hq; cases hq
        rw [hout] at hy; cases hy
        have hxs : o.dst = some s := hxs
        refine ⟨v, ?_, h1⟩
        rw [hxs]
        have := hd s hxs
        simp [Act.put, this]
      · rw [if_neg (by omega)] at hfq
        obtain ⟨u, hu, hv⟩ := hI.sq q x y s hq hy hfq hxs
        refine ⟨u, ?_, live _ u hv⟩
        cases hdst : o.dst with
        | none => exact hu
        | some d =>
          have hne : d ≠ s := fun e => hqp (hdist q p x (c + p, o) s hq hp1 hxs (by rw [← e]; exact hdst))
          simp only [Act.put]
          rw [Array.getElem?_setIfInBounds_ne hne]; exact hu
  unfold wpOp
  rw [ho]
  simp only
  cases hA.did with
  | run hg hop hfr =>
    have hw : Region.wanted o (yielded ops vs) = true := by
      rcases hg with hg | ⟨j, want, d, hg, hj, hl⟩
      · unfold Region.wanted; rw [hg]
      · obtain ⟨v, hv1, hv2⟩ := hlook d (by unfold Oper.looksAt; rw [hg]; simp [hj]) _ hl
        have := hv2.litEq
        subst this
        unfold Region.wanted
        rw [hg]
        simp only [yielded, hj, Option.bind_some, hv1]
        simp
    rw [if_pos hw]
    refine .inl ?_
    have hcongr := hop.congr (tm' := only (o.looksAt ops) tmp) (fun x hx => by
      cases x with
      | tmp t =>
        simp only [ev]
        rw [look_only, if_pos]
        exact List.mem_append_left _ (List.mem_filterMap.2 ⟨.tmp t, hx, rfl⟩)
      | _ => rfl) hA.le
    have hTR : TR σ w (only (o.looksAt ops) tmp) vs := fun s b hb => by
      rw [look_only] at hb
      split at hb
      · rename_i hs; exact hlook s hs b hb
      · cases hb
    exact hcongr.ok hcl hpr (ds := ds) hTR hI.hr hI.le (fun b x hx => hI.new p (a, nb) hout hf b x hx) K Q fun v w' hN => after v w' hN
  | skip hg hj hl hv =>
    rename_i j want d v
    obtain ⟨u, hv1, hv2⟩ := hlook d (by unfold Oper.looksAt; rw [hg]; simp [hj]) _ hl
    have := hv2.litEq
    subst this
    have hy : yielded ops vs j ≠ some want := by
      unfold yielded
      rw [hj]
      simp only [Option.bind_some, hv1]
      clear hA hT hK hread hdist after hlook hat hl
      cases u with
      | bool b => intro h; cases h; exact hv rfl
      | _ => intro h; cases h
    have hw : ¬ Region.wanted o (yielded ops vs) = true := by
      unfold Region.wanted
      rw [hg]
      simp only [beq_iff_eq]
      exact hy
    rw [if_neg hw]
    exact after undef w (.of_val (VR.lit _ _ _))
theorem unl_lt (n d : Nat) (h : d ≤ n) : unl n (fun i => decide (i < d)) = n - d := by
  induction n with
  | zero => simp [unl]
  | succ n ih =>
    simp only [unl]
    by_cases hd : d = n + 1
    · subst hd
      have : unl n (fun i => decide (i < n + 1)) = unl n (fun i => decide (i < n)) := unl_same n fun i hi => by simp; omega
      rw [this]
      have h2 : ∀ k, unl k (fun i => decide (i < k)) = 0 := by
        intro k
        have h3 : ∀ j, j ≤ k → unl j (fun i => decide (i < k)) = 0 := by
          intro j
          induction j with
          | zero => intro _; rfl
          | succ j ihj => intro hj; simp only [unl]; rw [ihj (by omega)]; simp; omega
        exact h3 k (Nat.le_refl k)
      rw [h2]; simp
    · rw [ih (by omega)]
      simp
      rw [if_neg (by omega)]; omega
theorem free_ok {E : Env} {cl : FuncId → List PV → R} (hcl : ClOK E cl) (hpr : PrimOK E) {base : Bs E.T} {ups : List (Array Value)} {up : List TM} {nt c fb : Nat} {ops : Array Oper} {l : List (Nat × Oper)} {outs : List (AV × HP)} {tm tm' : TM} {hp hp' : HP} {ds : List Deferred} {w0 : World} {Q : Exit → Act → World → Prop}
    (hT : Tr E cl fb ops l tm hp outs tm' hp') {m : List Nat} (hm1 : ∀ (i a : Nat), m[i]? = some a → ∀ j, a.testBit j = true → Anc ops i j) (hm2 : ∀ (i : Nat) (o : Oper), ops[i]? = some o → ∀ j, j ∈ afters o → j < i) (hm3 : m.length = ops.size)
    (hidx : ∀ (p : Nat) (x : Nat × Oper), l[p]? = some x → x.1 = c + p ∧ ops[c + p]? = some x.2) (hcut : cutAt m (c + l.length) = true) (hro : l.all (readOK ops m l) = true) (hdk : ops.toList.all (dstOK nt) = true) (hcl2 : c + l.length ≤ ops.size)
    (hnext : ∀ σ vs w listed, Rel base ups σ ⟨tm', up, hp'⟩ vs w → vs.size = nt → Kept base w0 w → Lst ops.size listed (fun i => decide (i < c + l.length)) → wpAny E.P .any ops Q (ops.size - (c + l.length)) listed ⟨vs, ds⟩ w) :
    ∀ (fuel : Nat) (f : Nat → Bool) (listed : Array Bool) (σ : Sg) (vs : Array Value) (w : World), fuel = unl ops.size f → Lst ops.size listed f → Down ops f → (∀ j, j < c → f j = true) → (∀ j, c + l.length ≤ j → f j = false) → FInv base ups up nt c l outs tm hp' w0 f σ vs w →
      wpAny E.P .any ops Q fuel listed ⟨vs, ds⟩ w := by
  have hread0 : ∀ (p q : Nat) (x y : Nat × Oper), l[p]? = some x → l[q]? = some y → ∀ s, y.2.dst = some s → (s ∈ x.2.looksAt ops → y.1 < x.1 ∧ (m.getD x.1 0).testBit y.1 = true) ∧ (x.2.dst = some s → x.1 = y.1) := by
    intro p q x y hx hy s hs
    have h1 := List.all_eq_true.1 hro x (List.mem_of_getElem? hx)
    have h2 := List.all_eq_true.1 h1 y (List.mem_of_getElem? hy)
    simp only [hs, Bool.and_eq_true] at h2
    refine ⟨fun hsl => ?_, fun hd => ?_⟩
    · have h3 := h2.1
      rw [if_pos (by simpa using hsl)] at h3
      simpa using h3
    · have h3 := h2.2
      rw [if_pos hd] at h3
      simpa using h3
  have hdist : ∀ (q q' : Nat) (x x' : Nat × Oper) (s : Nat), l[q]? = some x → l[q']? = some x' → x.2.dst = some s → x'.2.dst = some s → q = q' := fun q q' x x' s hq hq' hs hs' => by
    have := (hread0 q q' x x' hq hq' s hs').2 hs
    rw [(hidx q x hq).1, (hidx q' x' hq').1] at this
    omega
  have hlenT := hT.at_.1
  intro fuel
  induction fuel with
  | zero =>
    intro f listed σ vs w hfu hL hDn h1 h2 hI
    have hall := unl_zero ops.size hfu.symm
    have hd : ops.size = c + l.length := by
      by_cases h : ops.size = c + l.length
      · exact h
      · have := hall (c + l.length) (by omega); rw [h2 _ (Nat.le_refl _)] at this; cases this
    have hR : Rel base ups σ ⟨tm', up, hp'⟩ vs w := ⟨fun s a ha => by
      rcases hT.end_ s with ⟨g1, g2⟩ | ⟨q, x, y, g1, g2, g3, g4⟩
      · rw [g2] at ha; exact hI.s0 s a ha g1
      · rw [g4] at ha; cases ha
        exact hI.sq q x y s g1 g2 (hall _ (by have := (List.getElem?_eq_some_iff.1 g1).1; omega)) g3, hI.ur, hI.hr⟩
    have := hnext σ vs w listed hR hI.sz hI.kept ⟨hL.size, fun i hi => by rw [hL.at_ i hi, hall i hi]; simp; omega⟩
    rwa [hd, Nat.sub_self] at this
  | succ fuel ih =>
    intro f listed σ vs w hfu hL hDn h1 h2 hI
    by_cases hdone : ∀ j, j < c + l.length → f j = true
    · have hR : Rel base ups σ ⟨tm', up, hp'⟩ vs w := ⟨fun s a ha => by
        rcases hT.end_ s with ⟨g1, g2⟩ | ⟨q, x, y, g1, g2, g3, g4⟩
        · rw [g2] at ha; exact hI.s0 s a ha g1
        · rw [g4] at ha; cases ha
          exact hI.sq q x y s g1 g2 (hdone _ (by have := (List.getElem?_eq_some_iff.1 g1).1; omega)) g3, hI.ur, hI.hr⟩
      have hf : ∀ i, f i = decide (i < c + l.length) := fun i => by
        by_cases hi : i < c + l.length
        · rw [hdone i hi]; simp [hi]
        · rw [h2 i (by omega)]; simp [hi]
      have := hnext σ vs w listed hR hI.sz hI.kept ⟨hL.size, fun i hi => by rw [hL.at_ i hi, hf i]⟩
      rw [hfu, unl_same ops.size fun i _ => hf i, unl_lt _ _ hcl2]
      exact this
    · have hsome : ∃ j, j < c + l.length ∧ f j = false := by
        refine Classical.byContradiction fun hn => hdone fun j hj => ?_
        cases hf : f j with
        | true => rfl
        | false => exact absurd ⟨j, hj, hf⟩ hn
      obtain ⟨j0, hj0, hjf⟩ := hsome
      refine ⟨fun hr => ?_, fun i hi => ?_⟩
      · obtain ⟨i, g1, g2, g3⟩ := unl_ex ops.size (by omega : 0 < unl ops.size f)
        have : i ∈ Region.ready .any ops listed := hL.ready.2 ⟨ops[i], Array.getElem?_eq_getElem g1, g2, fun j hj => by
          have := hm2 i _ (Array.getElem?_eq_getElem g1) j hj
          exact ⟨by omega, g3 j this⟩⟩
        rw [hr] at this; cases this
      · obtain ⟨o, ho, g1, g2⟩ := hL.ready.1 hi
        have hisz : i < ops.size := (Array.getElem?_eq_some_iff.1 ho).1
        have hge : c ≤ i := by
          by_cases h : c ≤ i
          · exact h
          · rw [h1 i (by omega)] at g1; cases g1
        have hmi : m[i]? = some m[i] := List.getElem?_eq_getElem (by omega)
        have hanc : ∀ j, m[i].testBit j = true → f j = true := fun j hj => hDn.anc_ready (hm1 i _ hmi j hj) ho (fun j hj => (g2 j hj).2) hm2
        have hlt : i < c + l.length := by
          by_cases h : i < c + l.length
          · exact h
          · have := hanc j0 (cutAt_bit hcut (by omega) hmi j0 hj0)
            rw [hjf] at this; cases this
        obtain ⟨p, rfl⟩ : ∃ p, i = c + p := ⟨i - c, by omega⟩
        obtain ⟨⟨ix, ox⟩, hlp⟩ : ∃ x, l[p]? = some x := ⟨l[p]'(by omega), List.getElem?_eq_getElem _⟩
        obtain ⟨hx1, hx2⟩ := hidx p _ hlp
        simp only at hx1 hx2
        rw [ho] at hx2; cases hx2
        subst hx1
        refine free_step hcl hpr hT hI hlp ho g1 (List.all_eq_true.1 hdk o (by have := Array.mem_of_getElem? ho; simpa using this)) (fun q x s hq hs hsl => ?_) hdist fun σ' vs' w' hI' => ?_
        · obtain ⟨k1, k2⟩ := (hread0 p q _ x hlp hq s hs).1 hsl
          have hxq := (hidx q x hq).1
          rw [hxq] at k1 k2
          simp only at k1 k2
          refine ⟨by omega, hanc _ ?_⟩
          rw [List.getD_eq_getElem?_getD, hmi] at k2
          exact k2
        · exact ih (mark1 f (c + p)) _ σ' vs' w' (by have := unl_mark ops.size hisz g1; omega) (hL.mark _) (hDn.mark ho fun j hj => (g2 j hj).2) (fun j hj => by unfold mark1; split; rfl; exact h1 j hj) (fun j hj => by unfold mark1; rw [if_neg (by omega)]; exact h2 j hj) hI'
end Go.Proofs.YtalfnpdgajfkiaaDoor.Ax
