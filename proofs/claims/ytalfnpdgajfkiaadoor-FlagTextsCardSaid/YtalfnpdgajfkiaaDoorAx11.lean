/- 'Ax', part 11: a state behind an operation that makes new blocks; the calls of functions that are told by their data; all operations that write nothing. -/
import Derived.Test.YtalfnpdgajfkiaaDoorAx9
set_option linter.unusedVariables false
set_option linter.unusedSimpArgs false
namespace Go.Proofs.YtalfnpdgajfkiaaDoor.Ax
open Go

/-- What was there before the call is as it was. -/
structure Kept {T : World → Prop} (base : Bs T) (w w' : World) : Prop where
  os : w'.os = w.os
  tape : w'.tape = w.tape
  output : w'.output = w.output
  size : w.heap.size ≤ w'.heap.size
  same : ∀ k, k < base.n → w'.heap[k]? = w.heap[k]?
theorem Kept.refl {T : World → Prop} (base : Bs T) (w : World) : Kept base w w := ⟨rfl, rfl, rfl, Nat.le_refl _, fun _ _ => rfl⟩
theorem Kept.trans {T : World → Prop} {base : Bs T} {a b c : World} (h : Kept base a b) (h' : Kept base b c) : Kept base a c :=
  ⟨h'.os.trans h.os, h'.tape.trans h.tape, h'.output.trans h.output, Nat.le_trans h.size h'.size, fun k hk => (h'.same k hk).trans (h.same k hk)⟩
theorem Grow.kept {T : World → Prop} {base : Bs T} {w w' : World} (h : Grow w w') (hb : base.n ≤ w.heap.size) : Kept base w w' :=
  ⟨h.os, h.tape, h.output, h.size, fun k hk => h.same k (Nat.lt_of_lt_of_le hk hb)⟩

theorem fresh_look : ∀ (nb hp : HP), fresh nb hp = true → ∀ b x, look nb b = some x → look hp b = none
  | [], _, _, b, x, h => by simp [look] at h
  | (c, y) :: r, hp, hf, b, x, h => by
    simp only [fresh, Bool.and_eq_true, Option.isNone_iff_eq_none] at hf
    rw [look_cons] at h
    by_cases hc : c = b
    · subst hc; exact hf.1
    · rw [if_neg hc] at h
      have := fresh_look r _ hf.2 b x h
      rw [look_cons, if_neg hc] at this
      exact this
theorem TR.putO {σ : Sg} {w : World} {tm : TM} {vs : Array Value} {ds : List Deferred} (h : TR σ w tm vs) {d : Option Tmp} {a : AV} {v : Value} (hd : ∀ t, d = some t → t < vs.size) (hr : VR σ w a v) :
    TR σ w (putO d a tm) ((⟨vs, ds⟩ : Act).put d v).tmps := by
  cases d with
  | none => exact h
  | some d =>
    have hd := hd d rfl
    intro t b hb
    simp only [Ax.putO] at hb
    rw [look_cons] at hb
    simp only [Act.put]
    by_cases hs : d = t
    · subst hs
      rw [if_pos rfl] at hb; cases hb
      exact ⟨v, by simp [hd], hr⟩
    · rw [if_neg hs] at hb
      obtain ⟨u, hu, hru⟩ := h t b hb
      exact ⟨u, by rw [Array.getElem?_setIfInBounds_ne (by omega)]; exact hu, hru⟩
theorem put_size (vs : Array Value) (ds : List Deferred) (d : Option Tmp) (v : Value) : ((⟨vs, ds⟩ : Act).put d v).tmps.size = vs.size := by
  cases d <;> simp [Act.put]
theorem put_defers (vs : Array Value) (ds : List Deferred) (d : Option Tmp) (v : Value) : ((⟨vs, ds⟩ : Act).put d v).defers = ds := by
  cases d <;> rfl
/-- New blocks join the call's own. -/
theorem NewR.joinTo {T : World → Prop} {base : Bs T} {σ : Sg} {w w' : World} {hp hp' nb : HP} {a : AV} {v : Value} (hN : NewR σ w a nb v w') (hH : HR base σ w hp) (hb : base.n ≤ w.heap.size) (hnone : ∀ b x, look nb b = some x → σ b = none)
    (hlook1 : ∀ b x, look nb b = some x → look hp' b = some x) (hlook : ∀ b x, look nb b = none → look hp b = some x → look hp' b = some x) :
    ∃ σ' : Sg, σ'.G = σ.G ∧ VR σ' w' a v ∧ HR base σ' w' hp' ∧ Ext (okS σ) w w' ∧ (∀ k, k < w.heap.size → okS σ k → okS σ' k) ∧ (∀ b r, σ b = some r → σ' b = some r) ∧ (∀ b, look nb b = none → σ b = none → σ' b = none) := by
  obtain ⟨hg, τ, h1, h2, h3⟩ := hN
  have hover : ∀ b r, σ b = some r → upd σ nb τ b = some r := fun b r hr => by
    rw [upd_at]
    cases hl : look nb b with
    | none => simpa using hr
    | some x => rw [hnone b x hl] at hr; cases hr
  have hback : ∀ b r, upd σ nb τ b = some r → (∃ x, look nb b = some x ∧ r = τ b) ∨ (look nb b = none ∧ σ b = some r) := fun b r hr => by
    rw [upd_at] at hr
    cases hl : look nb b with
    | none => rw [hl] at hr; exact .inr ⟨rfl, by simpa using hr⟩
    | some x => rw [hl] at hr; simp at hr; exact .inl ⟨x, rfl, hr.symm⟩
  have hok : ∀ k, k < w.heap.size → okS σ k → okS (upd σ nb τ) k := fun k hk ho => ⟨ho.1, fun b t ht => by
    rcases hback b _ ht with ⟨x, hx, he⟩ | ⟨_, hx⟩
    · have := ((h1 b x hx).1 t he.symm).1; omega
    · exact ho.2 b t hx⟩
  refine ⟨upd σ nb τ, rfl, h3, ⟨fun x y k k' hx hy e => ?_, hH.g, base.keep _ _ (fun k hk => hg.same k (Nat.lt_of_lt_of_le hk hb)) hH.t, fun b k hk => ?_, fun b hb' => ?_⟩, hg.ext _, hok, hover, fun b h h' => by rw [upd_at, h]; simpa using h'⟩
  · rcases hback x _ hx with ⟨u, hu, e1⟩ | ⟨_, hu⟩ <;> rcases hback y _ hy with ⟨v, hv, e2⟩ | ⟨_, hv⟩
    · exact h2 x y u v k k' hu hv e1.symm e2.symm e
    · have := ((h1 x u hu).1 k e1.symm).1; have := (hH.blk y k' hv).2.1; omega
    · have := ((h1 y v hv).1 k' e2.symm).1; have := (hH.blk x k hu).2.1; omega
    · exact hH.inj x y k k' hu hv e
  · rcases hback b _ hk with ⟨u, hu, e1⟩ | ⟨hn, hu⟩
    · obtain ⟨g1, g2, g3⟩ := (h1 b u hu).1 k e1.symm
      exact ⟨Nat.le_trans hb g1, g2, u, hlook1 b u hu, g3⟩
    · obtain ⟨g1, g2, x, g3, g4⟩ := hH.blk b k hu
      refine ⟨g1, Nat.lt_of_lt_of_le g2 hg.size, x, hlook b x hn g3, ?_⟩
      cases x with
      | row s l => exact ⟨g4.1, g4.2.1, RowBlk.ext g4.2.2 (hg.ext _) hok (hg.same _ g2)⟩
      | iter s p => exact ⟨g4.1, (hg.same _ g2).trans g4.2⟩
      | map kc vc l => exact ⟨g4.1, by rw [hg.same _ g2]; exact g4.2⟩
      | vars l => exact ⟨g4.1, VarsBlk.ext g4.2 (hg.ext _) hok (hg.same _ g2) rfl fun j a ha => .inr ⟨ha, fun b _ r hr => hover b r hr⟩⟩
  · rcases hback b _ hb' with ⟨u, hu, e1⟩ | ⟨hn, hu⟩
    · obtain ⟨sz, rfl⟩ := (h1 b u hu).2 e1.symm
      exact ⟨sz, hlook1 b _ hu⟩
    · obtain ⟨s, g⟩ := hH.nil b hu
      exact ⟨s, hlook b _ hn g⟩
theorem NewR.join {T : World → Prop} {base : Bs T} {σ : Sg} {w w' : World} {hp nb : HP} {a : AV} {v : Value} (hN : NewR σ w a nb v w') (hH : HR base σ w hp) (hb : base.n ≤ w.heap.size) (hf : fresh nb hp = true) :
    ∃ σ' : Sg, σ'.G = σ.G ∧ VR σ' w' a v ∧ HR base σ' w' (nb ++ hp) ∧ Ext (okS σ) w w' ∧ (∀ k, k < w.heap.size → okS σ k → okS σ' k) ∧ (∀ b r, σ b = some r → σ' b = some r) := by
  obtain ⟨σ', h1, h2, h3, h4, h5, h6, _⟩ := hN.joinTo (hp' := nb ++ hp) hH hb (fun b x hx => hH.none_of (fresh_look nb hp hf b x hx)) (fun b x h => by rw [look_append, h]; rfl) fun b x h h' => by rw [look_append, h, h']; rfl
  exact ⟨σ', h1, h2, h3, h4, h5, h6⟩
theorem Rel.new {T : World → Prop} {base : Bs T} {ups : List (Array Value)} {σ : Sg} {st st' : St} {vs : Array Value} {ds : List Deferred} {w w' : World} {d : Option Tmp} {a : AV} {nb : HP} {v : Value} (h : Rel base ups σ st vs w) (hN : NewR σ w a nb v w') (hb : base.n ≤ w.heap.size)
    (hd : ∀ t, d = some t → t < vs.size) (hm : addBlks st d a nb = some st') : ∃ σ', Rel base ups σ' st' ((⟨vs, ds⟩ : Act).put d v).tmps w' ∧ Kept base w w' := by
  unfold addBlks at hm
  split at hm
  · rename_i hf
    cases hm
    obtain ⟨σ', hG, h1, h2, h3, h4, h5⟩ := hN.join h.hp hb hf
    have ht : ∀ tm vs, TR σ w tm vs → TR σ' w' tm vs := fun tm vs ht => ht.ext h3 h4 fun s a ha => .inr ⟨ha, fun b _ r hr => h5 b r hr⟩
    exact ⟨σ', ⟨(ht _ _ h.tm).putO hd h1, h.up.ext' ht, h2⟩, hN.grow.kept hb⟩
  · cases hm

/-! ### Calls of functions that are told by their data -/
def Enters (P : Program) (g : FuncId) : Prop := ∃ fn, P.funcs[g]? = some fn ∧ (fn.name == "runtime.NumGoroutine") = false ∧ fn.body.isNone = false
theorem run_callFunc {P : Program} {g : FuncId} (h : Enters P g) (args : Array Value) (w : World) : (callFunc g args).run P w = .ok (.enter g args) w := by
  obtain ⟨fn, h1, h2, h3⟩ := h
  unfold callFunc
  simp only [Sem.run_bind, run_program, Result.andThen_ok, h1, h2, h3, Bool.false_eq_true, if_false, Sem.run_pure]
/-- What is handed back, whatever blocks the caller has. -/
def ResOK (ok : Nat → Prop) (fl : Bool) (w : World) (rs : List PV) (v : Value) (w' : World) : Prop :=
  ∀ (σ : Sg) (id : Nat), (fl = true ∨ ∀ k, k < w.heap.size → ok k → okS σ k) → (∀ k, w.heap.size ≤ k → σ.G k) → (∀ (b : Nat) (k : Bk), σ b = some (some k) → k.k < w.heap.size) → (∀ b x, look (resAV id rs).2 b = some x → σ b = none) →
    NewR σ w (resAV id rs).1 (resAV id rs).2 v w'
def Told (P : Program) (T : World → Prop) (m : List (List (Option Nat)) × Bool) (g : FuncId) (xs rs : List PV) : Prop :=
  Enters P g ∧ ∀ (ok : Nat → Prop) (w : World) (vs : List Value), T w → PW (Rd ok w) xs vs → Calls P g vs.toArray w fun
    | .returned v, w' => ResOK ok m.2 w rs v w'
    | _, _ => False
def ClOK (E : Env) (cl : FuncId → List PV → R) : Prop := ∀ g m xs rs, E.sig g = some m → E.prim g = none → cl g xs = some rs → Told E.P E.T m g xs rs
/-- A function that is walked in place, told by a Lean function with what goes on behind it. -/
def IpOK (E : Env) (g : FuncId) (h : List AV → HP → List TM → (List AV → HP → List TM → R) → R) : Prop := ∀ (args : List AV) (hp : HP) (up : List TM) (K : List AV → HP → List TM → R) (r : List PV), h args hp up K = some r → Enters E.P g ∧
  ∀ (base : Bs E.T) (σ : Sg) (w : World) (us : List Value) (ups : List (Array Value)), PW (VR σ w) args us → UR σ w up ups → HR base σ w hp → base.n ≤ w.heap.size →
    Calls E.P g us.toArray w fun
      | .returned v, w' => ∃ rs hp' up' σ', K rs hp' up' = some r ∧ VR σ' w' (resTup rs) v ∧ UR σ' w' up' ups ∧ HR base σ' w' hp' ∧ Kept base w w'
      | _, _ => False
def PrimOK (E : Env) : Prop := (∀ g h, E.ipk g = some h → IpOK E g h) ∧ (∀ g m h xs rs, E.sig g = some m → E.prim g = some h → h xs = some rs → Told E.P E.T m g xs rs) ∧
  ∀ g m h xs K r, E.sig g = some m → E.pk g = some h → h xs K = some r → ∃ rs, K rs = some r ∧ Told E.P E.T m g xs rs
theorem coerce1_ok {ok : Nat → Prop} {w : World} {o : Option Nat} {x : PV} {v : Value} (h : Rd ok w x v) : Rd ok w (coerce1 o x) v := by
  unfold coerce1
  split
  · cases h; exact .nil _
  · exact h
theorem coerceCells_ok {ok : Nat → Prop} {w : World} : ∀ (m : List (Option Nat)) (l : List PV) (vs : List Value), PW (Rd ok w) l vs → PW (Rd ok w) (coerceCells m l) vs
  | [], l, vs, h => by cases l <;> exact h
  | o :: m, [], vs, h => h
  | o :: m, x :: l, vs, h => by
    cases vs with
    | nil => exact absurd h.len (by simp)
    | cons v vs => exact (coerceCells_ok m l vs h.tail).cons (coerce1_ok (h.at_ 0 x v rfl rfl))
theorem coerce_ok {ok : Nat → Prop} {w : World} {m : List (Option Nat)} {x : PV} {v : Value} (h : Rd ok w x v) : Rd ok w (coerce m x) v := by
  unfold coerce
  split
  · cases h with
    | agg l vs hl hv =>
      have := coerceCells_ok m _ vs ⟨hl, hv⟩
      exact .agg _ _ this.len this.at_
  · split
    · exact coerce1_ok h
    · exact h
theorem coerces_ok {ok : Nat → Prop} {w : World} : ∀ (ms : List (List (Option Nat))) (l : List PV) (vs : List Value), PW (Rd ok w) l vs → PW (Rd ok w) (coerces ms l) vs
  | [], l, vs, h => h
  | m :: ms, [], vs, h => h
  | m :: ms, x :: l, vs, h => by
    cases vs with
    | nil => exact absurd h.len (by simp)
    | cons v vs => exact (coerces_ok ms l vs h.tail).cons (coerce_ok (h.at_ 0 x v rfl rfl))
theorem evs_pw {σ : Sg} {w : World} {tm : TM} {vs : Array Value} {ds : List Deferred} (h : TR σ w tm vs) {l : List Operand} {as : List AV} (ha : evs tm l = some as) : PW (VR σ w) as (l.map (⟨vs, ds⟩ : Act).eval) := by
  obtain ⟨h1, h2⟩ := evs_ok (ds := ds) h ha
  exact ⟨by simp [h1], h2⟩
theorem told_call {P : Program} {T : World → Prop} {m : List (List (Option Nat)) × Bool} {g : FuncId} {xs rs : List PV} (hT : Told P T m g (coerces m.1 xs) rs) {base : Bs T} {σ : Sg} {w : World} {hp : HP} (hH : HR base σ w hp) (hb : base.n ≤ w.heap.size) {id : Nat} {args : List AV} {us : List Value} (ha : PW (VR σ w) args us) (hxs : pureAVs hp args = some xs)
    (hf : ∀ b x, look (resAV id rs).2 b = some x → cutL σ (if m.2 then [] else rowsIns args) b = none) : Calls P g us.toArray w fun
      | .returned v, w' => NewR (cutL σ (if m.2 then [] else rowsIns args)) w (resAV id rs).1 (resAV id rs).2 v w'
      | _, _ => False := by
  have hxw := pureAVs_ok hH (ok := fun k => okS σ k ∨ ∃ b t, b ∈ rowsIns args ∧ σ b = some (some t) ∧ t.k = k) (fun k hk => .inl hk) args xs us hxs ha (fun b k hb hk => .inr ⟨b, k, hb, hk, rfl⟩)
  refine (hT.2 _ w us hH.t (coerces_ok _ _ _ hxw)).mono fun e w' hr => ?_
  cases e with
  | returned v =>
    refine hr _ id ?_ ?_ (cutL_sub hH) hf
    · cases hfl : m.2 with
      | true => exact .inl rfl
      | false =>
        refine .inr fun k hk ho => ?_
        simp only [Bool.false_eq_true, if_false]
        rcases ho with ho | ⟨b, t, hb, ht, rfl⟩
        · exact okS_cutL ho
        · exact okS_cut_row hH b t hb ht
    · intro k hk; rw [cutL_G, hH.g]; exact base.up k (Nat.le_trans hb hk)
  | panicked c => exact hr.elim
  | outgrown => exact hr.elim
theorem callPV_ok {E : Env} {cl : FuncId → List PV → R} (hcl : ClOK E cl) (hpr : PrimOK E) {base : Bs E.T} {σ : Sg} {w : World} {hp : HP} (hH : HR base σ w hp) (hb : base.n ≤ w.heap.size) {id : Nat} {g : FuncId} {args : List AV} {us : List Value} (ha : PW (VR σ w) args us) {y : AV × HP × List Nat}
    (h : callPV E cl hp id g args = some y) (hf : ∀ b x, look y.2.1 b = some x → cutL σ y.2.2 b = none) :
    Enters E.P g ∧ Calls E.P g us.toArray w fun
      | .returned v, w' => NewR (cutL σ y.2.2) w y.1 y.2.1 v w'
      | _, _ => False := by
  simp only [callPV, Option.bind_eq_some_iff] at h
  obtain ⟨m, hm, xs, hxs, h⟩ := h
  split at h
  · simp only [Option.map_eq_some_iff] at h
    obtain ⟨rs, hrs, rfl⟩ := h
    have hT : Told E.P E.T m g (coerces m.1 xs) rs := by
      cases hp : E.prim g with
      | some q => rw [hp] at hrs; exact hpr.2.1 g m q _ _ hm hp hrs
      | none => rw [hp] at hrs; exact hcl g m _ _ hm hp hrs
    exact ⟨hT.1, told_call hT hH hb ha hxs hf⟩
  · cases h
end Go.Proofs.YtalfnpdgajfkiaaDoor.Ax
