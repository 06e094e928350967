/- 'Ax', part 18: regions whose order is drawn: segments. -/
import Derived.Test.YtalfnpdgajfkiaaDoorAx16
set_option linter.unusedVariables false
set_option linter.unusedSimpArgs false
namespace Go.Proofs.YtalfnpdgajfkiaaDoor.Ax
open Go

/-- What an operation that writes nothing gives. -/
inductive OpR (E : Env) (cl : FuncId → List PV → R) (fb : Nat) (o : Oper) (tm : TM) (hp : HP) : AV → HP → Prop
  | a {a : AV} {nb : HP} (h : opA E cl tm hp (idOf fb o.dst) o = some (a, nb, [])) : OpR E cl fb o tm hp a nb
  | pk {y : FuncId × (List PV → (List PV → R) → R) × List PV × List Nat} {rs : List PV} (h : pkOf E tm hp o = some y) (hk : y.2.2.2 = []) (ht : ∀ m, E.sig y.1 = some m → Told E.P E.T m y.1 y.2.2.1 rs) : OpR E cl fb o tm hp (resAV (idOf fb o.dst) rs).1 (resAV (idOf fb o.dst) rs).2
theorem OpR.congr {E : Env} {cl : FuncId → List PV → R} {fb : Nat} {o : Oper} {tm tm' : TM} {hp hp' nb : HP} {a : AV} (h : OpR E cl fb o tm hp a nb) (hev : ∀ x, x ∈ o.op.operands.toList → ev tm' x = ev tm x) (hh : HLe hp hp') : OpR E cl fb o tm' hp' a nb := by
  cases h with
  | a h => exact .a (opA_congr h hev hh)
  | pk h hk ht => exact .pk (pkOf_congr h hev hh) hk ht
theorem OpR.ok {E : Env} {cl : FuncId → List PV → R} (hcl : ClOK E cl) (hpr : PrimOK E) {base : Bs E.T} {σ : Sg} {w : World} {tm : TM} {vs : Array Value} {ds : List Deferred} {hp nb : HP} {a : AV} {fb : Nat} {o : Oper} (h : OpR E cl fb o tm hp a nb) (hT : TR σ w tm vs) (hH : HR base σ w hp) (hb : base.n ≤ w.heap.size)
    (hf : ∀ b x, look nb b = some x → σ b = none) : Holds E.P o ⟨vs, ds⟩ w fun v w' => NewR σ w a nb v w' := by
  cases h with
  | a h => exact opA_ok hcl hpr (ds := ds) hT hH hb h hf
  | pk h hk ht =>
    have := told_holds (ds := ds) hT hH hb h ht (id := idOf fb o.dst) (by rw [hk]; exact hf)
    rw [hk] at this
    exact this
/-- What became of an operation, in the text's order. -/
inductive Did (E : Env) (cl : FuncId → List PV → R) (fb : Nat) (ops : Array Oper) (o : Oper) (tm : TM) (hp : HP) : AV → HP → Prop
  | run {a : AV} {nb : HP} (hg : o.guard = none ∨ ∃ j want d, o.guard = some (j, want) ∧ (ops[j]?).bind (·.dst) = some d ∧ look tm d = some (.p (.lit (.bool want)))) (h : OpR E cl fb o tm hp a nb) (hf : fresh nb hp = true) : Did E cl fb ops o tm hp a nb
  | skip {j : Nat} {want : Bool} {d : Tmp} {v : Value} (hg : o.guard = some (j, want)) (hj : (ops[j]?).bind (·.dst) = some d) (hl : look tm d = some (.p (.lit v))) (hv : v ≠ .bool want) : Did E cl fb ops o tm hp (.p (.lit undef)) []
inductive Tr (E : Env) (cl : FuncId → List PV → R) (fb : Nat) (ops : Array Oper) : List (Nat × Oper) → TM → HP → List (AV × HP) → TM → HP → Prop
  | nil (tm : TM) (hp : HP) : Tr E cl fb ops [] tm hp [] tm hp
  | cons {i : Nat} {o : Oper} {r : List (Nat × Oper)} {tm tm' : TM} {hp hp' : HP} {a : AV} {nb : HP} {outs : List (AV × HP)} (h : Did E cl fb ops o tm hp a nb) (hr : Tr E cl fb ops r (putO o.dst a tm) (nb ++ hp) outs tm' hp') :
      Tr E cl fb ops ((i, o) :: r) tm hp ((a, nb) :: outs) tm' hp'
def LEq (tm tm' : TM) : Prop := ∀ s : Nat, look tm s = look tm' s
theorem LEq.putO {tm tm' : TM} (h : LEq tm tm') (d : Option Tmp) (a : AV) : LEq (putO d a tm) (putO d a tm') := fun s => by
  cases d with
  | none => exact h s
  | some d => simp only [Ax.putO]; rw [look_cons, look_cons, h s]
theorem LEq.ev {tm tm' : TM} (h : LEq tm tm') (x : Operand) : ev tm' x = ev tm x := by
  cases x with
  | tmp t => exact (h t).symm
  | _ => rfl
theorem LEq.know {tm : TM} {d : Nat} {a : AV} (h : look tm d = some a) : LEq ((d, a) :: tm) tm := fun s => by
  rw [look_cons]
  by_cases hs : d = s
  · subst hs; rw [if_pos rfl, h]
  · rw [if_neg hs]
theorem Did.congr {E : Env} {cl : FuncId → List PV → R} {fb : Nat} {ops : Array Oper} {o : Oper} {tm tm' : TM} {hp nb : HP} {a : AV} (h : Did E cl fb ops o tm hp a nb) (hl : LEq tm tm') : Did E cl fb ops o tm' hp a nb := by
  cases h with
  | run hg hop hf =>
    refine .run ?_ (hop.congr (fun x _ => hl.ev x) fun _ _ h => h) hf
    rcases hg with hg | ⟨j, want, d, h1, h2, h3⟩
    · exact .inl hg
    · exact .inr ⟨j, want, d, h1, h2, by rw [← hl d]; exact h3⟩
  | skip hg hj hlk hv => exact .skip hg hj (by rw [← hl]; exact hlk) hv
theorem Tr.congr {E : Env} {cl : FuncId → List PV → R} {fb : Nat} {ops : Array Oper} {l : List (Nat × Oper)} {tm tm' : TM} {hp hp' : HP} {outs : List (AV × HP)} (h : Tr E cl fb ops l tm hp outs tm' hp') : ∀ {tm2 : TM}, LEq tm tm2 → ∃ tm2', Tr E cl fb ops l tm2 hp outs tm2' hp' ∧ LEq tm' tm2' := by
  induction h with
  | nil => intro tm2 hl; exact ⟨tm2, .nil _ _, hl⟩
  | cons hd _ ih =>
    intro tm2 hl
    obtain ⟨t, h1, h2⟩ := ih (hl.putO _ _)
    exact ⟨t, .cons (hd.congr hl) h1, h2⟩
theorem freeOp_some {E : Env} {cl : FuncId → List PV → R} (hpr : PrimOK E) {fb : Nat} {o : Oper} {st : St} {K : St → R} {r : List PV} (h : freeOp E cl fb o st K = some r) :
    ∃ a nb, OpR E cl fb o st.tm st.hp a nb ∧ fresh nb st.hp = true ∧ K ⟨putO o.dst a st.tm, st.up, nb ++ st.hp⟩ = some r := by
  have add : ∀ {a : AV} {nb : HP}, (addBlks st o.dst a nb).bind K = some r → fresh nb st.hp = true ∧ K ⟨putO o.dst a st.tm, st.up, nb ++ st.hp⟩ = some r := by
    intro a nb h
    simp only [Option.bind_eq_some_iff] at h
    obtain ⟨st', ha, h⟩ := h
    unfold addBlks at ha
    split at ha
    · rename_i hf; cases ha; exact ⟨hf, h⟩
    · cases ha
  unfold freeOp at h
  split at h
  · rename_i y hpk
    obtain ⟨rs, h1, h2⟩ := pk_told hpr hpk h
    split at h1
    · rename_i hk
      obtain ⟨h3, h4⟩ := add h1
      exact ⟨_, _, .pk hpk hk h2, h3, h4⟩
    · cases h1
  · have hA : ∃ y, opA E cl st.tm st.hp (idOf fb o.dst) o = some y ∧ (match y.2.2 with
      | [] => (addBlks st o.dst y.1 y.2.1).bind K
      | _ => none) = some r := by
      split at h
      · rename_i y hs
        cases hc : y.1 with
        | true => rw [hc, cond_true] at h; exact ⟨y.2, soft_ok hs hc, h⟩
        | false => rw [hc, cond_false] at h; cases h
      · obtain ⟨y, hy, h⟩ := Option.bind_eq_some_iff.1 h
        exact ⟨y, hy, h⟩
    obtain ⟨⟨a, nb, ks⟩, hy, h⟩ := hA
    split at h
    · rename_i hks
      simp only at hks
      subst hks
      obtain ⟨h3, h4⟩ := add h
      exact ⟨a, nb, .a hy, h3, h4⟩
    · cases h
theorem free_tr {E : Env} {cl : FuncId → List PV → R} (hpr : PrimOK E) {fb : Nat} {ops : Array Oper} {K : St → R} {r : List PV} : ∀ (l : List (Nat × Oper)) (st : St), freeK E cl fb ops l st K = some r →
    ∃ outs tm' tm'' hp', Tr E cl fb ops l st.tm st.hp outs tm'' hp' ∧ LEq tm' tm'' ∧ K ⟨tm', st.up, hp'⟩ = some r
  | [], st, h => ⟨[], st.tm, st.tm, st.hp, .nil _ _, fun _ => rfl, h⟩
  | (i, o) :: l, st, h => by
    have run : ∀ {tm1 : TM}, LEq tm1 st.tm → (o.guard = none ∨ ∃ j want d, o.guard = some (j, want) ∧ (ops[j]?).bind (·.dst) = some d ∧ look tm1 d = some (.p (.lit (.bool want)))) → freeOp E cl fb o ⟨tm1, st.up, st.hp⟩ (fun st => freeK E cl fb ops l st K) = some r → ∃ outs tm' tm'' hp', Tr E cl fb ops ((i, o) :: l) st.tm st.hp outs tm'' hp' ∧ LEq tm' tm'' ∧ K ⟨tm', st.up, hp'⟩ = some r := by
      intro tm1 hle hg h
      obtain ⟨a, nb, hy, hf, h⟩ := freeOp_some hpr h
      obtain ⟨outs, tm', tm'', hp', h1, h2, h3⟩ := free_tr hpr l _ h
      obtain ⟨t, h4, h5⟩ := (Tr.cons (i := i) (.run hg hy hf) h1).congr hle
      exact ⟨_, tm', t, hp', h4, fun s => (h2 s).trans (h5 s), h3⟩
    have skip : ∀ {tm1 : TM}, LEq tm1 st.tm → ∀ {j : Nat} {want : Bool} {d : Tmp} {v : Value}, o.guard = some (j, want) → (ops[j]?).bind (·.dst) = some d → look tm1 d = some (.p (.lit v)) → v ≠ .bool want → freeK E cl fb ops l ⟨putO o.dst (.p (.lit undef)) tm1, st.up, st.hp⟩ K = some r →
        ∃ outs tm' tm'' hp', Tr E cl fb ops ((i, o) :: l) st.tm st.hp outs tm'' hp' ∧ LEq tm' tm'' ∧ K ⟨tm', st.up, hp'⟩ = some r := by
      intro tm1 hle j want d v hg hj hl hv h
      obtain ⟨outs, tm', tm'', hp', h1, h2, h3⟩ := free_tr hpr l _ h
      obtain ⟨t, h4, h5⟩ := (Tr.cons (i := i) (.skip hg hj hl hv) h1).congr hle
      exact ⟨_, tm', t, hp', h4, fun s => (h2 s).trans (h5 s), h3⟩
    simp only [freeK] at h
    split at h
    · rename_i hg
      exact run (fun _ => rfl) (.inl hg) h
    · rename_i j want hg
      split at h
      · cases h
      · rename_i d hj
        split at h
        · rename_i b hb
          rcases branch_some h with ⟨rfl, hx⟩ | ⟨rfl, hx⟩
          · exact run (LEq.know hb) (.inr ⟨j, b, d, hg, hj, by rw [LEq.know hb]; exact hb⟩) hx
          · exact skip (tm1 := (d, .p (.lit (.bool !want))) :: st.tm) (LEq.know hb) hg hj (by rw [LEq.know hb]; exact hb) (by cases want <;> simp) hx
        · rename_i us hb
          exact skip (fun _ => rfl) hg hj hb (by simp) h
        · cases h
/-- The trace, operation by operation. -/
theorem HLe.append {nb hp : HP} (h : fresh nb hp = true) : HLe hp (nb ++ hp) := fun b x hx => by
  rw [look_append]
  cases hn : look nb b with
  | none => simpa using hx
  | some y => rw [fresh_look nb hp h b y hn] at hx; cases hx
theorem Did.fresh {E : Env} {cl : FuncId → List PV → R} {fb : Nat} {ops : Array Oper} {o : Oper} {tm : TM} {hp nb : HP} {a : AV} (h : Did E cl fb ops o tm hp a nb) : Ax.fresh nb hp = true := by
  cases h with
  | run _ _ hf => exact hf
  | skip => rfl
theorem Tr.le {E : Env} {cl : FuncId → List PV → R} {fb : Nat} {ops : Array Oper} {l : List (Nat × Oper)} {tm tm' : TM} {hp hp' : HP} {outs : List (AV × HP)} (h : Tr E cl fb ops l tm hp outs tm' hp') : HLe hp hp' := by
  induction h with
  | nil => exact fun _ _ h => h
  | cons h _ ih => exact fun b x hx => ih b x (HLe.append h.fresh b x hx)
structure TrAt (E : Env) (cl : FuncId → List PV → R) (fb : Nat) (ops : Array Oper) (l : List (Nat × Oper)) (tm : TM) (hp : HP) (outs : List (AV × HP)) (hp' : HP) (p : Nat) (o : Oper) (a : AV) (nb : HP) (tmp : TM) (hpp : HP) : Prop where
  did : Did E cl fb ops o tmp hpp a nb
  le : HLe hpp hp'
  new : ∀ b x, look nb b = some x → look hp' b = some x
  old : ∀ b x, look nb b = some x → look hp b = none
  look0 : ∀ s : Nat, (∀ (q : Nat) (x : Nat × Oper), q < p → l[q]? = some x → x.2.dst ≠ some s) → look tmp s = look tm s
  lookq : ∀ (s q : Nat) (x : Nat × Oper) (y : AV × HP), q < p → l[q]? = some x → outs[q]? = some y → x.2.dst = some s → (∀ (q' : Nat) (x' : Nat × Oper), q < q' → q' < p → l[q']? = some x' → x'.2.dst ≠ some s) → look tmp s = some y.1
  apart : ∀ (q : Nat) (y : AV × HP) (b : Nat) (x : Blk), q < p → outs[q]? = some y → look nb b = some x → look y.2 b = none
theorem Tr.at_ {E : Env} {cl : FuncId → List PV → R} {fb : Nat} {ops : Array Oper} {l : List (Nat × Oper)} {tm tm' : TM} {hp hp' : HP} {outs : List (AV × HP)} (h : Tr E cl fb ops l tm hp outs tm' hp') : outs.length = l.length ∧ ∀ (p i : Nat) (o : Oper), l[p]? = some (i, o) → ∃ a nb tmp hpp, outs[p]? = some (a, nb) ∧ TrAt E cl fb ops l tm hp outs hp' p o a nb tmp hpp := by
  induction h with
  | nil => exact ⟨rfl, fun p i o h => by simp at h⟩
  | @cons i0 o0 r tm tm' hp hp' a0 nb0 outs hd hr ih =>
    obtain ⟨ih1, ih2⟩ := ih
    refine ⟨by simp [ih1], fun p i o h => ?_⟩
    cases p with
    | zero =>
      simp at h
      obtain ⟨rfl, rfl⟩ := h
      refine ⟨a0, nb0, tm, hp, rfl, hd, fun b x hx => hr.le b x (HLe.append hd.fresh b x hx), fun b x hx => hr.le b x (by rw [look_append, hx]; rfl), fun b x hx => fresh_look _ _ hd.fresh b x hx, fun s _ => rfl, fun s q x y hq => absurd hq (by omega), fun q y b x hq => absurd hq (by omega)⟩
    | succ p =>
      obtain ⟨a, nb, tmp, hpp, h1, h2⟩ := ih2 p i o (by simpa using h)
      refine ⟨a, nb, tmp, hpp, by simpa using h1, h2.did, h2.le, h2.new, fun b x hx => ?_, fun s hs => ?_, fun s q x y hq hx hy hxs hlast => ?_, fun q y b x hq hy hx => ?_⟩
      · have := h2.old b x hx
        rw [look_append] at this
        cases hn : look nb0 b with
        | none => rw [hn] at this; simpa using this
        | some z => rw [hn] at this; simp at this
      · rw [h2.look0 s fun q x hq hx => hs (q + 1) x (by omega) (by simpa using hx)]
        have h0 := hs 0 (i0, o0) (by omega) rfl
        cases hdst : o0.dst with
        | none => rfl
        | some d =>
          simp only [putO]
          rw [look_cons, if_neg (fun e => h0 (by rw [hdst, e]))]
      · cases q with
        | zero =>
          simp at hx hy
          subst hx; subst hy
          rw [h2.look0 s fun q' x' hq' hx' => hlast (q' + 1) x' (by omega) (by omega) (by simpa using hx')]
          rw [hxs]
          simp only [putO]
          rw [look_cons, if_pos rfl]
        | succ q => exact h2.lookq s q x y (by omega) (by simpa using hx) (by simpa using hy) hxs fun q' x' h3 h4 h5 => hlast (q' + 1) x' (by omega) (by omega) (by simpa using h5)
      · cases q with
        | zero =>
          simp at hy; subst hy
          have := h2.old b x hx
          rw [look_append] at this
          cases hn : look nb0 b with
          | none => rfl
          | some z => rw [hn] at this; simp at this
        | succ q => exact h2.apart q y b x (by omega) (by simpa using hy) hx
/-- The slots at the end. -/
theorem Tr.end_ {E : Env} {cl : FuncId → List PV → R} {fb : Nat} {ops : Array Oper} {l : List (Nat × Oper)} {tm tm' : TM} {hp hp' : HP} {outs : List (AV × HP)} (h : Tr E cl fb ops l tm hp outs tm' hp') (s : Nat) :
    ((∀ (q : Nat) (x : Nat × Oper), l[q]? = some x → x.2.dst ≠ some s) ∧ look tm' s = look tm s) ∨ (∃ (q : Nat) (x : Nat × Oper) (y : AV × HP), l[q]? = some x ∧ outs[q]? = some y ∧ x.2.dst = some s ∧ look tm' s = some y.1) := by
  induction h with
  | nil => exact .inl ⟨fun q x h => by simp at h, rfl⟩
  | @cons i0 o0 r tm tm' hp hp' a0 nb0 outs hd hr ih =>
    rcases ih with ⟨h1, h2⟩ | ⟨q, x, y, h1, h2, h3, h4⟩
    · by_cases hs : o0.dst = some s
      · refine .inr ⟨0, (i0, o0), (a0, nb0), rfl, rfl, hs, ?_⟩
        rw [h2, hs]
        simp only [putO]
        rw [look_cons, if_pos rfl]
      · refine .inl ⟨fun q x hx => ?_, ?_⟩
        · cases q with
          | zero => simp at hx; subst hx; exact hs
          | succ q => exact h1 q x (by simpa using hx)
        · rw [h2]
          cases hdst : o0.dst with
          | none => rfl
          | some d =>
            simp only [putO]
            rw [look_cons, if_neg (fun e => hs (by rw [hdst, e]))]
    · exact .inr ⟨q + 1, x, y, by simpa using h1, by simpa using h2, h3, h4⟩
def only (l : List Nat) (tm : TM) : TM := l.filterMap fun s => (look tm s).map (s, ·)
theorem look_only (tm : TM) : ∀ (l : List Nat) (s : Nat), look (only l tm) s = if s ∈ l then look tm s else none
  | [], s => by simp [only, look]
  | k :: r, s => by
    have ih := look_only tm r s
    unfold only at ih ⊢
    rw [List.filterMap_cons]
    cases hk : look tm k with
    | none =>
      simp only [Option.map_none]
      rw [ih]
      by_cases hs : s = k
      · subst hs; simp [hk]
      · simp [hs]
    | some a =>
      simp only [Option.map_some]
      rw [look_cons]
      by_cases hs : k = s
      · subst hs; simp [hk]
      · have hs' : ¬ s = k := fun e => hs e.symm
        rw [if_neg hs, ih]; simp [hs']
end Go.Proofs.YtalfnpdgajfkiaaDoor.Ax
