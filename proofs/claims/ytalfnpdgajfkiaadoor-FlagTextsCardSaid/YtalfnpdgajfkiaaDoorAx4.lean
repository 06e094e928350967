/- 'Ax', part 4: operations that write nothing that is there: what the evaluator says of them is what the model does. -/
import Derived.Test.YtalfnpdgajfkiaaDoorAx3
import Derived.Laws.StructEq
import Derived.Laws.Tables
import Derived.Laws.Cells
import Derived.Laws.AppendOwn
import Derived.Laws.Slices
set_option linter.unusedVariables false
set_option linter.unusedSimpArgs false
namespace Go.Proofs.YtalfnpdgajfkiaaDoor.Ax
open Go

/-- Nothing that was there has turned. -/
structure Grow (w w' : World) : Prop where
  os : w'.os = w.os
  tape : w'.tape = w.tape
  output : w'.output = w.output
  size : w.heap.size ≤ w'.heap.size
  same : ∀ k, k < w.heap.size → w'.heap[k]? = w.heap[k]?
theorem Grow.refl (w : World) : Grow w w := ⟨rfl, rfl, rfl, Nat.le_refl _, fun _ _ => rfl⟩
theorem Grow.trans {a b c : World} (h : Grow a b) (h' : Grow b c) : Grow a c :=
  ⟨h'.os.trans h.os, h'.tape.trans h.tape, h'.output.trans h.output, Nat.le_trans h.size h'.size, fun k hk => (h'.same k (Nat.lt_of_lt_of_le hk h.size)).trans (h.same k hk)⟩
theorem Grow.ext {w w' : World} (h : Grow w w') (ok : Nat → Prop) : Ext ok w w' :=
  ⟨h.os, h.tape, h.output, h.size, fun k hk _ => h.same k hk, fun k cs e fz hc => ⟨cs, fz, (h.same k (Array.getElem?_eq_some_iff.1 hc).1).trans hc, rfl⟩⟩
theorem Grow.alloc (w : World) (o : Obj) : Grow w { w with heap := w.heap.push o } :=
  ⟨rfl, rfl, rfl, by simp, fun k hk => by simp only [Array.getElem?_push]; rw [if_neg (by omega)]⟩
theorem Grow.drew (w : World) : Grow w { w with drawn := w.drawn + 1 } := ⟨rfl, rfl, rfl, Nat.le_refl _, fun _ _ => rfl⟩
theorem alloc_at (w : World) (o : Obj) : ({ w with heap := w.heap.push o } : World).heap[w.heap.size]? = some o := by simp

/-- What an operation does, whatever goes on behind it. -/
def Holds (P : Program) (o : Oper) (a : Act) (w : World) (R : Value → World → Prop) : Prop :=
  ∀ (next : Act → World → Prop) (Q : Exit → Act → World → Prop), (∀ v w', R v w' → next (a.put o.dst v) w') → o.wp P a w next Q
theorem Holds.of_run {P : Program} {o : Oper} {a : Act} {w w' : World} {R : Value → World → Prop} {v : Value} (h : (execOp a.eval o).run P w = .ok (.value v) w') (hR : R v w') : Holds P o a w R := by
  intro next Q hn
  unfold Oper.wp
  rw [h]
  exact hn v w' hR

/-- New blocks: numbers go to blocks, or to nil. -/
def upd (σ : Sg) (nb : HP) (τ : Nat → Option Bk) : Sg := ⟨fun b => if (look nb b).isSome then some (τ b) else σ b, σ.G⟩
theorem upd_at (σ : Sg) (nb : HP) (τ : Nat → Option Bk) (b : Nat) : upd σ nb τ b = if (look nb b).isSome then some (τ b) else σ b := rfl
theorem upd_nil (σ : Sg) (τ : Nat → Option Bk) : upd σ [] τ = σ := rfl
structure NewR (σ : Sg) (w : World) (a : AV) (nb : HP) (v : Value) (w' : World) : Prop where
  grow : Grow w w'
  ex : ∃ τ : Nat → Option Bk, (∀ b x, look nb b = some x → (∀ k, τ b = some k → w.heap.size ≤ k.k ∧ k.k < w'.heap.size ∧ BR (upd σ nb τ) w' k x) ∧ (τ b = none → ∃ sz, x = .row sz [])) ∧
    (∀ b b' x x' k k', look nb b = some x → look nb b' = some x' → τ b = some k → τ b' = some k' → k.k = k'.k → b = b') ∧ VR (upd σ nb τ) w' a v
theorem NewR.of_grow {σ : Sg} {w w' : World} {a : AV} {v : Value} (hg : Grow w w') (h : VR σ w' a v) : NewR σ w a [] v w' :=
  ⟨hg, fun _ => none, fun b x hb => by simp [look] at hb, fun b b' x x' k k' hb => by simp [look] at hb, h⟩
theorem NewR.of_val {σ : Sg} {w : World} {a : AV} {v : Value} (h : VR σ w a v) : NewR σ w a [] v w := .of_grow (Grow.refl _) h
theorem upd_one (σ : Sg) (id : Nat) (x : Blk) (r : Option Bk) : upd σ [(id, x)] (fun _ => r) = setS σ id r := by
  unfold upd setS
  congr 1
  funext b
  by_cases hb : id = b
  · subst hb; simp [look]
  · have hb' : ¬ b = id := fun e => hb e.symm
    simp [look, hb, hb']
theorem look_one {id : Nat} {x y : Blk} {b : Nat} (h : look [(id, x)] b = some y) : b = id ∧ y = x := by
  simp only [look] at h
  by_cases hb : id = b
  · rw [if_pos hb] at h; cases h; exact ⟨hb.symm, rfl⟩
  · rw [if_neg hb] at h; cases h
/-- One new block. -/
theorem NewR.of_one {σ : Sg} {w w' : World} {a : AV} {v : Value} {id : Nat} {x : Blk} (hg : Grow w w') (k : Bk) (hk : w.heap.size ≤ k.k) (hk' : k.k < w'.heap.size) (hb : BR (setS σ id (some k)) w' k x) (h : VR (setS σ id (some k)) w' a v) :
    NewR σ w a [(id, x)] v w' := by
  refine ⟨hg, fun _ => some k, fun b y hy => ?_, fun b b' y y' _ _ hy hy' _ _ _ => ?_, by rw [upd_one]; exact h⟩
  · obtain ⟨rfl, rfl⟩ := look_one hy
    exact ⟨fun k' hk'' => by cases hk''; rw [upd_one]; exact ⟨hk, hk', hb⟩, fun h => by cases h⟩
  · rw [(look_one hy).1, (look_one hy').1]
/-- One new nil row. -/
theorem NewR.of_nil {σ : Sg} {w : World} {a : AV} {v : Value} {id sz : Nat} (h : VR (setS σ id none) w a v) : NewR σ w a [(id, .row sz [])] v w := by
  refine ⟨Grow.refl _, fun _ => none, fun b y hy => ?h, fun b b' y y' _ _ hy hy' h1 _ _ => (by cases h1), by rw [upd_one]; exact h⟩
  case h => obtain ⟨rfl, rfl⟩ := look_one hy; exact ⟨fun k' hk'' => (by cases hk''), fun _ => ⟨sz, rfl⟩⟩

/-! ### Operands -/
theorem VR.lit (σ : Sg) (w : World) (v : Value) : VR σ w (.p (.lit v)) v := .p _ _ (.lit v)
theorem Rd.valPV (ok : Nat → Prop) (w : World) (v : Value) : Rd ok w (valPV v) v := by
  cases v with
  | agg cs =>
    have : (Value.agg cs) = .agg cs.toList.toArray := by simp
    rw [this]
    refine .agg _ _ (by simp) fun j c v hc hv => ?_
    simp only [List.getElem?_map] at hc
    rw [hv] at hc
    cases hc
    exact .lit v
  | _ => exact .lit _
theorem ev_ok {σ : Sg} {w : World} {tm : TM} {vs : Array Value} {ds : List Deferred} (h : TR σ w tm vs) {x : Operand} {a : AV} (hx : ev tm x = some a) : VR σ w a ((⟨vs, ds⟩ : Act).eval x) := by
  cases x with
  | tmp t =>
    obtain ⟨v, hv, hr⟩ := h t a hx
    show VR σ w a (vs.getD t undef)
    rw [Array.getD_eq_getD_getElem?, hv]
    exact hr
  | const v => simp only [ev, Option.some.injEq] at hx; subst hx; exact .p _ _ (Rd.valPV _ _ _)
  | global g => simp [ev] at hx
  | func f =>
    simp only [ev, Option.some.injEq] at hx
    subst hx
    exact .fn _ [] [] rfl (fun j a v ha => by simp at ha)
theorem evs_ok {σ : Sg} {w : World} {tm : TM} {vs : Array Value} {ds : List Deferred} (h : TR σ w tm vs) : ∀ {l : List Operand} {as : List AV}, evs tm l = some as →
    as.length = l.length ∧ ∀ (j : Nat) (a : AV) (v : Value), as[j]? = some a → (l.map (⟨vs, ds⟩ : Act).eval)[j]? = some v → VR σ w a v := by
  intro l
  induction l with
  | nil => intro as ha; simp only [evs, Option.some.injEq] at ha; subst ha; exact ⟨rfl, fun j a v ha => by simp at ha⟩
  | cons x r ih =>
    intro as ha
    simp only [evs, Option.bind_eq_some_iff, Option.map_eq_some_iff] at ha
    obtain ⟨a, hx, t, ht, rfl⟩ := ha
    obtain ⟨h1, h2⟩ := ih ht
    refine ⟨by simp [h1], fun j b v hb hv => ?_⟩
    cases j with
    | zero => simp at hb hv; subst hb; subst hv; exact ev_ok h hx
    | succ j => exact h2 j b v (by simpa using hb) (by simpa using hv)
theorem asB_ok {σ : Sg} {w : World} {a : AV} {v : Value} {b : Bool} (h : VR σ w a v) (ha : asB a = some b) : v = .bool b := by
  unfold asB at ha
  split at ha
  · cases ha; cases h with | p _ _ h => cases h; rfl
  · cases ha
theorem asI_ok {σ : Sg} {w : World} {a : AV} {v : Value} {i : IntKind × Int} (h : VR σ w a v) (ha : asI a = some i) : v = .int i.1 i.2 := by
  unfold asI at ha
  split at ha
  · cases ha; cases h with | p _ _ h => cases h; rfl
  · cases ha
theorem Act.put_eq (a : Act) (d : Option Tmp) (v : Value) : a.put d v = a.put d v := rfl

/-! ### Cells of a value -/
theorem VR.cells {σ : Sg} {w : World} {x : AV} {v : Value} (h : VR σ w x v) (hc : (cellsAV x).all isCell = true) :
    ∃ us : List Value, v.cells = us.toArray ∧ us.length = (cellsAV x).length ∧ ∀ (j : Nat) (a : AV) (u : Value), (cellsAV x)[j]? = some a → us[j]? = some u → VR σ w a u ∧ u.oneCell' = true := by
  have one : ∀ (a : AV) (u : Value), isCell a = true → VR σ w a u → u.oneCell' = true := by
    intro a u ha hu
    cases hu with
    | p x v hx =>
      cases hx with
      | ifc => rfl
      | lit => cases u <;> first | rfl | (exact absurd ha (by simp [isCell]))
      | nil => rfl
      | sl => rfl
      | agg => simp [isCell] at ha
    | agg => simp [isCell] at ha
    | tup => simp [isCell] at ha
    | dead => simp [isCell] at ha
    | son b t k _ hs _ hv => rcases hv with rfl | rfl <;> rfl
    | tsl _ _ _ _ _ _ h => cases h <;> rfl
    | _ => rfl
  have single : ∀ (x : AV) (v : Value), cellsAV x = [x] → isCell x = true → VR σ w x v → v.cells = #[v] := by
    intro x v _ hx hv
    have := one x v hx hv
    cases v <;> first | rfl | (simp [Value.oneCell'] at this)
  have fin : ∀ (x : AV) (v : Value), cellsAV x = [x] → isCell x = true → VR σ w x v →
      ∃ us : List Value, v.cells = us.toArray ∧ us.length = (cellsAV x).length ∧ ∀ (j : Nat) (a : AV) (u : Value), (cellsAV x)[j]? = some a → us[j]? = some u → VR σ w a u ∧ u.oneCell' = true := by
    intro x v h1 h2 h3
    refine ⟨[v], by rw [single x v h1 h2 h3], by rw [h1]; rfl, fun j a u ha hu => ?_⟩
    rw [h1] at ha
    cases j with
    | zero => simp at ha hu; subst ha; subst hu; exact ⟨h3, one _ _ h2 h3⟩
    | succ j => simp at ha
  cases x with
  | agg l =>
    cases h with
    | agg _ vs hl hv =>
      refine ⟨vs, rfl, hl, fun j a u ha hu => ⟨hv j a u ha hu, one a u ?_ (hv j a u ha hu)⟩⟩
      exact List.all_eq_true.1 hc a (List.mem_of_getElem? ha)
  | p y =>
    cases y with
    | agg l =>
      cases h with
      | p _ _ h =>
        cases h with
        | agg _ vs hl hv =>
          have key : ∀ (j : Nat) (a : AV) (u : Value), (cellsAV (.p (.agg l)))[j]? = some a → vs[j]? = some u → VR σ w a u := fun j a u ha hu => by
            simp only [cellsAV, List.getElem?_map, Option.map_eq_some_iff] at ha
            obtain ⟨c, hc, rfl⟩ := ha
            exact .p _ _ (hv j c u hc hu)
          exact ⟨vs, rfl, by simp [cellsAV, hl], fun j a u ha hu => ⟨key j a u ha hu, one a u (List.all_eq_true.1 hc a (List.mem_of_getElem? ha)) (key j a u ha hu)⟩⟩
    | lit v => exact fin _ _ rfl (by simpa [cellsAV] using hc) h
    | ifc => exact fin _ _ rfl (by simpa [cellsAV] using hc) h
    | sl sz l => exact fin _ _ rfl (by simpa [cellsAV] using hc) h
  | _ => exact fin _ _ rfl (by simpa [cellsAV] using hc) h
theorem unp_some {l : List AV} {ps : List PV} (h : unp l = some ps) : l = ps.map .p := by
  induction l generalizing ps with
  | nil => simp only [unp, Option.some.injEq] at h; subst h; rfl
  | cons a r ih =>
    cases a with
    | p x =>
      simp only [unp, Option.map_eq_some_iff] at h
      obtain ⟨t, ht, rfl⟩ := h
      rw [ih ht]; rfl
    | _ => simp [unp] at h
/-- A struct out of its cells. -/
theorem VR.mkAgg {σ : Sg} {w : World} {l : List AV} {us : List Value} (hl : us.length = l.length) (h : ∀ (j : Nat) (a : AV) (u : Value), l[j]? = some a → us[j]? = some u → VR σ w a u) : VR σ w (mkAgg l) (.agg us.toArray) := by
  unfold Ax.mkAgg
  cases hu : unp l with
  | none => exact .agg l us hl h
  | some ps =>
    have hp := unp_some hu
    refine .p _ _ (.agg ps us (by rw [hl, hp]; simp) fun j c v hc hv => ?_)
    have := h j (.p c) v (by rw [hp]; simp [hc]) hv
    cases this with | p _ _ h => exact h

/-! ### New variables -/
theorem run_newVar (P : Program) (w : World) (t : TypeId) (v : Value) : (newVar t v).run P w = .ok ⟨w.heap.size, 0, none⟩ { w with heap := w.heap.push (.cells v.cells t) } := by
  simp [newVar, newRow]
theorem new_vars' {σ : Sg} {w : World} {id : Nat} {l : List AV} {t : TypeId} {us : List Value} (hσ : σ id = none) (hl : us.length = l.length)
    (h : ∀ (j : Nat) (a : AV) (u : Value), l[j]? = some a → us[j]? = some u → VR σ w a u ∨ (a = .son id t ∧ u = .pointer none ∧ us.length = 2)) (hσk : ∀ (b : Nat) (k : Bk), σ b = some (some k) → k.k < w.heap.size) :
    NewR σ w (.ptr id 0 0 0) [(id, .vars l)] (.pointer (some ⟨w.heap.size, 0, none⟩)) { w with heap := w.heap.push (.cells us.toArray t) } := by
  have hg := Grow.alloc w (.cells us.toArray t)
  have hok : ∀ k, k < w.heap.size → okS σ k → okS (setS σ id (some ⟨w.heap.size, 0, 0⟩)) k := fun k hk ho => ⟨ho.1, fun x t hx => by
    by_cases hxi : x = id
    · subst hxi; rw [setS_self] at hx; cases hx; simp only; omega
    · rw [setS_ne hxi] at hx; exact ho.2 x t hx⟩
  refine NewR.of_one hg ⟨w.heap.size, 0, 0⟩ (Nat.le_refl _) (by simp) ⟨rfl, us.toArray, t, (0, 0), alloc_at w _, rfl, by simp [hl], fun j a u ha hu => ?_⟩ ?_
  · rcases h j a u ha (by simpa using hu) with h | ⟨rfl, rfl, h2⟩
    · refine h.ext (hg.ext _) hok fun b hb r hr => ?_
      rw [setS_ne (fun e : b = id => by rw [e, hσ] at hr; cases hr)]; exact hr
    · exact .son id t ⟨w.heap.size, 0, 0⟩ _ (setS_self _ _ _) ⟨us.toArray, (0, 0), alloc_at w _, by simpa using h2⟩ (.inl rfl)
  · have := VR.ptr (σ := setS σ id (some ⟨w.heap.size, 0, 0⟩)) (w := { w with heap := w.heap.push (.cells us.toArray t) }) id 0 0 0 ⟨w.heap.size, 0, 0⟩ (setS_self _ _ _) rfl
    simpa using this
theorem new_vars {σ : Sg} {w : World} {id : Nat} {l : List AV} {t : TypeId} {us : List Value} (hσ : σ id = none) (hl : us.length = l.length)
    (h : ∀ (j : Nat) (a : AV) (u : Value), l[j]? = some a → us[j]? = some u → VR σ w a u) (hσk : ∀ (b : Nat) (k : Bk), σ b = some (some k) → k.k < w.heap.size) :
    NewR σ w (.ptr id 0 0 0) [(id, .vars l)] (.pointer (some ⟨w.heap.size, 0, none⟩)) { w with heap := w.heap.push (.cells us.toArray t) } :=
  new_vars' hσ hl (fun j a u ha hu => .inl (h j a u ha hu)) hσk
end Go.Proofs.YtalfnpdgajfkiaaDoor.Ax
