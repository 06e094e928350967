/- 'Ax', part 23: code, loops, calls: the evaluator is sound. -/
import Derived.Test.YtalfnpdgajfkiaaDoorAx22
set_option linter.unusedVariables false
set_option linter.unusedSimpArgs false
namespace Go.Proofs.YtalfnpdgajfkiaaDoor.Ax
open Go

def ex : Ex → Exit
  | .normal => .normal
  | .exit id => .exit id
  | .ret => .ret
def GoesE {T : World → Prop} (r : List PV) (base : Bs T) (ups : List (Array Value)) (nt : Nat) (ds : List Deferred) (w : World) (K : Ex → St → R) (Q : Exit → Act → World → Prop) : Prop :=
  ∀ (e : Ex) (st' : St) (σ' : Sg) (vs' : Array Value) (w' : World), K e st' = some r → Rel base ups σ' st' vs' w' → vs'.size = nt → Kept base w w' → Q (ex e) ⟨vs', ds⟩ w'
theorem GoesE.from {r : List PV} {T : World → Prop} {base : Bs T} {ups : List (Array Value)} {nt : Nat} {ds : List Deferred} {w w1 : World} {K : Ex → St → R} {Q : Exit → Act → World → Prop} (h : GoesE r base ups nt ds w K Q) (hk : Kept base w w1) : GoesE r base ups nt ds w1 K Q :=
  fun e st' σ' vs' w' h1 h2 h3 h4 => h e st' σ' vs' w' h1 h2 h3 (hk.trans h4)
def dstsOK (nt : Nat) : Code → Bool
  | .region _ ops _ => ops.toList.all (dstOK nt)
  | .seq a b => dstsOK nt a && dstsOK nt b
  | .cond _ a b => dstsOK nt a && dstsOK nt b
  | .block _ c => dstsOK nt c
  | .loop c => dstsOK nt c
  | _ => true
/-- A loop's round and all behind it. -/
def LoopWp (P : Program) (c : Code) (Q : Exit → Act → World → Prop) (a : Act) (w : World) : Prop :=
  ∀ (b : Frame) (k : List Item) (cs : List Frame), ∃ e a' w', Q e a' w' ∧ Arrives P (lone (b.at a (.code c :: .inLoop c :: k)) cs w) b k cs e a' w'
theorem LoopWp.loop {P : Program} {c : Code} {Q : Exit → Act → World → Prop} {a : Act} {w : World} (h : LoopWp P c Q a w) : (Code.loop c).wp P Q a w := fun b k cs => by
  obtain ⟨e, a', w', hq, harr⟩ := h b k cs
  exact ⟨e, a', w', hq, .of_steps (.one step_loop) harr⟩
theorem LoopWp.step {P : Program} {c : Code} {Q : Exit → Act → World → Prop} {a : Act} {w : World} (h : c.wp P (Exit.then (LoopWp P c Q) Q) a w) : LoopWp P c Q a w := fun b k cs => by
  obtain ⟨e, a₁, w₁, hq, harr⟩ := h b (.inLoop c :: k) cs
  cases e with
  | normal =>
    obtain ⟨e₂, a₂, w₂, hq₂, harr₂⟩ := hq b k cs
    exact ⟨e₂, a₂, w₂, hq₂, .of_steps (Steps.trans harr (.one step_inLoop)) harr₂⟩
  | exit id => exact ⟨_, a₁, w₁, hq, .pass (x := .inLoop c) rfl (fun _ _ => .inl (by simp)) harr⟩
  | goto l => exact ⟨_, a₁, w₁, hq, .pass (x := .inLoop c) rfl (fun _ _ => .inl (by simp)) harr⟩
  | ret => exact ⟨_, a₁, w₁, hq, .pass (x := .inLoop c) rfl (fun _ _ => .inl (by simp)) harr⟩
  | panic ch => exact ⟨_, a₁, w₁, hq, .pass (x := .inLoop c) rfl (fun _ _ => .inl (by simp)) harr⟩
  | outgrown => exact ⟨_, a₁, w₁, hq, .pass (x := .inLoop c) rfl (fun _ _ => .inl (by simp)) harr⟩
theorem loop_ok {P : Program} {T : World → Prop} {base : Bs T} {ups : List (Array Value)} {ds : List Deferred} {nt : Nat} {r : List PV} {Q : Exit → Act → World → Prop} {f fb : Nat} {c : Code} {mk : St → Option St} {body : St → (Ex → St → R) → R}
    (hmk : ∀ (σ : Sg) (st st' : St) (vs : Array Value) (w : World), Rel base ups σ st vs w → mk st = some st' → ∃ σ', Rel base ups σ' st' vs w)
    (hbody : ∀ (K : Ex → St → R) (Q : Exit → Act → World → Prop) (σ : Sg) (st : St) (vs : Array Value) (w : World), body st K = some r → Rel base ups σ st vs w → base.n ≤ w.heap.size → vs.size = nt → GoesE r base ups nt ds w K Q → c.wp P Q ⟨vs, ds⟩ w) :
    ∀ (n : Nat) (K : Ex → St → R) (σ : Sg) (st : St) (vs : Array Value) (w : World), loopK f fb c mk body n st K = some r → Rel base ups σ st vs w → base.n ≤ w.heap.size → vs.size = nt → GoesE r base ups nt ds w K Q → LoopWp P c Q ⟨vs, ds⟩ w
  | 0, K, σ, st, vs, w, h, _, _, _, _ => by simp [loopK] at h
  | n + 1, K, σ, st, vs, w, h, hR, hb, hv, hn => by
    simp only [loopK] at h
    refine .step (hbody _ _ σ st vs w h hR hb hv fun e st' σ' vs' w' hK hR' hv' hk => ?_)
    cases e with
    | normal =>
      simp only [Option.bind_eq_some_iff] at hK
      obtain ⟨st2, hm, hK⟩ := hK
      obtain ⟨σ2, hR2⟩ := hmk σ' st' st2 vs' w' hR' hm
      exact loop_ok hmk hbody n K σ2 st2 vs' w' hK hR2 (Nat.le_trans hb hk.size) hv' (hn.from hk)
    | exit id => exact hn (.exit id) st' σ' vs' w' hK hR' hv' hk
    | ret => exact hn .ret st' σ' vs' w' hK hR' hv' hk
theorem code_ok {E : Env} {cl : FuncId → List PV → R} {rn : Run} (hmix : E.P.follows .mixedOrders = true) (hcl : ClOK E cl) (hpr : PrimOK E) (hrn : RnOK E rn) {base : Bs E.T} {ups : List (Array Value)} {ds : List Deferred} {f : FuncId} {fb nt n : Nat} {r : List PV} :
    ∀ (c : Code) (K : Ex → St → R) (Q : Exit → Act → World → Prop) (σ : Sg) (st : St) (vs : Array Value) (w : World), code E cl rn f fb nt n c st K = some r → dstsOK nt c = true → Rel base ups σ st vs w → base.n ≤ w.heap.size → vs.size = nt → GoesE r base ups nt ds w K Q → c.wp E.P Q ⟨vs, ds⟩ w := by
  intro c
  induction c with
  | skip => intro K Q σ st vs w h _ hR hb hv hn; exact wp_skip (hn .normal st σ vs w h hR hv (Kept.refl _ _))
  | exit id => intro K Q σ st vs w h _ hR hb hv hn; exact wp_exit (hn (.exit id) st σ vs w h hR hv (Kept.refl _ _))
  | ret => intro K Q σ st vs w h _ hR hb hv hn; exact wp_ret (hn .ret st σ vs w h hR hv (Kept.refl _ _))
  | region id ops draw =>
    intro K Q σ st vs w h hd hR hb hv hn
    have hn' : Goes r base ups nt ds w (K .normal) (Q .normal) := fun st' σ' vs' w' h1 h2 h3 h4 => hn .normal st' σ' vs' w' h1 h2 h3 h4
    cases draw with
    | false => exact wp_region_list (opsK_ok hcl hpr hrn ops.toList h hd (Rel.kills _ hR) hb hv hn')
    | true =>
      simp only [code, Option.bind_eq_some_iff] at h
      obtain ⟨segs, hs, h⟩ := h
      exact region_ok hmix hcl hpr hrn hs hd h (Rel.kills _ hR) hb hv hn'
  | seq a b iha ihb =>
    intro K Q σ st vs w h hd hR hb hv hn
    simp only [dstsOK, Bool.and_eq_true] at hd
    simp only [code] at h
    refine wp_seq (iha _ _ σ st vs w h hd.1 hR hb hv fun e st' σ' vs' w' hK hR' hv' hk => ?_)
    cases e with
    | normal => exact ihb K Q σ' st' vs' w' hK hd.2 hR' (Nat.le_trans hb hk.size) hv' (hn.from hk)
    | exit id => exact hn (.exit id) st' σ' vs' w' hK hR' hv' hk
    | ret => exact hn .ret st' σ' vs' w' hK hR' hv' hk
  | cond c a b iha ihb =>
    intro K Q σ st vs w h hd hR hb hv hn
    simp only [dstsOK, Bool.and_eq_true] at hd
    simp only [code] at h
    split at h
    · rename_i x hx
      simp only [Option.bind_eq_some_iff] at hx
      obtain ⟨av, h1, h2⟩ := hx
      have hc := asB_ok (ev_ok (ds := ds) hR.tm h1) h2
      cases x with
      | true => exact wp_cond_true hc (iha K Q σ st vs w h hd.1 hR hb hv hn)
      | false => exact wp_cond_false hc (ihb K Q σ st vs w h hd.2 hR hb hv hn)
    · cases h
  | block id c ih =>
    intro K Q σ st vs w h hd hR hb hv hn
    simp only [code] at h
    refine wp_block (ih _ _ σ st vs w h hd hR hb hv fun e st' σ' vs' w' hK hR' hv' hk => ?_)
    cases e with
    | normal => exact hn .normal st' σ' vs' w' hK hR' hv' hk
    | ret => exact hn .ret st' σ' vs' w' hK hR' hv' hk
    | exit id' =>
      show Exit.inBlock id Q (.exit id') ⟨vs', ds⟩ w'
      simp only [Exit.inBlock]
      by_cases hid : id' = id
      · rw [if_pos hid]
        simp only [hid, if_true] at hK
        exact hn .normal st' σ' vs' w' hK hR' hv' hk
      · rw [if_neg hid]
        simp only [hid, if_false] at hK
        exact hn (.exit id') st' σ' vs' w' hK hR' hv' hk
  | loop c ih =>
    intro K Q σ st vs w h hd hR hb hv hn
    simp only [code, Option.bind_eq_some_iff] at h
    obtain ⟨st1, hm, h⟩ := h
    obtain ⟨σ1, hR1, _⟩ := hR.masked hm
    refine (loop_ok (c := c) (fun σ st st' vs w hR hm => by obtain ⟨σ', g, _⟩ := hR.masked hm; exact ⟨σ', g⟩) (fun K Q σ st vs w h hR hb hv hn => ih K Q σ st vs w h hd hR hb hv hn) n K σ1 st1 vs w h hR1 hb hv hn).loop
  | _ => intro K Q σ st vs w h; simp [code] at h
/-! ### Calls -/
def resVars (vs : Array Value) : ResultVar → Sem Value
  | .tmp t => pure (vs.getD t undef)
  | .cell a t => do loadVar t (← asAddr (vs.getD a undef))
theorem results_eq (fn : Func) (vs : Array Value) : results fn vs = (do let us ← fn.results.mapM (resVars vs); pure (if h : us.size = 1 then us[0] else .tuple us)) := by
  unfold results
  congr 1
theorem results_ok {P : Program} {T : World → Prop} {base : Bs T} {σ : Sg} {w : World} {st : St} {vs : Array Value} (hT : TR σ w st.tm vs) (hH : HR base σ w st.hp) : ∀ (l : List ResultVar) (rs : List AV), resultsAV P st l = some rs →
    ∃ us : List Value, (l.mapM (resVars vs)).run P w = .ok us w ∧ PW (VR σ w) rs us
  | [], rs, h => by
    simp only [resultsAV, Option.some.injEq] at h
    subst h
    exact ⟨[], by simp, PW.nil⟩
  | .tmp t :: l, rs, h => by
    simp only [resultsAV, Option.bind_eq_some_iff, Option.map_eq_some_iff] at h
    obtain ⟨a, ha, qs, hq, rfl⟩ := h
    obtain ⟨us, h1, h2⟩ := results_ok hT hH l qs hq
    obtain ⟨v, hv, hr⟩ := hT t a ha
    have h5 : (resVars vs (.tmp t)).run P w = .ok v w := by simp [resVars, hv]
    exact ⟨v :: us, by simp only [List.mapM_cons, Sem.run_bind, h5, Result.andThen_ok, h1, Sem.run_pure], h2.cons hr⟩
  | .cell t ty :: l, rs, h => by
    simp only [resultsAV, Option.bind_eq_some_iff, Option.map_eq_some_iff] at h
    obtain ⟨a, ha, x, hx, qs, hq, rfl⟩ := h
    obtain ⟨us, h1, h2⟩ := results_ok hT hH l qs hq
    obtain ⟨v, hv, hr⟩ := hT t a ha
    obtain ⟨u, h3, h4⟩ := load_ok hH hr hx
    have h5 : (resVars vs (.cell t ty)).run P w = .ok u w := by
      simp only [resVars, Array.getD_eq_getD_getElem?, hv, Option.getD_some]
      cases v with
      | pointer p =>
        cases p with
        | some p => simpa [Instr.loadAt, Instr.sureAddr, asAddr] using h3
        | none => simp [Instr.loadAt, Instr.sureAddr] at h3
      | _ => simp [Instr.loadAt, Instr.sureAddr] at h3
    exact ⟨u :: us, by simp only [List.mapM_cons, Sem.run_bind, h5, Result.andThen_ok, h1, Sem.run_pure], h2.cons h4⟩
theorem resTup_ok {P : Program} {σ : Sg} {w : World} {fn : Func} {vs : Array Value} {rs : List AV} {us : List Value} (h : (fn.results.toList.mapM (resVars vs)).run P w = .ok us w) (hp : PW (VR σ w) rs us) :
    ∃ v, (results fn vs).run P w = .ok v w ∧ VR σ w (resTup rs) v := by
  have hr : (results fn vs).run P w = .ok (if h : us.toArray.size = 1 then us.toArray[0] else .tuple us.toArray) w := by
    rw [results_eq, Array.mapM_eq_mapM_toList]
    simp only [Sem.run_bind, Sem.run_map, h, Result.andThen_ok, Sem.run_pure]
  refine ⟨_, hr, ?_⟩
  match rs, us, hp with
  | [a], [u], hp => exact hp.at_ 0 a u rfl rfl
  | [], [], hp => exact .tup [] [] rfl fun j a v ha => by simp at ha
  | a :: b :: rs, u :: v :: us, hp =>
    have : ¬ ((u :: v :: us).toArray.size = 1) := by simp
    rw [dif_neg this]
    exact .tup _ _ hp.len hp.at_
  | [], _ :: _, hp => exact absurd hp.len (by simp)
  | _ :: _, [], hp => exact absurd hp.len (by simp)
  | [_], _ :: _ :: _, hp => exact absurd hp.len (by simp)
  | _ :: _ :: _, [_], hp => exact absurd hp.len (by simp)
theorem look_argTM : ∀ (l : List AV) (j s : Nat) (a : AV), look (argTM j l) s = some a → j ≤ s ∧ l[s - j]? = some a
  | [], j, s, a, h => by simp [argTM, look] at h
  | x :: r, j, s, a, h => by
    simp only [argTM] at h
    rw [look_cons] at h
    by_cases hs : j = s
    · subst hs; rw [if_pos rfl] at h; cases h; exact ⟨Nat.le_refl _, by simp⟩
    · rw [if_neg hs] at h
      obtain ⟨h1, h2⟩ := look_argTM r (j + 1) s a h
      refine ⟨by omega, ?_⟩
      rw [show s - j = (s - (j + 1)) + 1 by omega]
      simpa using h2
structure EnvOK (E : Env) : Prop where
  tab : ∃ n0, (∀ w, E.T w → n0 ≤ w.heap.size) ∧ ∀ w w' : World, (∀ k, k < n0 → w'.heap[k]? = w.heap[k]?) → E.T w → E.T w'
  mix : E.P.follows .mixedOrders = true
  prim : PrimOK E
  name : ∀ g fn, E.okf g = true → E.P.funcs[g]? = some fn → (fn.name == "runtime.NumGoroutine") = false
  dst : ∀ g fn c, E.okf g = true → E.P.funcs[g]? = some fn → fn.body = some c → dstsOK fn.ntmps c = true
/-- A function that is told by its data: from a walk to what it hands back. -/
theorem flatR_all : ∀ (rs : List PV), flatR rs = true → (flat rs).all flatC = true
  | [], _ => rfl
  | x :: r, h => by
    simp only [flatR, Bool.and_eq_true] at h
    simp only [flat, List.all_append, Bool.and_eq_true]
    exact ⟨h.1, flatR_all r h.2⟩
theorem resAV_cells (id : Nat) (rs : List PV) : (resAV id rs).2 = (matCells id (flat rs)).2 := by
  unfold resAV
  split
  · rename_i x; simp [mat_cells, flat]
  · exact mats_cells rs id
theorem avP_ok {σ : Sg} {w : World} {x : PV} {v : Value} (h : Rd (okS σ) w x v) : VR σ w (avP x) v := by
  unfold avP
  split
  · rename_i f a b
    split
    · rename_i hab
      cases h
      simp only [Bool.and_eq_true, Array.isEmpty_iff] at hab
      obtain ⟨rfl, rfl⟩ := hab
      exact .fn f [] [] rfl fun j a v ha => by simp at ha
    · exact .p _ _ h
  · exact .p _ _ h
theorem told_of_rn {E : Env} {rn : Run} (hrn : RnOK E rn) (htab : ∃ n0, (∀ w, E.T w → n0 ≤ w.heap.size) ∧ ∀ w w' : World, (∀ k, k < n0 → w'.heap[k]? = w.heap[k]?) → E.T w → E.T w') {g : FuncId} {xs rs : List PV} {m : List (List (Option Nat)) × Bool} {fl : Bool} (hfl : m.2 = fl) (h : rn g (xs.map avP) [] [] 0 (fun rs hp _ => endR fl hp rs) = some rs) : Told E.P E.T m g xs rs := by
  obtain ⟨hEn, hC⟩ := hrn g _ _ _ _ _ rs h
  refine ⟨hEn, fun ok w vs hTw hv => ?_⟩
  obtain ⟨n0, ht1, ht2⟩ := htab
  have hCw := hC ⟨w.heap.size, fun k => ok k ∨ w.heap.size ≤ k, fun k h => .inr h, fun w1 w2 hs ht => ht2 w1 w2 (fun k hk => hs k (Nat.lt_of_lt_of_le hk (ht1 w hTw))) ht⟩ ⟨fun _ => none, fun k => ok k ∨ w.heap.size ≤ k⟩ w vs [] ⟨by simp [hv.len], fun j a v ha hv' => by
      simp only [List.getElem?_map, Option.map_eq_some_iff] at ha
      obtain ⟨x, hx, rfl⟩ := ha
      exact avP_ok ((hv.at_ j x v hx hv').ext (Ext.refl _ _) fun k _ hk => ⟨.inl hk, fun b t ht => by cases ht⟩)⟩ .nil ⟨fun b b' k k' hb => (by cases hb), rfl, hTw, fun b k hb => (by cases hb), fun b hb => (by cases hb)⟩ (Nat.le_refl _)
  refine hCw.mono fun e w' hr => ?_
  cases e with
  | panicked c => exact hr.elim
  | outgrown => exact hr.elim
  | returned v =>
    obtain ⟨rs', hp', up', σ', hK, hvr, _, hh, hk⟩ := hr
    intro σ id h1 h2 h3 h4
    simp only [endR, Option.bind_eq_some_iff] at hK
    obtain ⟨⟨ys, hp1⟩, hp, hK⟩ := hK
    have hK : ys = rs ∧ (fl = true → flatR rs = true) := by
      cases fl with
      | false => simp only [Bool.not_false, Bool.true_or, cond_true, Option.some.injEq] at hK; exact ⟨hK, fun h => by cases h⟩
      | true =>
        cases hf : flatR ys with
        | true => simp only [hf, Bool.not_true, Bool.or_true, cond_true, Option.some.injEq] at hK; subst hK; exact ⟨rfl, fun _ => hf⟩
        | false => simp only [hf, Bool.not_true, Bool.or_false, cond_false] at hK; cases hK
    obtain ⟨rfl, hflat⟩ := hK
    obtain ⟨us, hus, htup⟩ : ∃ us : List Value, PW (VR σ' w') rs' us ∧ ((∃ a, rs' = [a] ∧ us = [v]) ∨ ((∀ a, rs' ≠ [a]) ∧ v = .tuple us.toArray)) := by
      unfold resTup at hvr
      split at hvr
      · exact ⟨[v], PW.nil.cons hvr, .inl ⟨_, rfl, rfl⟩⟩
      · rename_i hne
        cases hvr with
        | tup _ us hl hv => exact ⟨us, ⟨hl, hv⟩, .inr ⟨fun a ha => hne a ha, rfl⟩⟩
    obtain ⟨hlen, uss, os, hCells, _, hsh⟩ := pureRs_ok hh rs' hp' hp1 ys us (fun _ _ h => h) hp hus
    rw [resAV_cells] at h4 ⊢
    obtain ⟨τ, t1, t2, t3⟩ := hCells.new hh rfl (ok := ok) rfl (fl := fl) (fun hf => flatR_all ys (hflat hf)) (by rw [← hfl]; exact h1) h2 h3 h4
    have hN := mats_ok ys id us uss hsh hlen t3
    have hlen2 : rs'.length = ys.length := by rw [← hus.len, hlen]
    refine ⟨⟨hk.os, hk.tape, hk.output, hk.size, hk.same⟩, τ, t1, t2, ?_⟩
    rcases htup with ⟨a, rfl, rfl⟩ | ⟨hne, rfl⟩
    · match ys, hlen2, hN with
      | [x], _, hN =>
        exact hN.at_ 0 _ v rfl rfl
      | [], h, _ => simp at h
      | _ :: _ :: _, h, _ => simp at h
    · have : (resAV id ys).1 = .tup (mats id ys).1 := by
        unfold resAV
        split
        · rename_i x
          match rs', hlen2, hne with
          | [a], _, hne => exact absurd rfl (hne a)
          | [], h, _ => simp at h
          | _ :: _ :: _, h, _ => simp at h
        · rfl
      rw [this]
      exact .tup _ _ hN.len hN.at_
theorem run_ok {E : Env} (hE : EnvOK E) (n : Nat) : ∀ k, RnOK E (runAV E n k)
  | 0 => fun g args hp up fb K r h => by simp [runAV] at h
  | k + 1 => fun g args hp up fb K r h => by
    have ih := run_ok hE n k
    have hcl : ClOK E (fun g xs => runAV E n k g (xs.map avP) [] [] 0 fun rs hp _ => endR (isFlat E g) hp rs) := fun g m xs rs hm _ h => told_of_rn ih hE.tab (by unfold isFlat; rw [hm]) h
    simp only [runAV] at h
    split at h
    · cases h
    · rename_i fn hfn
      split at h
      · cases h
      · rename_i c hc
        split at h
        · rename_i hok
          obtain ⟨hok, hle⟩ := hok
          have hEn : Enters E.P g := ⟨fn, hfn, hE.name g fn hok hfn, by rw [hc]; rfl⟩
          refine ⟨hEn, fun base σ w us ups ha hu hH hb => calls_of_wp hfn hc ?_⟩
          have hsz : (us.toArray ++ Array.replicate (fn.ntmps - us.toArray.size) undef).size = fn.ntmps := by
            have := ha.len
            simp; omega
          refine code_ok hE.mix hcl hE.prim ih c _ _ σ _ _ w h (hE.dst g fn c hok hfn hc) ⟨fun s a hs => ?_, hu, hH⟩ hb hsz fun e st' σ' vs' w' hK hR' hv' hk => ?_
          · obtain ⟨_, h2⟩ := look_argTM args 0 s a hs
            have hlt : s < us.length := by rw [ha.len]; exact (List.getElem?_eq_some_iff.1 (by simpa using h2)).1
            refine ⟨us[s], ?_, ha.at_ s a _ (by simpa using h2) (List.getElem?_eq_getElem hlt)⟩
            rw [Array.getElem?_append_left (by simpa using hlt)]
            simp [hlt]
          · have fin : (resultsAV E.P st' fn.results.toList).bind (fun rs => K rs st'.hp st'.up) = some r → bodyPost E.P fn (fun
                | .returned v, w' => ∃ rs hp' up' σ', K rs hp' up' = some r ∧ VR σ' w' (resTup rs) v ∧ UR σ' w' up' ups ∧ HR base σ' w' hp' ∧ Kept base w w'
                | _, _ => False) .ret ⟨vs', []⟩ w' := fun hK => by
              simp only [Option.bind_eq_some_iff] at hK
              obtain ⟨rs, hrs, hK⟩ := hK
              obtain ⟨us', h1, h2⟩ := results_ok hR'.tm hR'.hp _ rs hrs
              obtain ⟨v, h3, h4⟩ := resTup_ok h1 h2
              exact ⟨rfl, v, h3, rs, st'.hp, st'.up, σ', hK, h4, hR'.up, hR'.hp, hk⟩
            cases e with
            | normal => exact fin hK
            | ret => exact fin hK
            | exit id => cases hK
        · cases h
/-- What the evaluator says of a function is so. -/
theorem runPV_ok {E : Env} (hE : EnvOK E) {n k : Nat} {g : FuncId} {xs rs : List PV} (h : runPV E n k g xs = some rs) : Told E.P E.T ([], isFlat E g) g xs rs :=
  told_of_rn (run_ok hE n k) hE.tab rfl h
end Go.Proofs.YtalfnpdgajfkiaaDoor.Ax
