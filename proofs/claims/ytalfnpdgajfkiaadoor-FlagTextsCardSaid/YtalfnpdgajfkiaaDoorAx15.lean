/- 'Ax', part 15: one operation of a region; regions in the text's order. -/
import Derived.Test.YtalfnpdgajfkiaaDoorAx14
import Derived.Test.YtalfnpdgajfkiaaDoorAxS
import Derived.Tactics
set_option linter.unusedVariables false
set_option linter.unusedSimpArgs false
namespace Go.Proofs.YtalfnpdgajfkiaaDoor.Ax
open Go

/-- Calls that are walked in place. -/
def RnOK (E : Env) (rn : Run) : Prop := ∀ (g : FuncId) (args : List AV) (hp : HP) (up : List TM) (fb : Nat) (K : List AV → HP → List TM → R) (r : List PV), rn g args hp up fb K = some r → Enters E.P g ∧
  ∀ (base : Bs E.T) (σ : Sg) (w : World) (us : List Value) (ups : List (Array Value)), PW (VR σ w) args us → UR σ w up ups → HR base σ w hp → base.n ≤ w.heap.size →
    Calls E.P g us.toArray w fun
      | .returned v, w' => ∃ rs hp' up' σ', K rs hp' up' = some r ∧ VR σ' w' (resTup rs) v ∧ UR σ' w' up' ups ∧ HR base σ' w' hp' ∧ Kept base w w'
      | _, _ => False
/-- What goes on behind. -/
def Goes {T : World → Prop} (r : List PV) (base : Bs T) (ups : List (Array Value)) (nt : Nat) (ds : List Deferred) (w : World) (K : St → R) (next : Act → World → Prop) : Prop :=
  ∀ (st' : St) (σ' : Sg) (vs' : Array Value) (w' : World), K st' = some r → Rel base ups σ' st' vs' w' → vs'.size = nt → Kept base w w' → next ⟨vs', ds⟩ w'
theorem Goes.from {r : List PV} {T : World → Prop} {base : Bs T} {ups : List (Array Value)} {nt : Nat} {ds : List Deferred} {w w1 : World} {K : St → R} {next : Act → World → Prop} (h : Goes r base ups nt ds w K next) (hk : Kept base w w1) : Goes r base ups nt ds w1 K next :=
  fun st' σ' vs' w' h1 h2 h3 h4 => h st' σ' vs' w' h1 h2 h3 (hk.trans h4)
theorem act_put (vs : Array Value) (ds : List Deferred) (d : Option Tmp) (v : Value) : (⟨vs, ds⟩ : Act).put d v = ⟨((⟨vs, ds⟩ : Act).put d v).tmps, ds⟩ := by
  cases d <;> rfl
theorem inPlace_some {E : Env} {tm : TM} {o : Oper} {g : FuncId} {args : List AV} (h : inPlace E tm o = some (g, args)) :
    ∃ (c : Call) (f : Operand) (l cap : List AV), o.op = .call c ∧ c.callee = .value f ∧ evs tm c.args.toList = some l ∧ ev tm f = some (.fn (.func g) cap) ∧ args = l ++ cap := by
  unfold inPlace at h
  split at h
  · rename_i f as _ ho
    simp only [Option.bind_eq_some_iff] at h
    obtain ⟨l, hl, h⟩ := h
    split at h
    · rename_i g' cap hf
      split at h
      · cases h
      · cases h; exact ⟨_, f, l, cap, ho, rfl, hl, hf, rfl⟩
    · cases h
  · cases h
theorem updateM_ok {P : Program} {T : World → Prop} {base : Bs T} {ups : List (Array Value)} {σ : Sg} {st : St} {vs : Array Value} {w : World} (h : Rel base ups σ st vs w) {t : TypeId} {x i v : AV} {vx vi vv : Value} (hx : VR σ w x vx) (hi : VR σ w i vi) (hv : VR σ w v vv) {hp' : HP}
    (hm : updateM P st.hp t x i v = some hp') : ∃ w', (Instr.mapUpdate t vx vi vv).run P w = .ok () w' ∧ Rel base ups σ ⟨st.tm, st.up, hp'⟩ vs w' ∧ Kept base w w' := by
  unfold updateM at hm
  simp only [Option.bind_eq_some_iff] at hm
  obtain ⟨m, hmt, k, hk, v', hv', hm⟩ := hm
  split at hm
  · rename_i hok
    have e1 := rd_okK hok.1 (pureAV_ok (ok := fun _ => True) h.hp (fun _ _ => trivial) i k vi hk hi (fun _ _ _ _ => trivial))
    have e2 := rd_okK hok.2 (pureAV_ok (ok := fun _ => True) h.hp (fun _ _ => trivial) v v' vv hv' hv (fun _ _ _ _ => trivial))
    subst e1; subst e2
    split at hm
    · rename_i b
      cases hx with
      | mp _ kb hσ =>
        obtain ⟨g0, g1, z, g2, g3⟩ := h.hp.blk b kb hσ
        rw [g2] at hm
        cases z with
        | map kc vc l =>
          simp only at hm
          split at hm
          · rename_i hkv
            obtain ⟨rfl, rfl⟩ := hkv
            cases hm
            obtain ⟨o, h1, h2, h3⟩ := run_updateM hmt hok.1 hok.2 g3.2
            have hother : ∀ j, j ≠ kb.k → (w.heap.setIfInBounds kb.k o)[j]? = w.heap[j]? := fun j hj => Array.getElem?_setIfInBounds_ne (fun e => hj e.symm)
            have hE : Ext (okS σ) w { w with heap := w.heap.setIfInBounds kb.k o } := ⟨rfl, rfl, rfl, by simp, fun j _ ho => hother j (fun e => ho.2 b kb hσ e.symm), fun j cs e fz hc => ⟨cs, fz, (hother j (fun ej => h3 cs e fz (ej ▸ hc))).trans hc, rfl⟩⟩
            exact ⟨_, h1, h.writeTo hσ hE (by simp) hother (x := .map m.1 m.2.1 (mput k v' l)) ⟨g3.1, by simpa [g1] using h2⟩, ⟨rfl, rfl, rfl, by simp, fun j hj => hother j (by omega)⟩⟩
          · cases hm
        | _ => cases hm
    · cases hm
  · cases hm
theorem opW_ok {E : Env} {base : Bs E.T} {ups : List (Array Value)} {σ : Sg} {st st' : St} {vs : Array Value} {ds : List Deferred} {w : World} {fb : Nat} {o : Oper} (h : Rel base ups σ st vs w) (hb : base.n ≤ w.heap.size) (hd : ∀ t, o.dst = some t → t < vs.size)
    (hm : opW E fb o st = some st') {next : Act → World → Prop} {Q : Exit → Act → World → Prop} (hn : ∀ (σ' : Sg) (vs' : Array Value) (w' : World), Rel base ups σ' st' vs' w' → vs'.size = vs.size → Kept base w w' → next ⟨vs', ds⟩ w') : o.wp E.P ⟨vs, ds⟩ w next Q := by
  unfold opW at hm
  split at hm
  · rename_i t a x ho
    simp only [Option.bind_eq_some_iff, Option.map_eq_some_iff] at hm
    obtain ⟨av, ha, xv, hx, hp', hs, rfl⟩ := hm
    obtain ⟨w', h1, h2, h3⟩ := store_ok h (ev_ok (ds := ds) h.tm ha) (ev_ok (ds := ds) h.tm hx) hs
    unfold Oper.wp execOp
    rw [ho]
    simp only [Sem.run_bind, h1, Result.andThen_ok, Sem.run_pure]
    show next ((⟨vs, ds⟩ : Act).put o.dst undef) w'
    rw [act_put]
    exact hn σ _ w' ⟨h2.tm.putO (ds := ds) hd (VR.lit _ _ _), h2.up, h2.hp⟩ (put_size _ _ _ _) h3
  · rename_i t a b x ho
    simp only [Option.bind_eq_some_iff, Option.map_eq_some_iff] at hm
    obtain ⟨av, ha, bv, hb', xv, hx, hp', hs, rfl⟩ := hm
    obtain ⟨w', h1, h2, h3⟩ := updateM_ok h (ev_ok (ds := ds) h.tm ha) (ev_ok (ds := ds) h.tm hb') (ev_ok (ds := ds) h.tm hx) hs
    unfold Oper.wp execOp
    rw [ho]
    simp only [Sem.run_bind, h1, Result.andThen_ok, Sem.run_pure]
    show next ((⟨vs, ds⟩ : Act).put o.dst undef) w'
    rw [act_put]
    exact hn σ _ w' ⟨h2.tm.putO (ds := ds) hd (VR.lit _ _ _), h2.up, h2.hp⟩ (put_size _ _ _ _) h3
  · rename_i t a b x ho
    simp only [Option.bind_eq_some_iff, Option.map_eq_some_iff] at hm
    obtain ⟨av, ha, bv, hb', xv, hx, hp', hs, rfl⟩ := hm
    obtain ⟨w', h1, h2, h3⟩ := updateM_ok h (ev_ok (ds := ds) h.tm ha) (ev_ok (ds := ds) h.tm hb') (ev_ok (ds := ds) h.tm hx) hs
    unfold Oper.wp execOp
    rw [ho]
    simp only [Sem.run_bind, h1, Result.andThen_ok, Sem.run_pure]
    show next ((⟨vs, ds⟩ : Act).put o.dst undef) w'
    rw [act_put]
    exact hn σ _ w' ⟨h2.tm.putO (ds := ds) hd (VR.lit _ _ _), h2.up, h2.hp⟩ (put_size _ _ _ _) h3
  · rename_i _ as ts ho
    simp only [Option.bind_eq_some_iff] at hm
    obtain ⟨l, hl, hm⟩ := hm
    split at hm
    · rename_i s x t u h0 h1
      simp only [Option.bind_eq_some_iff] at hm
      obtain ⟨q, hq, y, hy, hm⟩ := hm
      have hpw := evs_pw (ds := ds) h.tm hl
      obtain ⟨v, vx, hv⟩ : ∃ v vx, as.toList.map (⟨vs, ds⟩ : Act).eval = [v, vx] := by
        have := hpw.len
        match hm : as.toList.map (⟨vs, ds⟩ : Act).eval, this with
        | [v, vx], _ => exact ⟨v, vx, rfl⟩
        | [], h => simp at h
        | [_], h => simp at h
        | _ :: _ :: _ :: _, h => simp at h
      rw [hv] at hpw
      have harr : as.map (⟨vs, ds⟩ : Act).eval = #[v, vx] := by apply Array.ext'; simpa using hv
      obtain ⟨r, w', hrun, σ', hR, hK⟩ := appendT_ok (P := E.P) (ty := o.type) (ds := ds) h hb h0 h1 (hpw.at_ 0 s v rfl rfl) (hpw.at_ 1 x vx rfl rfl) hq hy hd hm
      unfold Oper.wp execOp
      rw [ho]
      simp only [resolve, Sem.run_bind, Sem.run_pure, Result.andThen_ok, invoke, Go.builtin, harr, hrun]
      show next ((⟨vs, ds⟩ : Act).put o.dst r) w'
      rw [act_put]
      exact hn σ' _ w' hR (put_size _ _ _ _) hK
    · cases hm
  · cases hm
theorem next_ok {E : Env} {base : Bs E.T} {ups : List (Array Value)} {σ : Sg} {st : St} {vs : Array Value} {ds : List Deferred} {w : World} {o : Oper} {K : St → R} {r : List PV} (hR : Rel base ups σ st vs w) (hb : base.n ≤ w.heap.size) (hd : ∀ t, o.dst = some t → t < vs.size) {b : Nat} {s : ByteArray} {pos : Nat}
    (hnx : nextOf st.tm st.hp o = some (b, s, pos)) (h : (cond (decide (pos < s.size))
        (K ⟨putO o.dst (.tup [.p (.lit (.bool true)), .p (.lit (.int .i64 (pos : Int))), .p (.lit (.int .i32 (Utf8.decode s pos).1))]) st.tm, st.up, (b, .iter s (pos + (Utf8.decode s pos).2)) :: del st.hp b⟩)
        (K ⟨putO o.dst (.tup [.p (.lit (.bool false))]) st.tm, st.up, st.hp⟩)) = some r) {next : Act → World → Prop} {Q : Exit → Act → World → Prop} (hn : Goes r base ups vs.size ds w K next) : o.wp E.P ⟨vs, ds⟩ w next Q := by
  unfold nextOf at hnx
  split at hnx
  · rename_i it ho
    simp only [Option.bind_eq_some_iff] at hnx
    obtain ⟨a, ha, hnx⟩ := hnx
    have hv := ev_ok (ds := ds) hR.tm ha
    split at hnx
    · rename_i b' sz i
      split at hnx
      · rename_i s' pos' hl
        cases hnx
        cases hit : (⟨vs, ds⟩ : Act).eval it <;> rw [hit] at hv <;> cases hv
        rename_i k hσ hks
        obtain ⟨h1, h2, y, h3, h4⟩ := hR.hp.blk b k hσ
        rw [hl] at h3; cases h3
        obtain ⟨g1, g2⟩ := h4
        have hz : sz = 0 := by omega
        subst hz
        unfold Oper.wp execOp
        rw [ho]
        by_cases hp : pos < s.size
        · have hp' : decide (pos < s.size) = true := by simpa using hp
          rw [hp', cond_true] at h
          have hobj : (getObj k.k).run E.P w = .ok (.stringIter s pos) w := by simp [getObj, Sem.run, g2]
          have hset : (setObj k.k (.stringIter s (pos + (Utf8.decode s pos).2))).run E.P w = .ok () { w with heap := w.heap.setIfInBounds k.k (.stringIter s (pos + (Utf8.decode s pos).2)) } := by simp [setObj, Sem.run, g2]
          have hrun : (Instr.next (.pointer (some ⟨k.k, i * 0 + 0, none⟩)) true o.type).run E.P w = .ok (.tuple #[.bool true, .int .i64 (pos : Int), .int .i32 (Utf8.decode s pos).1]) { w with heap := w.heap.setIfInBounds k.k (.stringIter s (pos + (Utf8.decode s pos).2)) } := by
            simp [Instr.next, hobj, hp, hset, goInt]
          simp only [hit, Sem.run_bind, hrun, Result.andThen_ok, Sem.run_pure]
          show next ((⟨vs, ds⟩ : Act).put o.dst _) _
          rw [act_put]
          have hother : ∀ j, j ≠ k.k → (w.heap.setIfInBounds k.k (.stringIter s (pos + (Utf8.decode s pos).2)))[j]? = w.heap[j]? := fun j hj => Array.getElem?_setIfInBounds_ne (fun e => hj e.symm)
          have hE : Ext (okS σ) w { w with heap := w.heap.setIfInBounds k.k (.stringIter s (pos + (Utf8.decode s pos).2)) } := ⟨rfl, rfl, rfl, by simp, fun j _ ho => hother j (fun e => ho.2 b k hσ e.symm), fun j cs e fz hc => ⟨cs, fz, (hother j (fun ej => by rw [ej, g2] at hc; cases hc)).trans hc, rfl⟩⟩
          have hW := hR.writeTo hσ hE (by simp) hother (x := .iter s (pos + (Utf8.decode s pos).2)) ⟨g1, by simp [h2]⟩
          refine hn _ σ _ _ h ⟨hW.tm.putO (ds := ds) hd (.tup _ [.bool true, .int .i64 (pos : Int), .int .i32 (Utf8.decode s pos).1] rfl fun j a v ha hv => ?_), hW.up, hW.hp⟩ (put_size _ _ _ _) ⟨rfl, rfl, rfl, by simp, fun j hj => hother j (by omega)⟩
          match j with
          | 0 => simp at ha hv; subst ha; subst hv; exact VR.lit _ _ _
          | 1 => simp at ha hv; subst ha; subst hv; exact VR.lit _ _ _
          | 2 => simp at ha hv; subst ha; subst hv; exact VR.lit _ _ _
          | j + 3 => simp at ha
        · have hp' : decide (pos < s.size) = false := by simpa using hp
          rw [hp', cond_false] at h
          have hobj : (getObj k.k).run E.P w = .ok (.stringIter s pos) w := by simp [getObj, Sem.run, g2]
          have hrun : (Instr.next (.pointer (some ⟨k.k, i * 0 + 0, none⟩)) true o.type).run E.P w = .ok (.tuple #[.bool false]) w := by
            simp [Instr.next, hobj, hp]
          simp only [hit, Sem.run_bind, hrun, Result.andThen_ok, Sem.run_pure]
          show next ((⟨vs, ds⟩ : Act).put o.dst _) _
          rw [act_put]
          refine hn _ σ _ _ h ⟨hR.tm.putO (ds := ds) hd (.tup _ [.bool false] rfl fun j a v ha hv => ?_), hR.up, hR.hp⟩ (put_size _ _ _ _) (Kept.refl _ _)
          match j with
          | 0 => simp at ha hv; subst ha; subst hv; exact VR.lit _ _ _
          | j + 1 => simp at ha
      · cases hnx
    · cases hnx
  · cases hnx
theorem pkOf_some {E : Env} {tm : TM} {hp : HP} {o : Oper} {y : FuncId × (List PV → (List PV → R) → R) × List PV × List Nat} (h : pkOf E tm hp o = some y) :
    ∃ (c : Call) (f : Operand) (m : List (List (Option Nat)) × Bool) (args : List AV) (xs : List PV), o.op = .call c ∧ c.callee = .value f ∧ ev tm f = some (.fn (.func y.1) []) ∧ E.pk y.1 = some y.2.1 ∧ E.sig y.1 = some m ∧ evs tm c.args.toList = some args ∧ pureAVs hp args = some xs ∧ y.2.2.1 = coerces m.1 xs ∧ y.2.2.2 = if m.2 then [] else rowsIns args := by
  unfold pkOf at h
  split at h
  · rename_i c ho
    split at h
    · rename_i f hc
      split at h
      · rename_i g hg
        simp only [Option.bind_eq_some_iff] at h
        obtain ⟨q, hq, m, hm, args, ha, xs, hx, h⟩ := h
        cases h
        exact ⟨c, f, m, args, xs, ho, hc, hg, hq, hm, ha, hx, rfl, rfl⟩
      · cases h
    · cases h
  · cases h
theorem told_holds {E : Env} {base : Bs E.T} {σ : Sg} {w : World} {tm : TM} {vs : Array Value} {ds : List Deferred} {hp : HP} (hT : TR σ w tm vs) (hH : HR base σ w hp) (hb : base.n ≤ w.heap.size) {o : Oper} {y : FuncId × (List PV → (List PV → R) → R) × List PV × List Nat} (h : pkOf E tm hp o = some y) {rs : List PV} (hy : ∀ m, E.sig y.1 = some m → Told E.P E.T m y.1 y.2.2.1 rs) {id : Nat}
    (hf : ∀ b x, look (resAV id rs).2 b = some x → cutL σ y.2.2.2 b = none) : Holds E.P o ⟨vs, ds⟩ w fun v w' => NewR (cutL σ y.2.2.2) w (resAV id rs).1 (resAV id rs).2 v w' := by
  obtain ⟨c, f, m, args, xs, ho, hcal, hg, hq, hm, ha, hx, hxs, hks⟩ := pkOf_some h
  have h2 := hy m hm
  rw [hxs] at h2
  rw [hks] at hf ⊢
  have hpw := evs_pw (ds := ds) hT ha
  have h4 := told_call h2 hH hb hpw hx hf
  have h5 := ev_ok (ds := ds) hT hg
  have h6 : (⟨vs, ds⟩ : Act).eval f = .func (.func y.1) #[] #[] := by
    cases h7 : (⟨vs, ds⟩ : Act).eval f <;> rw [h7] at h5 <;> cases h5
    rename_i us hl _
    have : us = [] := List.eq_nil_of_length_eq_zero (by simpa using hl)
    subst this; rfl
  have harr : c.args.map (⟨vs, ds⟩ : Act).eval = (c.args.toList.map (⟨vs, ds⟩ : Act).eval).toArray := by apply Array.ext'; simp
  intro next Q hn
  unfold Oper.wp
  have : (execOp (⟨vs, ds⟩ : Act).eval o).run E.P w = .ok (.enter y.1 (c.args.toList.map (⟨vs, ds⟩ : Act).eval).toArray) w := by
    unfold execOp
    rw [ho]
    simp only [resolve, hcal, h6, Deferred.ofValue, Sem.run_bind, Sem.run_pure, Result.andThen_ok, invoke, harr, Array.empty_append, Array.append_empty, run_callFunc h2.1]
  rw [this]
  refine Calls.mono h4 fun e w' hr => ?_
  cases e with
  | returned v => exact hn v w' hr
  | panicked c => exact hr.elim
  | outgrown => exact hr.elim
/-- A call of a function that is told: whatever goes on behind it. -/
theorem pk_told {E : Env} (hpr : PrimOK E) {tm : TM} {hp : HP} {o : Oper} {y : FuncId × (List PV → (List PV → R) → R) × List PV × List Nat} (h : pkOf E tm hp o = some y) {K : List PV → R} {r : List PV} (hK : y.2.1 y.2.2.1 K = some r) :
    ∃ rs, K rs = some r ∧ ∀ m, E.sig y.1 = some m → Told E.P E.T m y.1 y.2.2.1 rs := by
  obtain ⟨c, f, m, args, xs, ho, hcal, hg, hq, hm, ha, hx, hxs, hks⟩ := pkOf_some h
  obtain ⟨rs, h1, h2⟩ := hpr.2.2 _ m _ _ _ r hm hq hK
  exact ⟨rs, h1, fun m' hm' => by rw [hm] at hm'; cases hm'; exact h2⟩
theorem pk_holds {E : Env} (hpr : PrimOK E) {base : Bs E.T} {σ : Sg} {w : World} {tm : TM} {vs : Array Value} {ds : List Deferred} {hp : HP} (hT : TR σ w tm vs) (hH : HR base σ w hp) (hb : base.n ≤ w.heap.size) {o : Oper} {y : FuncId × (List PV → (List PV → R) → R) × List PV × List Nat} (h : pkOf E tm hp o = some y) {K : List PV → R} {r : List PV} (hK : y.2.1 y.2.2.1 K = some r) :
    ∃ rs, K rs = some r ∧ ∀ id, (∀ b x, look (resAV id rs).2 b = some x → cutL σ y.2.2.2 b = none) → Holds E.P o ⟨vs, ds⟩ w fun v w' => NewR (cutL σ y.2.2.2) w (resAV id rs).1 (resAV id rs).2 v w' := by
  obtain ⟨rs, h1, h2⟩ := pk_told hpr h hK
  exact ⟨rs, h1, fun id hf => told_holds hT hH hb h h2 hf⟩
theorem pk_ok {E : Env} (hpr : PrimOK E) {base : Bs E.T} {ups : List (Array Value)} {σ : Sg} {st : St} {vs : Array Value} {ds : List Deferred} {w : World} {id : Nat} {o : Oper} {K : St → R} {r : List PV} (hR : Rel base ups σ st vs w) (hb : base.n ≤ w.heap.size) (hd : ∀ t, o.dst = some t → t < vs.size)
    {y : FuncId × (List PV → (List PV → R) → R) × List PV × List Nat} (hpk : pkOf E st.tm st.hp o = some y) (h : (y.2.1 y.2.2.1 fun rs => (addBlks (kills y.2.2.2 st) o.dst (resAV id rs).1 (resAV id rs).2).bind K) = some r) {next : Act → World → Prop} {Q : Exit → Act → World → Prop} (hn : Goes r base ups vs.size ds w K next) : o.wp E.P ⟨vs, ds⟩ w next Q := by
  obtain ⟨rs, hK, hH⟩ := pk_holds (ds := ds) hpr hR.tm hR.hp hb hpk h
  simp only [Option.bind_eq_some_iff] at hK
  obtain ⟨st', hadd, hK⟩ := hK
  have hR' := Rel.kills y.2.2.2 hR
  have hfr : fresh (resAV id rs).2 (kills y.2.2.2 st).hp = true := by
    unfold addBlks at hadd
    split at hadd
    · assumption
    · cases hadd
  refine hH id (fun b x hx => hR'.hp.none_of (fresh_look _ _ hfr b x hx)) next Q fun v w' hN => ?_
  obtain ⟨σ', h1, h2⟩ := hR'.new (ds := ds) hN hb hd hadd
  rw [act_put]
  exact hn st' σ' _ w' hK h1 (put_size _ _ _ _) h2
theorem runIn_ok {E : Env} {rn : Run} (hpr : PrimOK E) (hrn : RnOK E rn) : RnOK E (runIn E rn) := fun g args hp up fb K r h => by
  unfold runIn at h
  split at h
  · rename_i q hq; exact hpr.1 g q hq _ _ _ _ r h
  · exact hrn g _ _ _ _ _ r h
theorem step_ok {E : Env} {cl : FuncId → List PV → R} {rn : Run} (hcl : ClOK E cl) (hpr : PrimOK E) (hrn : RnOK E rn) {base : Bs E.T} {ups : List (Array Value)} {σ : Sg} {st : St} {vs : Array Value} {ds : List Deferred} {w : World} {fb nt : Nat} {o : Oper} {K : St → R} {r : List PV}
    (h : step E cl rn fb nt o st K = some r) (hR : Rel base ups σ st vs w) (hb : base.n ≤ w.heap.size) (hd : ∀ t, o.dst = some t → t < vs.size) {next : Act → World → Prop} {Q : Exit → Act → World → Prop} (hn : Goes r base ups vs.size ds w K next) : o.wp E.P ⟨vs, ds⟩ w next Q := by
  unfold step at h
  split at h
  · rename_i g args hip
    obtain ⟨c, f, l, cap, ho, hcal, hl, hf, rfl⟩ := inPlace_some hip
    have hpw := evs_pw (ds := ds) hR.tm hl
    have hfv := ev_ok (ds := ds) hR.tm hf
    obtain ⟨us, hus, hpc⟩ : ∃ us : List Value, (⟨vs, ds⟩ : Act).eval f = .func (.func g) #[] us.toArray ∧ PW (VR σ w) cap us := by
      cases h7 : (⟨vs, ds⟩ : Act).eval f <;> rw [h7] at hfv <;> cases hfv
      rename_i us hl' hv'
      exact ⟨us, rfl, hl', hv'⟩
    obtain ⟨hE, hC⟩ := runIn_ok hpr hrn g _ _ _ _ _ r h
    have hC := hC base σ w _ (vs :: ups) (hpw.append hpc) (.cons hR.tm hR.up) hR.hp hb
    have harr : c.args.map (⟨vs, ds⟩ : Act).eval = (c.args.toList.map (⟨vs, ds⟩ : Act).eval).toArray := by apply Array.ext'; simp
    unfold Oper.wp
    have hrun : (execOp (⟨vs, ds⟩ : Act).eval o).run E.P w = .ok (.enter g (c.args.toList.map (⟨vs, ds⟩ : Act).eval ++ us).toArray) w := by
      unfold execOp
      rw [ho]
      simp only [resolve, hcal, hus, Deferred.ofValue, Sem.run_bind, Sem.run_pure, Result.andThen_ok, invoke, harr, Array.empty_append, List.append_toArray, List.nil_append, run_callFunc hE]
    rw [hrun]
    refine Calls.mono hC fun e w' hr => ?_
    cases e with
    | returned v =>
      obtain ⟨rs, hp', up', σ', hK, hv, hu, hh, hk⟩ := hr
      cases hu with
      | cons ht hu =>
        show next ((⟨vs, ds⟩ : Act).put o.dst v) w'
        rw [act_put]
        exact hn _ σ' _ w' hK ⟨ht.putO (ds := ds) hd hv, hu, hh⟩ (put_size _ _ _ _) hk
    | panicked c => exact hr.elim
    | outgrown => exact hr.elim
  · split at h
    · have hW : ∃ st', opW E fb o st = some st' ∧ K st' = some r := by
        split at h
        · rename_i y hs
          cases hc : y.1 with
          | true => rw [hc, cond_true] at h; exact ⟨y.2, softW_ok hs hc, h⟩
          | false => rw [hc, cond_false] at h; cases h
        · simpa only [Option.bind_eq_some_iff] using h
      obtain ⟨st', hs, hK⟩ := hW
      exact opW_ok hR hb hd hs fun σ' vs' w' h1 h2 h3 => hn st' σ' vs' w' hK h1 h2 h3
    · split at h
      · rename_i b s pos hnx
        exact next_ok hR hb hd hnx h hn
      · split at h
        · rename_i y hpk
          exact pk_ok hpr hR hb hd hpk h hn
        · have hA : ∃ y st', opA E cl st.tm st.hp (idOf fb o.dst) o = some y ∧ addBlks (kills y.2.2 st) o.dst y.1 y.2.1 = some st' ∧ K st' = some r := by
            split at h
            · rename_i y hs
              cases hc : y.1 with
              | true =>
                rw [hc, cond_true] at h
                simp only [Option.bind_eq_some_iff] at h
                obtain ⟨st', h1, h2⟩ := h
                exact ⟨y.2, st', soft_ok hs hc, h1, h2⟩
              | false => rw [hc, cond_false] at h; cases h
            · simp only [Option.bind_eq_some_iff] at h
              obtain ⟨y, hy, st', hadd, hK⟩ := h
              exact ⟨y, st', hy, hadd, hK⟩
          obtain ⟨y, st', hy, hadd, hK⟩ := hA
          have hR' := Rel.kills y.2.2 hR
          have hfr : fresh y.2.1 (kills y.2.2 st).hp = true := by
            unfold addBlks at hadd
            split at hadd
            · assumption
            · cases hadd
          refine opA_ok hcl hpr hR.tm hR.hp hb hy (fun b x hx => hR'.hp.none_of (fresh_look _ _ hfr b x hx)) next Q fun v w' hN => ?_
          obtain ⟨σ', h1, h2⟩ := hR'.new (ds := ds) hN hb hd hadd
          rw [act_put]
          exact hn st' σ' _ w' hK h1 (put_size _ _ _ _) h2
/-- Regions in the text's order. -/
theorem branch_some {want b : Bool} {x y : R} {r : List PV} (h : branch want b x y = some r) : (b = want ∧ x = some r) ∨ (b = (!want) ∧ y = some r) := by
  cases want <;> cases b <;> first | exact .inl ⟨rfl, h⟩ | exact .inr ⟨rfl, h⟩
def dstOK (nt : Nat) (o : Oper) : Bool :=
  match o.dst with
  | some d => decide (d < nt)
  | none => true
theorem dstOK_lt {nt : Nat} {o : Oper} (h : dstOK nt o = true) : ∀ t, o.dst = some t → t < nt := fun t ht => by
  unfold dstOK at h; rw [ht] at h; simpa using h
theorem op1_ok {E : Env} {cl : FuncId → List PV → R} {rn : Run} (hcl : ClOK E cl) (hpr : PrimOK E) (hrn : RnOK E rn) {base : Bs E.T} {ups : List (Array Value)} {ds : List Deferred} {fb nt : Nat} {ops : Array Oper} {K : St → R} {r : List PV} {Q : Exit → Act → World → Prop} {next : Act → World → Prop}
    {o : Oper} {l : List Oper} {σ : Sg} {st : St} {vs : Array Value} {w : World} (h : opsK E cl rn fb nt ops (o :: l) st K = some r) (hdk : dstOK nt o = true) (hR : Rel base ups σ st vs w) (hb : base.n ≤ w.heap.size) (hv : vs.size = nt)
    (hn : Goes r base ups nt ds w (fun st => opsK E cl rn fb nt ops l st K) next) : if Region.wanted o (yielded ops vs) then o.wp E.P ⟨vs, ds⟩ w next Q ∨ (o.asks E.P ⟨vs, ds⟩ w ∧ LetsOut Q) else next ((⟨vs, ds⟩ : Act).put o.dst undef) w := by
  have hd : ∀ t, o.dst = some t → t < vs.size := by rw [hv]; exact dstOK_lt hdk
  have run : ∀ {st1 : St}, Rel base ups σ st1 vs w → step E cl rn fb nt o st1 (fun st => opsK E cl rn fb nt ops l st K) = some r → o.wp E.P ⟨vs, ds⟩ w next Q := fun h1 h2 =>
    step_ok hcl hpr hrn h2 h1 hb hd fun st' σ' vs' w' g1 g2 g3 g4 => hn st' σ' vs' w' g1 g2 (g3.trans hv) g4
  have skip : ∀ {st1 : St}, Rel base ups σ st1 vs w → opsK E cl rn fb nt ops l ⟨putO o.dst (.p (.lit undef)) st1.tm, st1.up, st1.hp⟩ K = some r → next ((⟨vs, ds⟩ : Act).put o.dst undef) w := fun h1 h2 => by
    rw [act_put]
    exact hn _ σ _ w h2 ⟨h1.tm.putO (ds := ds) hd (VR.lit _ _ _), h1.up, h1.hp⟩ ((put_size _ _ _ _).trans hv) (Kept.refl _ _)
  simp only [opsK] at h
  split at h
  · rename_i hg
    have hw : Region.wanted o (yielded ops vs) = true := by unfold Region.wanted; rw [hg]
    rw [if_pos hw]
    exact .inl (run hR h)
  · rename_i j want hg
    split at h
    · cases h
    · rename_i d hj
      split at h
      · rename_i b hb'
        obtain ⟨v, hv1, hv2⟩ := hR.tm d _ hb'
        have hvb := hv2.litEq
        subst hvb
        have hy : yielded ops vs j = some b := by unfold yielded; rw [hj]; simp only [Option.bind_some]; rw [hv1]
        rcases branch_some h with ⟨rfl, hx⟩ | ⟨rfl, hx⟩
        · have hw : Region.wanted o (yielded ops vs) = true := by unfold Region.wanted; rw [hg]; simp [hy]
          rw [if_pos hw]
          exact .inl (run (st1 := ⟨(d, .p (.lit (.bool b))) :: st.tm, st.up, st.hp⟩) ⟨hR.tm.put hv1 (VR.lit _ _ _), hR.up, hR.hp⟩ hx)
        · have hw : ¬ Region.wanted o (yielded ops vs) = true := by unfold Region.wanted; rw [hg]; simp [hy]
          rw [if_neg hw]
          exact skip (st1 := ⟨(d, .p (.lit (.bool !want))) :: st.tm, st.up, st.hp⟩) ⟨hR.tm.put hv1 (VR.lit _ _ _), hR.up, hR.hp⟩ hx
      · rename_i hb'
        obtain ⟨v, hv1, hv2⟩ := hR.tm d _ hb'
        have hvb := hv2.litEq
        subst hvb
        have hy : yielded ops vs j = none := by unfold yielded; rw [hj]; simp only [Option.bind_some]; rw [hv1]
        have hw : ¬ Region.wanted o (yielded ops vs) = true := by unfold Region.wanted; rw [hg]; simp [hy]
        rw [if_neg hw]
        exact skip hR h
      · cases h
theorem opsK_ok {E : Env} {cl : FuncId → List PV → R} {rn : Run} (hcl : ClOK E cl) (hpr : PrimOK E) (hrn : RnOK E rn) {base : Bs E.T} {ups : List (Array Value)} {ds : List Deferred} {fb nt : Nat} {ops : Array Oper} {K : St → R} {r : List PV} {Q : Exit → Act → World → Prop} :
    ∀ (l : List Oper) {σ : Sg} {st : St} {vs : Array Value} {w : World}, opsK E cl rn fb nt ops l st K = some r → l.all (dstOK nt) = true → Rel base ups σ st vs w → base.n ≤ w.heap.size → vs.size = nt → Goes r base ups nt ds w K (Q .normal) → wpList E.P ops Q l ⟨vs, ds⟩ w
  | [], σ, st, vs, w, h, _, hR, hb, hv, hn => hn st σ vs w h hR hv (Kept.refl _ _)
  | o :: l, σ, st, vs, w, h, hdk, hR, hb, hv, hn => by
    simp only [List.all_cons, Bool.and_eq_true] at hdk
    unfold wpList
    exact op1_ok hcl hpr hrn h hdk.1 hR hb hv fun st' σ' vs' w' h1 h2 h3 h4 => opsK_ok hcl hpr hrn l h1 hdk.2 h2 (Nat.le_trans hb h4.size) h3 (hn.from h4)
end Go.Proofs.YtalfnpdgajfkiaaDoor.Ax
