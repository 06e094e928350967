/- 'Ax', part 12: all operations that write nothing. -/
import Derived.Test.YtalfnpdgajfkiaaDoorAx11
import Derived.Test.YtalfnpdgajfkiaaDoorAxM
import Derived.Laws.IdiomStrings
set_option linter.unusedVariables false
set_option linter.unusedSimpArgs false
namespace Go.Proofs.YtalfnpdgajfkiaaDoor.Ax
open Go

theorem exec_v {P : Program} {w w' : World} {s : Sem Value} {v : Value} (h : s.run P w = .ok v w') : (do pure (Next.value (← s)) : Sem Next).run P w = .ok (.value v) w' := by
  rw [Sem.run_bind, h]; rfl
theorem val_some {x : Option AV} {y : AV × HP × List Nat} (h : val x = some y) : ∃ a, x = some a ∧ y = (a, [], []) := by
  simp only [val, Option.map_eq_some_iff] at h
  obtain ⟨a, h1, h2⟩ := h
  exact ⟨a, h1, h2.symm⟩
theorem minMax_ok {P : Program} {σ : Sg} {w : World} {mx : Bool} {args : List AV} {us : List Value} {a : AV} (hp : PW (VR σ w) args us) (h : minMax mx args = some a) (ts : Array TypeId) (ty : TypeId) :
    ∃ v, (if mx then Builtin.max_ ts ty us.toArray else Builtin.min_ ts ty us.toArray).run P w = .ok v w ∧ VR σ w a v := by
  unfold minMax at h
  split at h
  · cases h
  · rename_i x
    cases h
    match us, hp with
    | [u], hp => exact ⟨u, by cases mx <;> simp [Builtin.max_, Builtin.min_], hp.at_ 0 _ u rfl rfl⟩
    | [], hp => exact absurd hp.len (by simp)
    | _ :: _ :: _, hp => exact absurd hp.len (by simp)
  · rename_i k a k' b r hr
    split at h
    · rename_i hk
      subst hk
      match us, hp with
      | u :: v :: us, hp =>
        have h1 := (hp.at_ 0 _ u rfl rfl).litEq
        have h2 := (hp.at_ 1 _ v rfl rfl).litEq
        subst h1; subst h2
        split at h
        · cases h
          match us, hp with
          | [], hp => exact ⟨_, by cases mx <;> simp [Builtin.max_, Builtin.min_, Builtin.max2, Builtin.min2], VR.lit _ _ _⟩
          | _ :: _, hp => exact absurd hp.len (by simp)
        · rename_i k'' c hr
          split at h
          · rename_i hk
            subst hk
            cases h
            match us, hp with
            | [], hp => exact absurd hp.len (by simp)
            | [z], hp =>
              have h3 := (hp.at_ 2 _ z rfl rfl).litEq
              subst h3
              exact ⟨_, by cases mx <;> simp [Builtin.max_, Builtin.min_, Builtin.max2, Builtin.min2], VR.lit _ _ _⟩
            | _ :: _ :: _, hp => exact absurd hp.len (by simp)
          · cases h
        · cases h
      | [], hp => exact absurd hp.len (by simp)
      | [_], hp => exact absurd hp.len (by simp)
    · cases h
  · cases h
theorem isU8_some {P : Program} {t : TypeId} (h : isU8 P t = true) : P.underlying t = some (.int .u8) := by
  unfold isU8 at h
  split at h
  · rename_i hu; exact hu
  · cases h
theorem bytes_new {T : World → Prop} {base : Bs T} {σ : Sg} {w : World} {hp : HP} (hH : HR base σ w hp) (hb : base.n ≤ w.heap.size) (e : TypeId) (s : ByteArray) {fz : Nat × Nat} :
    NewR σ w (.p (.sl 1 (bytesPV s))) [] (.slice (some ⟨w.heap.size, 0, none⟩) s.size (grownCap w s.size 0 e)) (w.drew.alloc (.cells (bytesRow s (grownCap w s.size 0 e)) e fz)) := by
  have hg : Grow w (w.drew.alloc (.cells (bytesRow s (grownCap w s.size 0 e)) e fz)) := (Grow.drew w).trans (Grow.alloc w.drew _)
  refine .of_grow hg (.p _ _ ?_)
  have hat : (w.drew.alloc (.cells (bytesRow s (grownCap w s.size 0 e)) e fz)).heap[w.heap.size]? = some (.cells (bytesRow s (grownCap w s.size 0 e)) e fz) := heap_alloc_new w.drew _
  have hlen : (bytesPV s).length = s.size := by simp [bytesPV]
  have helem : ∀ (i : Nat) (x : PV), (bytesPV s)[i]? = some x → ∃ b : UInt8, s.data.toList[i]? = some b ∧ x = .lit (.int .u8 (b.toNat : Int)) := fun i x hx => by
    simp only [bytesPV, List.getElem?_map, Option.map_eq_some_iff] at hx
    obtain ⟨b, h1, h2⟩ := hx
    exact ⟨b, h1, h2.symm⟩
  have := Rd.sl (ok := okS σ) (w := w.drew.alloc (.cells (bytesRow s (grownCap w s.size 0 e)) e fz)) 1 (bytesPV s) ⟨w.heap.size, 0, none⟩ (grownCap w s.size 0 e) (fun i _ => .int .u8 ((s.data.toList.getD i 0).toNat : Int))
    ⟨by rw [hH.g]; exact base.up _ hb, fun b t ht => by have := (hH.blk b t ht).2.1; simp only; omega⟩ (by simp) (by rw [hlen]; exact grownCap_ge w s.size 0 e)
    ⟨fun i x hx => by obtain ⟨b, _, rfl⟩ := helem i x hx; rfl, fun i x j c hx hc => by
      obtain ⟨b, h1, rfl⟩ := helem i x hx
      have hi : i < s.data.toList.length := (List.getElem?_eq_some_iff.1 h1).1
      cases j with
      | succ j => simp [cellsOf] at hc
      | zero =>
        rw [add_at, cell_at hat]
        have hb2 : s.data[i]? = some b := by simpa using h1
        simp only [bytesRow, Nat.zero_add, Nat.mul_one, Nat.add_zero]
        rw [Array.getElem?_append_left (by simpa using hi)]
        simp [hb2, List.getD_eq_getElem?_getD, h1], fun _ _ _ _ _ _ => rfl⟩ fun i x j c hx hc => by
      obtain ⟨b, h1, rfl⟩ := helem i x hx
      cases j with
      | succ j => simp [cellsOf] at hc
      | zero =>
        simp [cellsOf] at hc; subst hc
        rw [List.getD_eq_getElem?_getD, h1]
        exact .lit _
  rwa [hlen] at this
theorem pick_ok {σ : Sg} {w : World} {c : Bool} {tm : TM} {vs : Array Value} {ds : List Deferred} (hT : TR σ w tm vs) {a b : Operand} {y : AV} (h : pickAV c (ev tm a) (ev tm b) = some y) : VR σ w y (if c then (⟨vs, ds⟩ : Act).eval a else (⟨vs, ds⟩ : Act).eval b) := by
  unfold pickAV at h
  split at h
  · rename_i x z hx hz
    cases h
    simp only [Option.bind_eq_some_iff] at hx hz
    obtain ⟨ax, h1, h2⟩ := hx
    obtain ⟨az, h3, h4⟩ := hz
    rw [asB_ok (ev_ok (ds := ds) hT h1) h2, asB_ok (ev_ok (ds := ds) hT h3) h4]
    cases c <;> exact VR.lit _ _ _
  · cases c
    · exact ev_ok hT h
    · exact ev_ok hT h
theorem lookupM_ok {P : Program} {T : World → Prop} {base : Bs T} {σ : Sg} {w : World} {hp : HP} (hH : HR base σ w hp) {t : TypeId} {x i y : AV} {vx vi : Value} {ok : Bool} (hx : VR σ w x vx) (hi : VR σ w i vi) (h : lookupM P hp t x i ok = some y) :
    ∃ v, (Instr.lookup t vx vi ok).run P w = .ok v w ∧ VR σ w y v := by
  unfold lookupM at h
  simp only [Option.bind_eq_some_iff] at h
  obtain ⟨m, hm, k, hk, h⟩ := h
  split at h
  · rename_i hok
    have hr := pureAV_ok (ok := fun _ => True) hH (fun _ _ => trivial) i k vi hk hi (fun _ _ _ _ => trivial)
    have hvi := rd_okK hok hr
    subst hvi
    have out : ∀ v b, okK m.2.1 v = true → VR σ w (resM ok v b) (outM ok v b) := by
      intro v b hv
      unfold resM outM
      split
      · refine .tup _ [valOf v, .bool b] rfl fun j a u ha hu => ?_
        match j with
        | 0 => simp at ha hu; subst ha; subst hu; exact .p _ _ (okK_rd hv)
        | 1 => simp at ha hu; subst ha; subst hu; exact VR.lit _ _ _
        | j + 2 => simp at ha
      · exact .p _ _ (okK_rd hv)
    split at h
    · rename_i b
      cases hx with
      | mp _ kb hσ =>
        obtain ⟨_, _, z, g1, g2⟩ := hH.blk b kb hσ
        rw [g1] at h
        cases z with
        | map kc vc l =>
          simp only at h
          split at h
          · rename_i hkv
            obtain ⟨rfl, rfl⟩ := hkv
            cases h
            obtain ⟨h1, h2⟩ := run_lookupM hm hok g2.2 ok
            refine ⟨_, h1, ?_⟩
            rw [canonK_ok h2]
            exact out _ _ h2
          · cases h
        | _ => cases h
    · cases h
      rw [hx.litEq]
      obtain ⟨_, _, _, _, _, _, hz⟩ := mapT_some hm
      exact ⟨_, run_lookupNil hm hok w ok, out _ _ hz⟩
    · cases h
  · cases h
theorem opA_ok {E : Env} {cl : FuncId → List PV → R} (hcl : ClOK E cl) (hpr : PrimOK E) {base : Bs E.T} {σ : Sg} {w : World} {tm : TM} {vs : Array Value} {ds : List Deferred} {hp : HP} (hT : TR σ w tm vs) (hH : HR base σ w hp) (hb : base.n ≤ w.heap.size)
    {id : Nat} {o : Oper} {y : AV × HP × List Nat} (h : opA E cl tm hp id o = some y) (hf : ∀ b x, look y.2.1 b = some x → cutL σ y.2.2 b = none) :
    Holds E.P o ⟨vs, ds⟩ w fun v w' => NewR (cutL σ y.2.2) w y.1 y.2.1 v w' := by
  unfold opA at h
  split at h
  · rename_i x ho
    obtain ⟨a, hx, rfl⟩ := val_some h
    exact .of_run (v := (⟨vs, ds⟩ : Act).eval x) (w' := w) (by unfold execOp; rw [ho]; rfl) (.of_val (ev_ok hT hx))
  · rename_i x ho
    obtain ⟨a, hx, rfl⟩ := val_some h
    exact .of_run (v := (⟨vs, ds⟩ : Act).eval x) (w' := w) (by unfold execOp; rw [ho]; rfl) (.of_val (ev_ok hT hx))
  · rename_i c a b ho
    obtain ⟨y', hx, rfl⟩ := val_some h
    simp only [Option.bind_eq_some_iff] at hx
    obtain ⟨cb, ⟨ca, h1, h2⟩, h3⟩ := hx
    have hc := asB_ok (ev_ok (ds := ds) hT h1) h2
    exact .of_run (w' := w) (by unfold execOp; rw [ho]; simp only [hc, asBool, Sem.run_bind, Sem.run_pure, Result.andThen_ok]; rfl) (.of_val (pick_ok hT h3))
  · rename_i t ho
    simp only [Option.map_eq_some_iff] at h
    obtain ⟨z, hz, rfl⟩ := h
    obtain ⟨v, hv, rfl, _⟩ := run_zero hz w
    have hid := hf id _ (by simp [look]; rfl)
    refine .of_run (v := .pointer (some ⟨w.heap.size, 0, none⟩)) (w' := { w with heap := w.heap.push (.cells v.cells t) }) (by unfold execOp; rw [ho]; exact exec_v (by simp [Instr.alloc, hv, run_newVar])) ?_
    have hcs : ∃ us : List Value, v.cells = us.toArray ∧ PW (VR σ w) (cellsAV (.p (valPV v))) us := by
      cases v with
      | agg cs =>
        refine ⟨cs.toList, by simp [Value.cells], by simp [valPV, cellsAV], fun j a u ha hu => ?_⟩
        simp only [valPV, cellsAV, List.map_map, List.getElem?_map, hu] at ha
        simp at ha; subst ha; exact VR.lit _ _ _
      | _ => exact ⟨[_], rfl, rfl, fun j a u ha hu => by
          cases j with
          | zero => simp [valPV, cellsAV] at ha hu; subst ha; subst hu; exact VR.lit _ _ _
          | succ j => simp [valPV, cellsAV] at ha⟩
    obtain ⟨us, h1, h2⟩ := hcs
    rw [h1]
    simp only [alloced]
    split
    · rename_i hz2
      rw [hz2] at h2
      split
      · have hul : us.length = 2 := h2.len
        refine new_vars' hid hul (fun j a u ha hu => ?_) fun b k hk => (hH.blk b k hk).2.1
        match j with
        | 0 =>
          simp at ha; subst ha
          have := h2.at_ 0 _ u rfl hu
          exact .inr ⟨rfl, this.litEq, hul⟩
        | 1 => exact .inl (h2.at_ 1 a u (by simpa [cellsAV] using ha) hu)
        | j + 2 => simp at ha
      · exact new_vars hid h2.len h2.at_ fun b k hk => (hH.blk b k hk).2.1
    · exact new_vars hid h2.len h2.at_ fun b k hk => (hH.blk b k hk).2.1
  · rename_i t x ho
    simp only [Option.bind_eq_some_iff] at h
    obtain ⟨a, ha, h⟩ := h
    split at h
    · rename_i hc
      cases h
      have hid := hf id _ (by simp [look]; rfl)
      obtain ⟨us, h1, h2⟩ := (ev_ok (ds := ds) hT ha).cellsPW hc
      refine .of_run (v := .pointer (some ⟨w.heap.size, 0, none⟩)) (w' := { w with heap := w.heap.push (.cells us.toArray t) }) (by unfold execOp; rw [ho]; exact exec_v (by simp [Instr.box, run_newVar, h1])) ?_
      exact new_vars hid h2.len (fun j a u ha hu => (h2.at_ j a u ha hu).1) fun b k hk => (hH.blk b k hk).2.1
    · cases h
  · rename_i t ps ho
    obtain ⟨y', hx, rfl⟩ := val_some h
    simp only [Option.bind_eq_some_iff] at hx
    obtain ⟨qs, h1, h2⟩ := hx
    have h3 := evParts_ok (ds := ds) hT h1
    obtain ⟨u, h4, h5⟩ := build_ok (qs := ps.map fun p => (p.1, (⟨vs, ds⟩ : Act).eval p.2)) (by simpa using h3) h2
    exact .of_run (by unfold execOp; rw [ho]; exact exec_v h4) (.of_val h5)
  · rename_i t n ps ho
    simp only [Option.bind_eq_some_iff] at h
    obtain ⟨qs, h1, h2⟩ := h
    have h3 := evParts_ok (ds := ds) hT h1
    obtain ⟨u, w', h4, h5⟩ := buildSlice_ok hH (qs := ps.map fun p => (p.1, (⟨vs, ds⟩ : Act).eval p.2)) (by simpa using h3) h2 hf
    exact .of_run (by unfold execOp; rw [ho]; exact exec_v h4) h5
  · rename_i t a ho
    obtain ⟨y', hx, rfl⟩ := val_some h
    simp only [Option.bind_eq_some_iff] at hx
    obtain ⟨av, h1, h2⟩ := hx
    obtain ⟨u, h3, h4⟩ := load_ok hH (ev_ok (ds := ds) hT h1) h2
    exact .of_run (by unfold execOp; rw [ho]; exact exec_v h3) (.of_val h4)
  · rename_i x ho
    obtain ⟨y', hx, rfl⟩ := val_some h
    simp only [Option.bind_eq_some_iff] at hx
    obtain ⟨av, h1, h2⟩ := hx
    have h3 := ev_ok (ds := ds) hT h1
    split at h2
    · cases h2
      cases h4 : (⟨vs, ds⟩ : Act).eval x <;> rw [h4] at h3 <;> cases h3
      exact .of_run (w' := w) (by unfold execOp; rw [ho]; simp only [h4]; rfl) (.of_val (.ptr _ _ _ _ _ ‹_› ‹_›))
    · cases h2
  · rename_i op t x z ty ho
    obtain ⟨y', hx, rfl⟩ := val_some h
    simp only [Option.bind_eq_some_iff] at hx
    obtain ⟨a, h1, b, h2, h3⟩ := hx
    obtain ⟨u, h4, h5⟩ := bin_ok (ev_ok (ds := ds) hT h1) (ev_ok (ds := ds) hT h2) h3
    exact .of_run (by unfold execOp; rw [ho]; exact exec_v h4) (.of_val h5)
  · rename_i op t x ho
    obtain ⟨y', hx, rfl⟩ := val_some h
    simp only [Option.bind_eq_some_iff] at hx
    obtain ⟨a, h1, h2⟩ := hx
    obtain ⟨u, h4, h5⟩ := un_ok (P := E.P) (ev_ok (ds := ds) hT h1) h2
    exact .of_run (by unfold execOp; rw [ho]; exact exec_v h4) (.of_val h5)
  · rename_i s d x ho
    obtain ⟨y', hx, rfl⟩ := val_some h
    simp only [Option.bind_eq_some_iff] at hx
    obtain ⟨a, h1, h2⟩ := hx
    have h3 := ev_ok (ds := ds) hT h1
    split at h2
    · rename_i hs hd
      cases h2
      refine .of_run (v := _) (w' := w) (by unfold execOp; rw [ho]; exact exec_v (by rw [h3.litEq]; simp only [Go.convert, Sem.run_bind, run_und hs, run_und hd, Result.andThen_ok]; rfl)) (.of_val (VR.lit _ _ _))
    · rename_i hs hd
      cases h2
      refine .of_run (v := _) (w' := w) (by unfold execOp; rw [ho]; exact exec_v (by rw [h3.litEq]; simp only [Go.convert, Sem.run_bind, run_und hs, run_und hd, Result.andThen_ok]; rfl)) (.of_val (VR.lit _ _ _))
    · rename_i e s' hs hd
      split at h2
      · rename_i hu
        cases h2
        rw [show (⟨vs, ds⟩ : Act).eval x = .string s' from h3.litEq] at h3
        exact .of_run (v := _) (w' := _) (by unfold execOp; rw [ho]; exact exec_v (by rw [show (⟨vs, ds⟩ : Act).eval x = .string s' from (ev_ok (ds := ds) hT h1).litEq]; exact run_bytes_of_string w _ _ e s' hs hd (isU8_some hu))) (bytes_new hH hb e s')
      · cases h2
    · cases h2
  · rename_i t x ho
    simp only [Option.bind_eq_some_iff] at h
    obtain ⟨a, h1, h2⟩ := h
    have h3 := ev_ok (ds := ds) hT h1
    split at h2
    · rename_i s hu
      cases h2
      have hid := hf id _ (by simp [look]; rfl)
      refine .of_run (v := .pointer (some ⟨w.heap.size, 0, none⟩)) (w' := { w with heap := w.heap.push (.stringIter s 0) }) (by unfold execOp; rw [ho]; exact exec_v (by rw [h3.litEq]; simp [Instr.range, run_und hu])) ?_
      have hv := VR.ptr (σ := setS (cutL σ []) id (some ⟨w.heap.size, 0, 0⟩)) (w := { w with heap := w.heap.push (.stringIter s 0) }) id 0 0 0 ⟨w.heap.size, 0, 0⟩ (setS_self _ _ _) rfl
      exact NewR.of_one (Grow.alloc w _) ⟨w.heap.size, 0, 0⟩ (Nat.le_refl _) (by simp) ⟨rfl, by simp⟩ (by simpa using hv)
    · cases h2
  · rename_i t x ho
    obtain ⟨y', hx, rfl⟩ := val_some h
    simp only [Option.bind_eq_some_iff] at hx
    obtain ⟨a, h1, h2⟩ := hx
    have h3 := ev_ok (ds := ds) hT h1
    split at h2
    · cases h2
    · rename_i d hd hu
      cases h2
      refine .of_run (v := .iface t ((⟨vs, ds⟩ : Act).eval x)) (w' := w) (by unfold execOp; rw [ho]; exact exec_v (by
        unfold Instr.makeInterface
        rw [Sem.run_bind, run_und hu]
        cases d <;> first | rfl | exact absurd rfl (hd _))) (.of_val (.iface _ _ _ h3))
    · cases h2
  · rename_i f first cap ho
    obtain ⟨y', hx, rfl⟩ := val_some h
    split at hx
    · rename_i hz
      simp only [Option.map_eq_some_iff] at hx
      obtain ⟨l, h1, rfl⟩ := hx
      have h2 := evs_pw (ds := ds) hT h1
      have h3 : first = #[] := Array.eq_empty_of_size_eq_zero hz
      refine .of_run (v := .func f #[] (cap.toList.map (⟨vs, ds⟩ : Act).eval).toArray) (w' := w) (by unfold execOp; rw [ho, h3]; exact exec_v (by
        have hc : cap.map (⟨vs, ds⟩ : Act).eval = (cap.toList.map (⟨vs, ds⟩ : Act).eval).toArray := by apply Array.ext'; simp
        rw [hc, Array.map_empty]; rfl)) (.of_val (.fn _ _ _ h2.len h2.at_))
    · cases hx
  · rename_i t l c ho
    simp only [Option.bind_eq_some_iff, Option.map_eq_some_iff] at h
    obtain ⟨lv, h1, cv, h2, x, h3, rfl⟩ := h
    obtain ⟨u, w', h4, h5⟩ := makeSlice_ok hH (ev_ok (ds := ds) hT h1) (ev_ok (ds := ds) hT h2) h3 hf
    exact .of_run (by unfold execOp; rw [ho]; exact exec_v h4) h5
  · rename_i t x lo hi mx ho
    obtain ⟨y', hx, rfl⟩ := val_some h
    simp only [Option.bind_eq_some_iff] at hx
    obtain ⟨a, h1, h2⟩ := hx
    obtain ⟨u, h4, h5⟩ := slice_ok (ds := ds) hT (ev_ok (ds := ds) hT h1) h2
    exact .of_run (by unfold execOp; rw [ho]; exact exec_v h4) (.of_val h5)
  · rename_i s x f ho
    obtain ⟨y', hx, rfl⟩ := val_some h
    simp only [Option.bind_eq_some_iff] at hx
    obtain ⟨a, h1, h2⟩ := hx
    obtain ⟨u, h4, h5⟩ := fieldAddr_ok (ev_ok (ds := ds) hT h1) h2
    exact .of_run (by unfold execOp; rw [ho]; exact exec_v h4) (.of_val h5)
  · rename_i s x f ho
    obtain ⟨y', hx, rfl⟩ := val_some h
    simp only [Option.bind_eq_some_iff] at hx
    obtain ⟨a, h1, h2⟩ := hx
    obtain ⟨u, h4, h5⟩ := field_ok (ev_ok (ds := ds) hT h1) h2
    exact .of_run (by unfold execOp; rw [ho]; exact exec_v h4) (.of_val h5)
  · rename_i t x i ho
    obtain ⟨y', hx, rfl⟩ := val_some h
    simp only [Option.bind_eq_some_iff] at hx
    obtain ⟨a, h1, b, h2, h3⟩ := hx
    obtain ⟨u, h4, h5⟩ := indexAddr_ok (ev_ok (ds := ds) hT h1) (ev_ok (ds := ds) hT h2) h3
    exact .of_run (by unfold execOp; rw [ho]; exact exec_v h4) (.of_val h5)
  · rename_i t x i ho
    obtain ⟨y', hx, rfl⟩ := val_some h
    simp only [Option.bind_eq_some_iff] at hx
    obtain ⟨a, h1, b, h2, h3⟩ := hx
    obtain ⟨u, h4, h5⟩ := index_ok (ev_ok (ds := ds) hT h1) (ev_ok (ds := ds) hT h2) h3
    exact .of_run (by unfold execOp; rw [ho]; exact exec_v h4) (.of_val h5)
  · rename_i t i ho
    obtain ⟨y', hx, rfl⟩ := val_some h
    simp only [Option.bind_eq_some_iff] at hx
    obtain ⟨a, h1, h2⟩ := hx
    have h3 := ev_ok (ds := ds) hT h1
    split at h2
    · rename_i l
      cases h4 : (⟨vs, ds⟩ : Act).eval t with
      | tuple us =>
        rw [h4] at h3
        cases h3 with
        | tup _ us hl hv =>
          have hlt : i < us.length := by rw [hl]; exact (List.getElem?_eq_some_iff.1 h2).1
          have hu : us[i]? = some us[i] := List.getElem?_eq_getElem hlt
          exact .of_run (v := us[i]) (w' := w) (by unfold execOp; rw [ho]; exact exec_v (by simp [h4, Instr.extract, hlt])) (.of_val (hv i _ _ h2 hu))
      | _ => rw [h4] at h3; cases h3
    · cases h2
  · rename_i t ho
    simp only [Option.map_eq_some_iff] at h
    obtain ⟨m, hm, rfl⟩ := h
    have hid := hf id _ (by simp [look]; rfl)
    refine .of_run (v := .map (some w.heap.size)) (w' := { w with heap := w.heap.push (.map #[] 0) }) (by unfold execOp; rw [ho]; exact exec_v (by simp [Instr.makeMap, newObj, Sem.run])) ?_
    have hv := VR.mp (σ := setS (cutL σ []) id (some ⟨w.heap.size, 0, 0⟩)) (w := { w with heap := w.heap.push (.map #[] 0) }) id ⟨w.heap.size, 0, 0⟩ (setS_self _ _ _)
    exact NewR.of_one (Grow.alloc w _) ⟨w.heap.size, 0, 0⟩ (Nat.le_refl _) (by simp) ⟨rfl, ⟨#[], 0, by simp, by simp, by simp⟩⟩ hv
  · rename_i t x i ok ho
    obtain ⟨y', hx, rfl⟩ := val_some h
    simp only [Option.bind_eq_some_iff] at hx
    obtain ⟨a, h1, b, h2, h3⟩ := hx
    have hva := ev_ok (ds := ds) hT h1
    have hvb := ev_ok (ds := ds) hT h2
    obtain ⟨u, h4, h5⟩ := lookupM_ok hH hva hvb h3
    exact .of_run (by unfold execOp; rw [ho]; exact exec_v h4) (.of_val h5)
  · rename_i c ho
    simp only [Option.bind_eq_some_iff] at h
    obtain ⟨args, h1, h⟩ := h
    have h2 := evs_pw (ds := ds) hT h1
    split at h
    · rename_i hcal
      obtain ⟨y', hx, rfl⟩ := val_some h
      split at hx
      · rename_i t x ht
        simp only [Option.map_eq_some_iff] at hx
        obtain ⟨n, hn, rfl⟩ := hx
        obtain ⟨v, hv⟩ : ∃ v, c.args.toList.map (⟨vs, ds⟩ : Act).eval = [v] := by
          have := h2.len
          match hm : c.args.toList.map (⟨vs, ds⟩ : Act).eval, this with
          | [v], _ => exact ⟨v, rfl⟩
          | [], h => simp at h
          | _ :: _ :: _, h => simp at h
        have hvr := h2.at_ 0 x v rfl (by rw [hv]; rfl)
        have harr : c.args.map (⟨vs, ds⟩ : Act).eval = #[v] := by
          apply Array.ext'; simpa using hv
        refine .of_run (v := .int .i64 n) (w' := w) (by
          unfold execOp
          rw [ho]
          simp only [resolve, hcal, Sem.run_bind, Sem.run_pure, Result.andThen_ok, invoke, Go.builtin, harr, lenAV_ok ht hvr hn]) (.of_val (VR.lit _ _ _))
      · cases hx
    · rename_i hcal
      obtain ⟨y', hx, rfl⟩ := val_some h
      obtain ⟨v, h3, h4⟩ := minMax_ok (P := E.P) h2 hx c.argTypes o.type
      have harr : c.args.map (⟨vs, ds⟩ : Act).eval = (c.args.toList.map (⟨vs, ds⟩ : Act).eval).toArray := by apply Array.ext'; simp
      simp only [if_true] at h3
      exact .of_run (v := v) (w' := w) (by
          unfold execOp
          rw [ho]
          simp only [resolve, hcal, Sem.run_bind, Sem.run_pure, Result.andThen_ok, invoke, Go.builtin, harr, h3]) (.of_val h4)
    · rename_i hcal
      obtain ⟨y', hx, rfl⟩ := val_some h
      obtain ⟨v, h3, h4⟩ := minMax_ok (P := E.P) h2 hx c.argTypes o.type
      have harr : c.args.map (⟨vs, ds⟩ : Act).eval = (c.args.toList.map (⟨vs, ds⟩ : Act).eval).toArray := by apply Array.ext'; simp
      simp only [Bool.false_eq_true, if_false] at h3
      exact .of_run (v := v) (w' := w) (by
          unfold execOp
          rw [ho]
          simp only [resolve, hcal, Sem.run_bind, Sem.run_pure, Result.andThen_ok, invoke, Go.builtin, harr, h3]) (.of_val h4)
    · rename_i f hcal
      split at h
      · rename_i g hg
        obtain ⟨h3, h4⟩ := callPV_ok hcl hpr hH hb h2 h hf
        have h5 := ev_ok (ds := ds) hT hg
        have h6 : (⟨vs, ds⟩ : Act).eval f = .func (.func g) #[] #[] := by
          cases h7 : (⟨vs, ds⟩ : Act).eval f <;> rw [h7] at h5 <;> cases h5
          rename_i us hl _
          have : us = [] := List.eq_nil_of_length_eq_zero (by simpa using hl)
          subst this; rfl
        have harr : c.args.map (⟨vs, ds⟩ : Act).eval = (c.args.toList.map (⟨vs, ds⟩ : Act).eval).toArray := by apply Array.ext'; simp
        intro next Q hn
        unfold Oper.wp
        have : (execOp (⟨vs, ds⟩ : Act).eval o).run E.P w = .ok (.enter g (c.args.toList.map (⟨vs, ds⟩ : Act).eval).toArray) w := by
          unfold execOp
          rw [ho]
          simp only [resolve, hcal, h6, Deferred.ofValue, Sem.run_bind, Sem.run_pure, Result.andThen_ok, invoke, harr, Array.empty_append, Array.append_empty, run_callFunc h3]
        rw [this]
        refine Calls.mono h4 fun e w' hr => ?_
        cases e with
        | returned v => exact hn v w' hr
        | panicked c => exact hr.elim
        | outgrown => exact hr.elim
      · cases h
    · cases h
  · cases h
end Go.Proofs.YtalfnpdgajfkiaaDoor.Ax
