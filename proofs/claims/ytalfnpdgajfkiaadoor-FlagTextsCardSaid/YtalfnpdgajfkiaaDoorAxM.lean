/- 'Ax', maps of the call's own: keys and elements of scalars or flat structs; what a look-up and a store do. -/
import Derived.Test.YtalfnpdgajfkiaaDoorAx11
set_option linter.unusedVariables false
set_option linter.unusedSimpArgs false
namespace Go.Proofs.YtalfnpdgajfkiaaDoor.Ax
open Go

/-! ### Data that is told by itself -/
theorem okSk_lit {c : SK} {x : PV} (h : okSk c x = true) : ∃ v, x = .lit v := by
  unfold okSk at h
  split at h
  · exact ⟨_, rfl⟩
  · exact ⟨_, rfl⟩
  · exact ⟨_, rfl⟩
  · cases h
theorem okSk_valOf {c : SK} {x : PV} (h : okSk c x = true) : valOf x = valOfLit x := by
  obtain ⟨v, rfl⟩ := okSk_lit h; rfl
theorem okSks_len : ∀ {cs : List SK} {l : List PV}, okSks cs l = true → cs.length = l.length
  | [], [], _ => rfl
  | [], _ :: _, h => by simp [okSks] at h
  | _ :: _, [], h => by simp [okSks] at h
  | c :: r, x :: l, h => by
    simp only [okSks, Bool.and_eq_true] at h
    simp [okSks_len h.2]
theorem okSks_at : ∀ {cs : List SK} {l : List PV} {j : Nat} {x : PV}, okSks cs l = true → l[j]? = some x → ∃ v, x = .lit v
  | [], [], _, _, _, h => by simp at h
  | [], _ :: _, _, _, h, _ => by simp [okSks] at h
  | _ :: _, [], _, _, h, _ => by simp [okSks] at h
  | c :: r, y :: l, 0, x, h, hx => by
    simp only [okSks, Bool.and_eq_true] at h
    simp at hx; subst hx; exact okSk_lit h.1
  | c :: r, y :: l, j + 1, x, h, hx => by
    simp only [okSks, Bool.and_eq_true] at h
    exact okSks_at h.2 (by simpa using hx)
theorem okK_rd {ok : Nat → Prop} {w : World} {c : KT} {x : PV} (h : okK c x = true) : Rd ok w x (valOf x) := by
  unfold okK at h
  split at h
  · obtain ⟨v, rfl⟩ := okSk_lit h; exact .lit v
  · rename_i cs l
    refine .agg l (l.map valOfLit) (by simp) fun j a v ha hv => ?_
    obtain ⟨u, rfl⟩ := okSks_at h ha
    simp only [List.getElem?_map, ha, Option.map_some, Option.some.injEq] at hv
    subst hv; exact .lit u
  · cases h
theorem rd_okK {ok : Nat → Prop} {w : World} {c : KT} {x : PV} {v : Value} (h : okK c x = true) (hr : Rd ok w x v) : v = valOf x := by
  unfold okK at h
  split at h
  · obtain ⟨u, rfl⟩ := okSk_lit h; cases hr; rfl
  · rename_i cs l
    cases hr with
    | agg _ vs hl hrd =>
      show _ = Value.agg (l.map valOfLit).toArray
      congr 2
      refine List.ext_getElem? fun j => ?_
      by_cases hj : j < l.length
      · have h1 := List.getElem?_eq_getElem hj
        have h2 := List.getElem?_eq_getElem (show j < vs.length by omega)
        obtain ⟨u, hu⟩ := okSks_at h h1
        have h3 := hrd j _ _ h1 h2
        rw [hu] at h3; cases h3
        rw [h2, List.getElem?_map, h1, hu]; rfl
      · rw [List.getElem?_eq_none (by omega), List.getElem?_eq_none (by simp; omega)]
  · cases h
theorem canonSk_ok {c : SK} {x : PV} (h : okSk c x = true) : canonSk c x = x := by
  unfold okSk at h
  split at h
  · simp only [decide_eq_true_eq] at h; subst h; rfl
  · rfl
  · rfl
  · cases h
theorem canonSks_ok : ∀ {cs : List SK} {l : List PV}, okSks cs l = true → canonSks cs l = l
  | [], [], _ => rfl
  | [], _ :: _, h => by simp [okSks] at h
  | _ :: _, [], h => by simp [okSks] at h
  | c :: r, x :: l, h => by
    simp only [okSks, Bool.and_eq_true] at h
    simp [canonSks, canonSk_ok h.1, canonSks_ok h.2]
theorem canonK_ok {c : KT} {x : PV} (h : okK c x = true) : canonK c x = x := by
  unfold okK at h
  split at h
  · exact canonSk_ok h
  · simp [canonK, canonSks_ok h]
  · cases h
/-! ### Equality of keys -/
theorem bytes_lawful (a b : ByteArray) : (a == b) = true ↔ a = b := MapKept.bytes_beq a b
theorem eqS_eq {c : SK} {x y : PV} (hx : okSk c x = true) (hy : okSk c y = true) (h : eqS x y = true) : x = y := by
  obtain ⟨u, rfl⟩ := okSk_lit hx
  obtain ⟨v, rfl⟩ := okSk_lit hy
  cases c <;> cases u <;> simp [okSk] at hx <;> cases v <;> simp [okSk] at hy
  · subst hx; subst hy; simp [eqS] at h; rw [h]
  · simp [eqS] at h; rw [h]
  · simp only [eqS] at h; rw [(bytes_lawful _ _).1 h]
theorem eqSs_eq : ∀ {cs : List SK} {xs ys : List PV}, okSks cs xs = true → okSks cs ys = true → eqSs xs ys = true → xs = ys
  | [], [], [], _, _, _ => rfl
  | [], [], _ :: _, _, h, _ => by simp [okSks] at h
  | [], _ :: _, _, h, _, _ => by simp [okSks] at h
  | _ :: _, [], _, h, _, _ => by simp [okSks] at h
  | _ :: _, _ :: _, [], _, h, _ => by simp [okSks] at h
  | c :: r, x :: xs, y :: ys, hx, hy, h => by
    simp only [okSks, Bool.and_eq_true] at hx hy
    simp only [eqSs, Bool.and_eq_true] at h
    rw [eqS_eq hx.1 hy.1 h.1, eqSs_eq hx.2 hy.2 h.2]
theorem eqK_one {x y : PV} {c : SK} (hx : okSk c x = true) : eqK x y = eqS x y := by
  obtain ⟨u, rfl⟩ := okSk_lit hx; rfl
theorem eqK_eq {c : KT} {x y : PV} (hx : okK c x = true) (hy : okK c y = true) (h : eqK x y = true) : x = y := by
  cases c with
  | one c =>
    rw [eqK_one hx] at h
    exact eqS_eq hx hy h
  | many cs =>
    cases x <;> simp [okK] at hx
    cases y <;> simp [okK] at hy
    simp only [eqK] at h
    rw [eqSs_eq hx hy h]
theorem skT_eq {P : Program} {t : TypeId} {c : SK} (hc : skT P t = some c) {x y : PV} (hx : okSk c x = true) (hy : okSk c y = true) (d : Nat) : eqPV P (d + 1) t x y = some (eqS x y) := by
  obtain ⟨u, rfl⟩ := okSk_lit hx
  obtain ⟨v, rfl⟩ := okSk_lit hy
  unfold skT at hc
  split at hc
  · rename_i k hu
    cases hc
    cases u <;> simp [okSk] at hx
    cases v <;> simp [okSk] at hy
    subst hx; subst hy
    simp [eqPV, hu, eqS]
  · rename_i hu
    cases hc
    cases u <;> simp [okSk] at hx
    cases v <;> simp [okSk] at hy
    simp [eqPV, hu, eqS]
  · rename_i hu
    cases hc
    cases u <;> simp [okSk] at hx
    cases v <;> simp [okSk] at hy
    simp [eqPV, hu, eqS]
  · cases hc
theorem skT_agg {P : Program} {t : TypeId} {c : SK} (hc : skT P t = some c) : isAggT P t = some false := by
  unfold skT at hc
  unfold isAggT
  split at hc
  · rename_i h; rw [h]
  · rename_i h; rw [h]
  · rename_i h; rw [h]
  · cases hc
theorem kFields_eq {P : Program} (d : Nat) : ∀ {fs : List Field} {off : Nat} {cs : List SK} {xs ys : List PV}, kFields P off fs = some cs → okSks cs (xs.drop off) = true → okSks cs (ys.drop off) = true →
    eqFields (eqPV P (d + 1)) P fs xs ys = some (eqSs (xs.drop off) (ys.drop off))
  | [], off, cs, xs, ys, hc, hx, hy => by
    simp only [kFields, Option.some.injEq] at hc; subst hc
    have h1 := okSks_len hx
    have h2 : xs.drop off = [] := List.length_eq_zero_iff.1 h1.symm
    rw [h2]; rfl
  | fd :: r, off, cs, xs, ys, hc, hx, hy => by
    simp only [kFields] at hc
    split at hc
    · rename_i hn
      simp only [Option.bind_eq_some_iff, Option.map_eq_some_iff] at hc
      obtain ⟨c, h1, cs', h2, rfl⟩ := hc
      have hlx := okSks_len hx
      have hly := okSks_len hy
      simp only [List.length_cons, List.length_drop] at hlx hly
      have ex : xs.drop off = xs[off] :: xs.drop (off + 1) := List.drop_eq_getElem_cons (by omega)
      have ey : ys.drop off = ys[off]'(by omega) :: ys.drop (off + 1) := List.drop_eq_getElem_cons (by omega)
      rw [ex] at hx
      rw [ey] at hy
      simp only [okSks, Bool.and_eq_true] at hx hy
      have ih := kFields_eq d h2 hx.2 hy.2
      rw [ex, ey]
      simp only [eqFields, hn.1, ne_eq, not_false_eq_true, if_true, partPV, skT_agg h1, Option.bind_some, Bool.false_eq_true, if_false, hn.2,
        List.getElem?_eq_getElem (show off < xs.length by omega), List.getElem?_eq_getElem (show off < ys.length by omega), skT_eq h1 hx.1 hy.1 d, ih, Option.map_some, eqSs]
    · cases hc
theorem kTy_eq {P : Program} {t : TypeId} {c : KT} (hc : kTy P t = some c) {x y : PV} (hx : okK c x = true) (hy : okK c y = true) (d : Nat) : eqPV P (d + 2) t x y = some (eqK x y) := by
  unfold kTy at hc
  split at hc
  · rename_i fs hu
    split at hc
    · cases hc
    · rename_i hs
      simp only [Option.map_eq_some_iff] at hc
      obtain ⟨cs, h1, rfl⟩ := hc
      cases x <;> simp [okK] at hx
      cases y <;> simp [okK] at hy
      rename_i xs ys
      have := kFields_eq (P := P) d h1 (xs := xs) (ys := ys) (by simpa using hx) (by simpa using hy)
      unfold eqPV
      simp only [hu, hs, Bool.false_eq_true, if_false]
      simpa [eqK] using this
  · simp only [Option.map_eq_some_iff] at hc
    obtain ⟨c', h1, rfl⟩ := hc
    rw [eqK_one hx]
    exact skT_eq h1 hx hy (d + 1)
theorem run_key_eq {P : Program} {t : TypeId} {c : KT} (hc : kTy P t = some c) {x y : PV} (hx : okK c x = true) (hy : okK c y = true) (w : World) : (Op.equal t (valOf x) (valOf y)).run P w = .ok (eqK x y) w := by
  have := eqPV_ok (P := P) (ok := fun _ => True) (w := w) 100 9900 t x y _ (kTy_eq hc hx hy 98) (valOf x) (valOf y) (okK_rd hx) (okK_rd hy)
  rw [equal_succ]
  exact this
/-! ### A key is looked at -/
theorem run_checkSk {P : Program} {t : TypeId} {c : SK} (hc : skT P t = some c) {x : PV} (hx : okSk c x = true) (em : Bool) (n : Nat) (w : World) : (Instr.checkKey em (n + 1) t (valOf x)).run P w = .ok () w := by
  rw [okSk_valOf hx]
  obtain ⟨u, rfl⟩ := okSk_lit hx
  unfold skT at hc
  split at hc
  · rename_i hu; cases hc; cases u <;> simp [okSk] at hx
    simp [Instr.checkKey, run_und hu, valOfLit]
  · rename_i hu; cases hc; cases u <;> simp [okSk] at hx
    simp [Instr.checkKey, run_und hu, valOfLit]
  · rename_i hu; cases hc; cases u <;> simp [okSk] at hx
    simp [Instr.checkKey, run_und hu, valOfLit]
  · cases hc
theorem run_checkK {P : Program} {t : TypeId} {c : KT} (hc : kTy P t = some c) {x : PV} (hx : okK c x = true) (em : Bool) (w : World) : (Instr.checkKey em 10000 t (valOf x)).run P w = .ok () w := by
  unfold kTy at hc
  split at hc
  · rename_i fs hu
    split at hc
    · cases hc
    · rename_i hs
      simp only [Option.map_eq_some_iff] at hc
      obtain ⟨cs, h1, rfl⟩ := hc
      cases x <;> simp [okK] at hx
      rename_i xs
      show (Instr.checkKey em (9998 + 1 + 1) t (.agg (xs.map valOfLit).toArray)).run P w = _
      rw [Instr.checkKey]
      simp only [Sem.run_bind, run_und hu, Result.andThen_ok]
      rw [← Array.forIn_toList]
      have e0 : okSks cs (xs.drop 0) = true := by simpa using hx
      generalize fs.toList = L at h1 ⊢
      generalize 0 = off at h1 e0
      clear hx hu
      induction L generalizing off cs with
      | nil => simp
      | cons fd r ih =>
        simp only [kFields] at h1
        split at h1
        · rename_i hn
          simp only [Option.bind_eq_some_iff, Option.map_eq_some_iff] at h1
          obtain ⟨c, g1, cs', g2, rfl⟩ := h1
          have hlx := okSks_len e0
          simp only [List.length_cons, List.length_drop] at hlx
          have ex : xs.drop off = xs[off] :: xs.drop (off + 1) := List.drop_eq_getElem_cons (by omega)
          rw [ex] at e0
          simp only [okSks, Bool.and_eq_true] at e0
          have hp : (part fd.type (xs.map valOfLit).toArray fd.offset).run P w = .ok (valOf xs[off]) w := by
            simp [part, run_agg (skT_agg g1), hn.2, List.getElem?_eq_getElem (show off < xs.length by omega), okSk_valOf e0.1]
          have hk := run_checkSk g1 e0.1 em 9998 w
          simp only [List.forIn_cons, Sem.run_bind, hn.1, ne_eq, not_false_eq_true, if_true, Result.andThen_ok, hp, hk, Sem.run_pure]
          exact ih _ (off + 1) g2 e0.2
        · cases h1
  · simp only [Option.map_eq_some_iff] at hc
    obtain ⟨c', h1, rfl⟩ := hc
    exact run_checkSk h1 hx em 9999 w
/-! ### A key is looked for -/
def midx (k : PV) : List (PV × PV) → Nat → Option (Nat × PV)
  | [], _ => none
  | (a, v) :: r, i => bif eqK k a then some (i, v) else midx k r (i + 1)
theorem mfind_midx (k : PV) : ∀ (l : List (PV × PV)) (i : Nat), mfind k l = (midx k l i).map (·.2)
  | [], i => rfl
  | (a, v) :: r, i => by
    simp only [mfind, midx]
    cases eqK k a with
    | true => rfl
    | false => exact mfind_midx k r (i + 1)
theorem run_findAsking {P : Program} {t : TypeId} {c : KT} (hc : kTy P t = some c) {k : PV} (hk : okK c k = true) (w : World) : ∀ (es : List MapEntry) (l : List (PV × PV)) (i : Nat), es.map (fun e => (e.key, e.val)) = l.map (fun x => (valOf x.1, valOf x.2)) →
    (∀ x, x ∈ l → okK c x.1 = true) → (Instr.findAsking t (valOf k) es i).run P w = .ok ((midx k l i).map fun r => (r.1, valOf r.2)) w
  | [], [], i, _, _ => by simp [Instr.findAsking, midx]
  | [], _ :: _, i, h, _ => by simp at h
  | _ :: _, [], i, h, _ => by simp at h
  | e :: es, (a, v) :: l, i, h, hl => by
    simp only [List.map_cons, List.cons.injEq, Prod.mk.injEq] at h
    obtain ⟨⟨h1, h2⟩, h3⟩ := h
    have ha := hl (a, v) (by simp)
    have ih := run_findAsking hc hk w es l (i + 1) h3 fun x hx => hl x (by simp [hx])
    simp only [Instr.findAsking, Sem.run_bind, h1, run_key_eq hc hk ha, Result.andThen_ok, midx]
    cases eqK k a with
    | true => simp [h2]
    | false => simpa using ih
theorem findNow_sk {d : TypeDesc} {c : SK} (hd : (d = .bool ∧ c = .bool) ∨ (d = .string ∧ c = .str) ∨ ∃ q, d = .int q ∧ c = .int q) {k : PV} (hk : okSk c k = true) : ∀ (es : List MapEntry) (l : List (PV × PV)) (i : Nat), es.map (fun e => (e.key, e.val)) = l.map (fun x => (valOf x.1, valOf x.2)) →
    (∀ x, x ∈ l → okSk c x.1 = true) → Instr.findNow d (valOf k) es i = some ((midx k l i).map fun r => (r.1, valOf r.2))
  | [], [], i, _, _ => by simp [Instr.findNow, midx]
  | [], _ :: _, i, h, _ => by simp at h
  | _ :: _, [], i, h, _ => by simp at h
  | e :: es, (a, v) :: l, i, h, hl => by
    simp only [List.map_cons, List.cons.injEq, Prod.mk.injEq] at h
    obtain ⟨⟨h1, h2⟩, h3⟩ := h
    have ha := hl (a, v) (by simp)
    have ih := findNow_sk hd hk es l (i + 1) h3 fun x hx => hl x (by simp [hx])
    have hs : Instr.sameNow d (valOf k) (valOf a) = some (eqK k a) := by
      rw [eqK_one hk, okSk_valOf hk, okSk_valOf ha]
      obtain ⟨u, rfl⟩ := okSk_lit hk
      obtain ⟨z, rfl⟩ := okSk_lit ha
      rcases hd with ⟨rfl, rfl⟩ | ⟨rfl, rfl⟩ | ⟨q, rfl, rfl⟩ <;> cases u <;> simp [okSk] at hk <;> cases z <;> simp [okSk] at ha <;> simp_all [valOfLit, Instr.sameNow, eqS]
    simp only [Instr.findNow, h1, hs, midx]
    cases eqK k a with
    | true => simp [h2]
    | false => simpa using ih
theorem run_findK {P : Program} {t : TypeId} {c : KT} (hc : kTy P t = some c) {k : PV} (hk : okK c k = true) (w : World) (es : List MapEntry) (l : List (PV × PV)) (h : es.map (fun e => (e.key, e.val)) = l.map (fun x => (valOf x.1, valOf x.2)))
    (hl : ∀ x, x ∈ l → okK c x.1 = true) : (Instr.findKey t (valOf k) es).run P w = .ok ((midx k l 0).map fun r => (r.1, valOf r.2)) w := by
  have hask := run_findAsking hc hk w es l 0 h hl
  unfold kTy at hc
  split at hc
  · rename_i fs hu
    split at hc
    · cases hc
    · simp only [Option.map_eq_some_iff] at hc
      obtain ⟨cs, h1, rfl⟩ := hc
      unfold Instr.findKey
      rw [Sem.run_bind, run_und hu, Result.andThen_ok]
      cases es with
      | nil =>
        cases l with
        | nil => simp [Instr.findNow, midx]
        | cons x l => simp at h
      | cons e es =>
        have : Instr.findNow (.struct fs) (valOf k) (e :: es) 0 = none := by simp [Instr.findNow, Instr.sameNow]
        rw [this]
        exact hask
  · simp only [Option.map_eq_some_iff] at hc
    obtain ⟨c', h1, rfl⟩ := hc
    unfold skT at h1
    split at h1
    · rename_i q hu
      cases h1
      unfold Instr.findKey
      rw [Sem.run_bind, run_und hu, Result.andThen_ok, findNow_sk (.inr (.inr ⟨q, rfl, rfl⟩)) hk es l 0 h hl]; rfl
    · rename_i hu
      cases h1
      unfold Instr.findKey
      rw [Sem.run_bind, run_und hu, Result.andThen_ok, findNow_sk (.inl ⟨rfl, rfl⟩) hk es l 0 h hl]; rfl
    · rename_i hu
      cases h1
      unfold Instr.findKey
      rw [Sem.run_bind, run_und hu, Result.andThen_ok, findNow_sk (.inr (.inl ⟨rfl, rfl⟩)) hk es l 0 h hl]; rfl
    · cases h1
/-! ### The operations -/
theorem mapT_some {P : Program} {t : TypeId} {m : KT × KT × PV} (h : mapT P t = some m) : ∃ k e, P.underlying t = some (.map k e) ∧ kTy P k = some m.1 ∧ kTy P e = some m.2.1 ∧ zeroT P e = some m.2.2 ∧ okK m.2.1 m.2.2 = true := by
  unfold mapT at h
  split at h
  · rename_i k e hu
    simp only [Option.bind_eq_some_iff] at h
    obtain ⟨a, h1, b, h2, z, h3, h4⟩ := h
    split at h4
    · cases h4; exact ⟨k, e, hu, h1, h2, h3, by assumption⟩
    · cases h4
  · cases h
theorem valPV_valOf {P : Program} {t : TypeId} {z : PV} {c : KT} (hz : zeroT P t = some z) (hk : okK c z = true) (w : World) : (zeroValue t).run P w = .ok (valOf z) w := by
  obtain ⟨v, hv, rfl, _⟩ := run_zero hz w
  rw [hv]
  have : Rd (fun _ => True) w (valPV v) v := by
    cases v with
    | agg cs =>
      have := Rd.agg (ok := fun _ => True) (w := w) (cs.toList.map PV.lit) cs.toList (by simp) fun j a v ha hv => by
        simp only [List.getElem?_map, hv, Option.map_some, Option.some.injEq] at ha
        subst ha; exact .lit v
      simpa [valPV] using this
    | _ => exact .lit _
  rw [← rd_okK hk this]
theorem mem_mfind {k v : PV} : ∀ {l : List (PV × PV)}, mfind k l = some v → ∃ a, (a, v) ∈ l
  | [], h => by simp [mfind] at h
  | (a, x) :: r, h => by
    simp only [mfind] at h
    cases hq : eqK k a with
    | true => rw [hq, cond_true] at h; cases h; exact ⟨a, by simp⟩
    | false =>
      rw [hq, cond_false] at h
      obtain ⟨b, hb⟩ := mem_mfind h
      exact ⟨b, by simp [hb]⟩
/-- What a look-up gives. -/
def outM (ok : Bool) (v : PV) (b : Bool) : Value := if ok then .tuple #[valOf v, .bool b] else valOf v
theorem run_lookupM {P : Program} {t : TypeId} {m : KT × KT × PV} (hm : mapT P t = some m) {k : PV} (hk : okK m.1 k = true) {w : World} {r : Nat} {l : List (PV × PV)} (hb : MapBlk (w.heap[r]?) m.1 m.2.1 l) (ok : Bool) :
    (Instr.lookup t (.map (some r)) (valOf k) ok).run P w = .ok (outM ok ((mfind k l).getD m.2.2) (mfind k l).isSome) w ∧ okK m.2.1 ((mfind k l).getD m.2.2) = true := by
  obtain ⟨kt, et, hu, h1, h2, h3, h4⟩ := mapT_some hm
  obtain ⟨es, clock, g1, g2, g3⟩ := hb.ex
  have hobj : (getObj r).run P w = .ok (.map es clock) w := by simp [getObj, Sem.run, g1]
  have hfind := run_findK h1 hk w es.toList l g2 fun x hx => (g3 x hx).1
  have hchk := run_checkK h1 hk es.isEmpty w
  have hz := valPV_valOf h3 h4 w
  have hmf := mfind_midx k l 0
  constructor
  · unfold Instr.lookup
    simp only [Sem.run_bind, run_und hu, Result.andThen_ok, hobj, Sem.run_pure, hchk, hfind]
    cases hi : midx k l 0 with
    | none =>
      rw [hi] at hmf
      simp only [hmf, Option.map_none, Sem.run_bind, hz, Result.andThen_ok, Sem.run_pure, outM, Option.getD_none, Option.isSome_none]
    | some p =>
      rw [hi] at hmf
      simp only [hmf, Option.map_some, Sem.run_bind, Sem.run_pure, Result.andThen_ok, outM, Option.getD_some, Option.isSome_some]
  · cases hq : mfind k l with
    | none => exact h4
    | some v =>
      obtain ⟨a, ha⟩ := mem_mfind hq
      exact (g3 _ ha).2
theorem run_lookupNil {P : Program} {t : TypeId} {m : KT × KT × PV} (hm : mapT P t = some m) {k : PV} (hk : okK m.1 k = true) (w : World) (ok : Bool) :
    (Instr.lookup t (.map none) (valOf k) ok).run P w = .ok (outM ok m.2.2 false) w := by
  obtain ⟨kt, et, hu, h1, h2, h3, h4⟩ := mapT_some hm
  have hfind := run_findK h1 hk w [] [] rfl (by simp)
  have hchk := run_checkK h1 hk true w
  have hz := valPV_valOf h3 h4 w
  unfold Instr.lookup
  simp only [Sem.run_bind, run_und hu, Result.andThen_ok, Sem.run_pure, Array.isEmpty_empty, hchk, Array.toList_empty, hfind, midx, Option.map_none, hz, outM]
theorem sameBits_lit {c : SK} {x : PV} (h : okSk c x = true) (n : Nat) : Instr.sameBits n (valOfLit x) (valOfLit x) = true := by
  obtain ⟨u, rfl⟩ := okSk_lit h
  cases c <;> cases u <;> simp [okSk] at h <;> cases n <;> simp [valOfLit, Instr.sameBits, (bytes_lawful _ _).2]
theorem sameBits_K {c : KT} {x : PV} (h : okK c x = true) (n : Nat) : Instr.sameBits (n + 1) (valOf x) (valOf x) = true := by
  unfold okK at h
  split at h
  · rw [okSk_valOf h]; exact sameBits_lit h _
  · rename_i cs l
    simp only [valOf, Instr.sameBits, beq_self_eq_true, Bool.true_and, List.all_eq_true]
    have key : ∀ (cs : List SK) (l : List PV), okSks cs l = true → ∀ p, p ∈ (l.map valOfLit).zip (l.map valOfLit) → Instr.sameBits n p.1 p.2 = true := by
      intro cs l
      induction l generalizing cs with
      | nil => intro _ p hp; simp at hp
      | cons x l ih =>
        intro h p hp
        cases cs with
        | nil => simp [okSks] at h
        | cons c cs =>
          simp only [okSks, Bool.and_eq_true] at h
          simp only [List.map_cons, List.zip_cons_cons, List.mem_cons] at hp
          rcases hp with rfl | hp
          · exact sameBits_lit h.1 n
          · exact ih cs h.2 p hp
    exact key cs l h
  · cases h
theorem midx_mput (k v : PV) : ∀ (l : List (PV × PV)) (i : Nat), (midx k l i = none ∧ mput k v l = l ++ [(k, v)]) ∨ ∃ (n : Nat) (a x : PV), midx k l i = some (i + n, x) ∧ l[n]? = some (a, x) ∧ eqK k a = true ∧ mput k v l = l.set n (k, v)
  | [], i => .inl ⟨rfl, rfl⟩
  | (a, x) :: r, i => by
    simp only [midx, mput]
    cases hq : eqK k a with
    | true => exact .inr ⟨0, a, x, rfl, rfl, hq, rfl⟩
    | false =>
      rcases midx_mput k v r (i + 1) with ⟨h1, h2⟩ | ⟨n, b, y, h1, h2, h3, h4⟩
      · exact .inl ⟨h1, by simp [h2]⟩
      · exact .inr ⟨n + 1, b, y, by rw [cond_false, h1]; simp; omega, by simpa using h2, h3, by simp [h4]⟩
theorem run_updateM {P : Program} {t : TypeId} {m : KT × KT × PV} (hm : mapT P t = some m) {k v : PV} (hk : okK m.1 k = true) (hv : okK m.2.1 v = true) {w : World} {r : Nat} {l : List (PV × PV)} (hb : MapBlk (w.heap[r]?) m.1 m.2.1 l) :
    ∃ o : Obj, (Instr.mapUpdate t (.map (some r)) (valOf k) (valOf v)).run P w = .ok () { w with heap := w.heap.setIfInBounds r o } ∧ MapBlk (some o) m.1 m.2.1 (mput k v l) ∧ ∀ cs e fz, w.heap[r]? ≠ some (.cells cs e fz) := by
  obtain ⟨kt, et, hu, h1, h2, h3, h4⟩ := mapT_some hm
  obtain ⟨es, clock, g1, g2, g3⟩ := hb.ex
  have hobj : (getObj r).run P w = .ok (.map es clock) w := by simp [getObj, Sem.run, g1]
  have hset : ∀ o, (setObj r o).run P w = .ok () { w with heap := w.heap.setIfInBounds r o } := fun o => by simp [setObj, Sem.run, g1]
  have hfind := run_findK h1 hk w es.toList l g2 fun x hx => (g3 x hx).1
  have hchk := run_checkK h1 hk false w
  have hno : ∀ cs e fz, w.heap[r]? ≠ some (.cells cs e fz) := by intro cs e fz; rw [g1]; simp
  have hlen : es.size = l.length := by have := congrArg List.length g2; simpa using this
  rcases midx_mput k v l 0 with ⟨e1, e2⟩ | ⟨n, a, x, e1, e2, e3, e4⟩
  · refine ⟨.map (es.push { key := valOf k, val := valOf v, born := clock }) (clock + 1), ?_, ⟨_, _, rfl, ?_, ?_⟩, hno⟩
    · unfold Instr.mapUpdate
      simp only [Sem.run_bind, run_und hu, Result.andThen_ok, hobj, hchk, hfind, e1, Option.map_none, hset]
    · rw [e2]; simp [g2]
    · rw [e2]; intro y hy
      simp only [List.mem_append, List.mem_singleton] at hy
      rcases hy with hy | rfl
      · exact g3 y hy
      · exact ⟨hk, hv⟩
  · have hn : n < l.length := (List.getElem?_eq_some_iff.1 e2).1
    have ha := g3 (a, x) (List.mem_of_getElem? e2)
    have hak : k = a := eqK_eq hk ha.1 e3
    have hen : ∃ en : MapEntry, es[n]? = some en ∧ en.key = valOf k := by
      have h5 : (es.toList.map fun e => (e.key, e.val))[n]? = some (valOf a, valOf x) := by rw [g2]; simp [e2]
      simp only [List.getElem?_map, Option.map_eq_some_iff, Prod.mk.injEq] at h5
      obtain ⟨en, h6, h7, _⟩ := h5
      exact ⟨en, by simpa using h6, by rw [h7, hak]⟩
    obtain ⟨en, hen1, hen2⟩ := hen
    have hkts : (Instr.keyThatStays (((es[0 + n]?).map (·.key)).getD (valOf k)) (valOf k)).run P w = .ok (valOf k) w := by
      unfold Instr.keyThatStays
      rw [Nat.zero_add, hen1, Option.map_some, Option.getD_some, hen2, sameBits_K hk 9999]
      simp
    refine ⟨.map (es.modify (0 + n) fun e => { e with key := valOf k, val := valOf v }) clock, ?_, ⟨_, _, rfl, ?_, ?_⟩, hno⟩
    · unfold Instr.mapUpdate
      simp only [Sem.run_bind, run_und hu, Result.andThen_ok, hobj, hchk, hfind, e1, Option.map_some, hkts, hset]
    · rw [e4]
      refine List.ext_getElem? fun j => ?_
      have h5 : ∀ j : Nat, (es.toList[j]?).map (fun e => (e.key, e.val)) = (l[j]?).map (fun x => (valOf x.1, valOf x.2)) := fun j => by have := congrArg (·[j]?) g2; simpa using this
      simp only [List.getElem?_map, Array.getElem?_toList, Array.getElem?_modify, Nat.zero_add, List.getElem?_set]
      by_cases hj : n = j
      · subst hj
        simp [hen1, hn]
      · simpa [hj] using h5 j
    · rw [e4]; intro y hy
      rcases List.mem_or_eq_of_mem_set hy with hy | rfl
      · exact g3 y hy
      · exact ⟨hk, hv⟩
end Go.Proofs.YtalfnpdgajfkiaaDoor.Ax
