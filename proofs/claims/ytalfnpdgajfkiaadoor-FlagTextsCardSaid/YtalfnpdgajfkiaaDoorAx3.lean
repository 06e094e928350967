/- 'Ax', part 3: loops' heads: rows that may grow get numbers of their own. -/
import Derived.Test.YtalfnpdgajfkiaaDoorAx2
set_option linter.unusedVariables false
set_option linter.unusedSimpArgs false
namespace Go.Proofs.YtalfnpdgajfkiaaDoor.Ax
open Go

theorem HR.none_of {T : World → Prop} {base : Bs T} {σ : Sg} {w : World} {hp : HP} (h : HR base σ w hp) {b : Nat} (hn : look hp b = none) : σ b = none := by
  cases hs : σ b with
  | none => rfl
  | some r =>
    cases r with
    | none => obtain ⟨sz, h1⟩ := h.nil b hs; rw [hn] at h1; cases h1
    | some k => obtain ⟨_, _, x, h1, _⟩ := h.blk b k hs; rw [hn] at h1; cases h1
def setS (σ : Sg) (b : Nat) (r : Option Bk) : Sg := ⟨fun x => if x = b then some r else σ x, σ.G⟩
theorem setS_at (σ : Sg) (b : Nat) (r : Option Bk) (x : Nat) : setS σ b r x = if x = b then some r else σ x := rfl
theorem setS_self (σ : Sg) (b : Nat) (r : Option Bk) : setS σ b r b = some r := by rw [setS_at, if_pos rfl]
theorem setS_ne {σ : Sg} {b x : Nat} {r : Option Bk} (h : x ≠ b) : setS σ b r x = σ x := by rw [setS_at, if_neg h]

/-- A nil row more. -/
theorem Rel.addNil {T : World → Prop} {base : Bs T} {ups : List (Array Value)} {σ : Sg} {st : St} {vs : Array Value} {w : World} (h : Rel base ups σ st vs w) (id sz : Nat) (hn : look st.hp id = none) :
    Rel base ups (setS σ id none) ⟨st.tm, st.up, (id, .row sz []) :: st.hp⟩ vs w ∧ ∀ k, okS σ k → okS (setS σ id none) k := by
  have hσ := h.hp.none_of hn
  have hok : ∀ k, okS σ k → okS (setS σ id none) k := fun k hk => ⟨hk.1, fun x t hx => by
    by_cases hxi : x = id
    · subst hxi; rw [setS_self] at hx; cases hx
    · rw [setS_ne hxi] at hx; exact hk.2 x t hx⟩
  have hov : ∀ x r, σ x = some r → setS σ id none x = some r := fun x r hx => by
    rw [setS_ne (fun e : x = id => by rw [e, hσ] at hx; cases hx)]; exact hx
  have ht : ∀ tm vs, TR σ w tm vs → TR (setS σ id none) w tm vs := fun tm vs ht => ht.ext (Ext.refl _ _) (fun k _ => hok k) fun s a ha => .inr ⟨ha, fun b _ r hr => hov b r hr⟩
  have hback : ∀ x k, setS σ id none x = some (some k) → x ≠ id ∧ σ x = some (some k) := fun x k hx => by
    by_cases hxi : x = id
    · subst hxi; rw [setS_self] at hx; cases hx
    · rw [setS_ne hxi] at hx; exact ⟨hxi, hx⟩
  refine ⟨⟨ht _ _ h.tm, h.up.ext' ht, ⟨fun x y k k' hx hy e => h.hp.inj x y k k' (hback x k hx).2 (hback y k' hy).2 e, h.hp.g, h.hp.t, fun x k hx => ?_, fun x hx => ?_⟩⟩, hok⟩
  · obtain ⟨hne, hs⟩ := hback x k hx
    obtain ⟨h1, h2, y, h3, h4⟩ := h.hp.blk x k hs
    refine ⟨h1, h2, y, by rw [look_cons, if_neg (by omega)]; exact h3, ?_⟩
    cases y with
    | row s l => exact ⟨h4.1, h4.2.1, RowBlk.ext h4.2.2 (Ext.refl _ _) (fun k _ => hok k) rfl⟩
    | iter s p => exact h4
    | map kc vc l => exact h4
    | vars l => exact ⟨h4.1, VarsBlk.ext h4.2 (Ext.refl _ _) (fun k _ => hok k) rfl rfl fun j a ha => .inr ⟨ha, fun b _ r hr => hov b r hr⟩⟩
  · by_cases hxi : x = id
    · exact ⟨sz, by rw [look_cons, if_pos hxi.symm]⟩
    · rw [setS_ne hxi] at hx
      obtain ⟨z, h1⟩ := h.hp.nil x hx
      exact ⟨z, by rw [look_cons, if_neg (by omega)]; exact h1⟩

/-- A row gets another number. -/
theorem Rel.move {T : World → Prop} {base : Bs T} {ups : List (Array Value)} {σ : Sg} {st : St} {vs : Array Value} {w : World} (h : Rel base ups σ st vs w) {b id s : Nat} {l : List PV} {r : Option Bk} (hbid : b ≠ id)
    (hr : σ b = some r) (hl : look st.hp b = some (.row s l)) (hn : look (Ax.kill b st).hp id = none) :
    Rel base ups (setS (cutS σ b) id r) ⟨(Ax.kill b st).tm, (Ax.kill b st).up, (id, .row s l) :: (Ax.kill b st).hp⟩ vs w ∧ ∀ k, okS σ k → okS (setS (cutS σ b) id r) k := by
  have hK := h.kill b
  have hσ : cutS σ b id = none := hK.hp.none_of hn
  have hok : ∀ k, okS σ k → okS (setS (cutS σ b) id r) k := fun k hk => ⟨hk.1, fun x t hx => by
    by_cases hxi : x = id
    · subst hxi; rw [setS_self] at hx; cases hx; exact hk.2 b t hr
    · rw [setS_ne hxi] at hx; exact (okS_cut hk).2 x t hx⟩
  have hov : ∀ x r', x ≠ b → σ x = some r' → setS (cutS σ b) id r x = some r' := fun x r' hxb hx => by
    have hc : cutS σ b x = some r' := by rw [cutS_at, if_neg hxb]; exact hx
    rw [setS_ne (fun e : x = id => by rw [e, hσ] at hc; cases hc)]; exact hc
  have hback : ∀ x r', setS (cutS σ b) id r x = some r' → (x = id ∧ r' = r) ∨ (x ≠ id ∧ x ≠ b ∧ σ x = some r') := fun x r' hx => by
    by_cases hxi : x = id
    · subst hxi; rw [setS_self] at hx; exact .inl ⟨rfl, (Option.some.inj hx).symm⟩
    · rw [setS_ne hxi] at hx
      rw [cutS_at] at hx
      by_cases hxb : x = b
      · rw [if_pos hxb] at hx; cases hx
      · rw [if_neg hxb] at hx; exact .inr ⟨hxi, hxb, hx⟩
  have ht : ∀ tm vs, TR σ w tm vs → TR (setS (cutS σ b) id r) w (purgeT b tm) vs := fun tm vs ht => ht.ext (Ext.refl _ _) (fun k _ => hok k) fun t a ha => by
    rw [look_purgeT] at ha
    cases hc : look tm t with
    | none => rw [hc] at ha; cases ha
    | some c =>
      rw [hc] at ha
      simp only [Option.map_some, Option.some.injEq] at ha
      subst ha
      rcases purgeA_cases b c with h1 | ⟨h1, h2⟩
      · exact .inl ⟨h1, rfl⟩
      · exact .inr ⟨by rw [h1], fun x hx r' hr' => by rw [h1] at hx; exact hov x r' (fun e => h2 (e ▸ hx)) hr'⟩
  refine ⟨⟨ht _ _ h.tm, h.up.ext ht, ⟨fun x y k k' hx hy e => ?_, h.hp.g, h.hp.t, fun x k hx => ?_, fun x hx => ?_⟩⟩, hok⟩
  · rcases hback x _ hx with ⟨rfl, h1⟩ | ⟨h1, h2, h3⟩ <;> rcases hback y _ hy with ⟨rfl, h4⟩ | ⟨h4, h5, h6⟩
    · rfl
    · exact absurd (h.hp.inj y b k' k h6 (h1 ▸ hr) e.symm) h5
    · exact absurd (h.hp.inj x b k k' h3 (h4 ▸ hr) e) h2
    · exact h.hp.inj x y k k' h3 h6 e
  · rcases hback x _ hx with ⟨rfl, h1⟩ | ⟨h1, h2, h3⟩
    · obtain ⟨g1, g2, y, g3, g4⟩ := h.hp.blk b k (h1 ▸ hr)
      rw [hl] at g3
      cases g3
      exact ⟨g1, g2, .row s l, by rw [look_cons, if_pos rfl], g4.1, g4.2.1, RowBlk.ext g4.2.2 (Ext.refl _ _) (fun k _ => hok k) rfl⟩
    · obtain ⟨g1, g2, y, g3, g4⟩ := h.hp.blk x k h3
      refine ⟨g1, g2, purgeB b y, by rw [look_cons, if_neg (by omega)]; simp only [Ax.kill]; rw [look_purgeH, look_del, if_neg (by omega), g3]; rfl, ?_⟩
      cases y with
      | row sz l => exact ⟨g4.1, g4.2.1, RowBlk.ext g4.2.2 (Ext.refl _ _) (fun k _ => hok k) rfl⟩
      | iter s p => exact g4
      | map kc vc l => exact g4
      | vars l =>
        refine ⟨g4.1, VarsBlk.ext g4.2 (Ext.refl _ _) (fun k _ => hok k) rfl (by simp) fun j a ha => ?_⟩
        simp only [List.getElem?_map, Option.map_eq_some_iff] at ha
        obtain ⟨c, hc, rfl⟩ := ha
        rcases purgeA_cases b c with e1 | ⟨e1, e2⟩
        · exact .inl e1
        · exact .inr ⟨by rw [e1]; exact hc, fun x hx r' hr' => by rw [e1] at hx; exact hov x r' (fun e => e2 (e ▸ hx)) hr'⟩
  · rcases hback x _ hx with ⟨rfl, h1⟩ | ⟨h1, h2, h3⟩
    · obtain ⟨sz, g1⟩ := h.hp.nil b (h1 ▸ hr)
      rw [hl] at g1
      cases g1
      exact ⟨_, by rw [look_cons, if_pos rfl]⟩
    · obtain ⟨sz, g1⟩ := h.hp.nil x h3
      exact ⟨sz, by rw [look_cons, if_neg (by omega)]; simp only [Ax.kill]; rw [look_purgeH, look_del, if_neg (by omega), g1]; rfl⟩

theorem TR.put {σ : Sg} {w : World} {tm : TM} {vs : Array Value} (h : TR σ w tm vs) {s : Nat} {a : AV} {v : Value} (hv : vs[s]? = some v) (hr : VR σ w a v) : TR σ w ((s, a) :: tm) vs := by
  intro t b hb
  rw [look_cons] at hb
  by_cases hs : s = t
  · rw [if_pos hs] at hb; cases hb; exact ⟨v, hs ▸ hv, hr⟩
  · rw [if_neg hs] at hb; exact h t b hb

theorem Rel.rename {T : World → Prop} {base : Bs T} {ups : List (Array Value)} {σ : Sg} {st st' : St} {vs : Array Value} {w : World} (h : Rel base ups σ st vs w) {b id : Nat} {r : Option Bk} (hr : σ b = some r) (hm : renameRow b id st = some st') :
    ∃ σ', Rel base ups σ' st' vs w ∧ (∀ k, okS σ k → okS σ' k) ∧ σ' id = some r ∧ (∀ x r', x ≠ b → σ x = some r' → σ' x = some r') := by
  unfold renameRow at hm
  by_cases hb : b = id
  · rw [if_pos hb, Option.some.injEq] at hm
    subst hm; subst hb
    exact ⟨σ, h, fun _ h => h, hr, fun _ _ _ h => h⟩
  · rw [if_neg hb] at hm
    split at hm
    · rename_i s l hl
      simp only at hm
      split at hm
      · rename_i hn
        rw [Option.isNone_iff_eq_none] at hn
        cases hm
        obtain ⟨h1, h2⟩ := h.move hb hr hl hn
        refine ⟨_, h1, h2, setS_self _ _ _, fun x r' hxb hx => ?_⟩
        have hc : cutS σ b x = some r' := by rw [cutS_at, if_neg hxb]; exact hx
        rw [setS_ne (fun e : x = id => by rw [e, (h.kill b).hp.none_of hn] at hc; cases hc)]; exact hc
      · cases hm
    · cases hm

theorem VR.slAs {σ σ' : Sg} {w : World} {b id sz i n : Nat} {full : Bool} {v : Value} {r : Option Bk} (h : VR σ w (.sl b sz i n full) v) (hb : σ b = some r) (hi : σ' id = some r) : VR σ' w (.sl id sz i n full) v := by
  cases h with
  | sl _ _ _ _ k cap o _ hh hk hl ho h1 h2 h3 => rw [hb] at hh; cases hh; exact .sl id sz i n k cap o full hi hk hl ho h1 h2 h3
  | slnil _ _ _ hh => rw [hb] at hh; cases hh; exact .slnil id sz full hi

theorem VR.mkAs {σ σ' : Sg} {w : World} {te : Option Nat} {b id sz i n : Nat} {f : Bool} {v : Value} {r : Option Bk} (h : VR σ w (mkS te b sz i n f) v) (hb : σ b = some r) (hi : σ' id = some r) : VR σ' w (mkS te id sz i n f) v := by
  unfold mkS at h ⊢
  cases te with
  | none => exact h.slAs hb hi
  | some e =>
    cases h with
    | tsl _ _ _ _ _ _ h ht => exact .tsl e id sz i n v (h.slAs hb hi) fun k hk => by rw [hi] at hk; cases hk; exact ht k hb
theorem slOf_some {x : AV} {te : Option Nat} {b z i n : Nat} {f : Bool} (h : slOf x = some (te, b, z, i, n, f)) : x = mkS te b z i n f := by
  unfold slOf at h
  split at h
  · cases h; rfl
  · cases h; rfl
  · cases h
theorem ids_mkS (te : Option Nat) (b z i n : Nat) (f : Bool) : ids (mkS te b z i n f) = [b] := by cases te <;> rfl
theorem Rel.growSlot {T : World → Prop} {base : Bs T} {ups : List (Array Value)} {σ : Sg} {st st' : St} {vs : Array Value} {w : World} (h : Rel base ups σ st vs w) {fb s sz : Nat} (hm : growSlot fb s sz st = some st') :
    ∃ σ', Rel base ups σ' st' vs w ∧ ∀ k, okS σ k → okS σ' k := by
  unfold Ax.growSlot at hm
  split at hm
  · rename_i hs
    split at hm
    · rename_i hn
      rw [Option.isNone_iff_eq_none] at hn
      cases hm
      obtain ⟨v, hv, hr⟩ := h.tm s _ hs
      cases hr with
      | p _ _ hr =>
        cases hr
        obtain ⟨h1, h2⟩ := h.addNil _ sz hn
        exact ⟨_, ⟨h1.tm.put hv (.slnil _ _ _ (setS_self _ _ _)), h1.up, h1.hp⟩, h2⟩
    · cases hm
  · rename_i b z i n f hs
    simp only [Option.map_eq_some_iff] at hm
    obtain ⟨st1, hm, rfl⟩ := hm
    obtain ⟨v, hv, hr⟩ := h.tm s _ hs
    obtain ⟨r, hb⟩ := hr.ids_some b (by simp [ids])
    obtain ⟨σ', h1, h2, h3, h4⟩ := h.rename hb hm
    exact ⟨σ', ⟨h1.tm.put hv (hr.slAs hb h3), h1.up, h1.hp⟩, h2⟩
  · cases hm
theorem Rel.grows {T : World → Prop} {base : Bs T} {ups : List (Array Value)} {vs : Array Value} {w : World} {fb : Nat} : ∀ (l : List (Nat × Nat)) {σ : Sg} {st st' : St} (_ : Rel base ups σ st vs w) (_ : grows fb l st = some st'), ∃ σ', Rel base ups σ' st' vs w ∧ ∀ k, okS σ k → okS σ' k := by
  intro l
  induction l with
  | nil => intro σ st st' h hm; simp only [Ax.grows, Option.some.injEq] at hm; subst hm; exact ⟨σ, h, fun _ h => h⟩
  | cons x r ih =>
    obtain ⟨s, sz⟩ := x
    intro σ st st' h hm
    simp only [Ax.grows, Option.bind_eq_some_iff] at hm
    obtain ⟨st1, hm1, hm2⟩ := hm
    obtain ⟨σ1, h1, h2⟩ := h.growSlot hm1
    obtain ⟨σ2, h3, h4⟩ := ih h1 hm2
    exact ⟨σ2, h3, fun k hk => h4 k (h2 k hk)⟩

/-- A variable's cells are told otherwise. -/
theorem Rel.setVars {T : World → Prop} {base : Bs T} {ups : List (Array Value)} {σ : Sg} {st : St} {vs : Array Value} {w : World} (h : Rel base ups σ st vs w) {b : Nat} {l l' : List AV} (hl : look st.hp b = some (.vars l)) (hlen : l'.length = l.length)
    (hr : ∀ (k : Bk) (cs : Array Value) (e : TypeId) (fz : Nat × Nat), σ b = some (some k) → w.heap[k.k]? = some (.cells cs e fz) → ∀ (j : Nat) (a : AV) (v : Value), l'[j]? = some a → cs[j]? = some v → VR σ w a v) :
    Rel base ups σ ⟨st.tm, st.up, (b, .vars l') :: del st.hp b⟩ vs w := by
  refine ⟨h.tm, h.up, ⟨h.hp.inj, h.hp.g, h.hp.t, fun x k hx => ?_, fun x hx => ?_⟩⟩
  · obtain ⟨h1, h2, y, h3, h4⟩ := h.hp.blk x k hx
    by_cases hxb : b = x
    · subst hxb
      rw [hl] at h3
      cases h3
      obtain ⟨cs, e, fz, g1, g2, g3, g4⟩ := h4.2.ex
      exact ⟨h1, h2, .vars l', by rw [look_cons, if_pos rfl], h4.1, ⟨cs, e, fz, g1, g2, g3.trans hlen.symm, fun j a v ha hv => hr k cs e fz hx g1 j a v ha hv⟩⟩
    · exact ⟨h1, h2, y, by rw [look_cons, if_neg hxb, look_del, if_neg hxb]; exact h3, h4⟩
  · obtain ⟨sz, h1⟩ := h.hp.nil x hx
    have hxb : b ≠ x := fun e => by rw [← e, hl] at h1; cases h1
    exact ⟨sz, by rw [look_cons, if_neg hxb, look_del, if_neg hxb]; exact h1⟩
/-- What the cells of a variable hold. -/
theorem Rel.varsAt {T : World → Prop} {base : Bs T} {ups : List (Array Value)} {σ : Sg} {st : St} {vs : Array Value} {w : World} (h : Rel base ups σ st vs w) {b : Nat} {k : Bk} {l : List AV} (hl : look st.hp b = some (.vars l)) (hk : σ b = some (some k))
    {cs : Array Value} {e : TypeId} {fz : Nat × Nat} (hc : w.heap[k.k]? = some (.cells cs e fz)) {j : Nat} {a : AV} {v : Value} (ha : l[j]? = some a) (hv : cs[j]? = some v) : VR σ w a v := by
  obtain ⟨_, _, y, h3, h4⟩ := h.hp.blk b k hk
  rw [hl] at h3; cases h3
  obtain ⟨cs', e', fz', g1, g2, g3, g4⟩ := h4.2.ex
  rw [hc] at g1; cases g1
  exact g4 j a v ha hv
theorem Rel.growCell {T : World → Prop} {base : Bs T} {ups : List (Array Value)} {σ : Sg} {st st' : St} {vs : Array Value} {w : World} (h : Rel base ups σ st vs w) {fb s j sz : Nat} (hm : growCell fb s j sz st = some st') :
    ∃ σ', Rel base ups σ' st' vs w ∧ ∀ k, okS σ k → okS σ' k := by
  unfold Ax.growCell at hm
  split at hm
  · rename_i v _ _ _ hs
    split at hm
    · rename_i l hl
      split at hm
      · rename_i hj
        split at hm
        · rename_i hn
          rw [Option.isNone_iff_eq_none] at hn
          cases hm
          obtain ⟨h1, h2⟩ := h.addNil _ (sz % 65536) hn
          have hne : fb + 64 * s + 33 + j ≠ v := fun e => by rw [e, hl] at hn; cases hn
          have hl1 : look (((fb + 64 * s + 33 + j, Blk.row (sz % 65536) []) :: st.hp) : HP) v = some (.vars l) := by rw [look_cons, if_neg hne]; exact hl
          have h3 := h1.setVars (l' := l.set j (mkS (teOf sz) (fb + 64 * s + 33 + j) (sz % 65536) 0 0 false)) hl1 (by simp) fun k cs e fz hk hc i a u ha hu => by
            by_cases hij : j = i
            · subst hij
              have hlt : j < l.length := (List.getElem?_eq_some_iff.1 hj).1
              rw [List.getElem?_set_self hlt] at ha; cases ha
              cases h1.varsAt hl1 hk hc hj hu with
              | p _ _ hu =>
                cases hu
                cases teOf sz with
                | none => exact .slnil _ _ _ (setS_self _ _ _)
                | some e => exact .tsl _ _ _ _ _ _ (.slnil _ _ _ (setS_self _ _ _)) fun k hk => by rw [setS_self] at hk; cases hk
            · rw [List.getElem?_set_ne hij] at ha; exact h1.varsAt hl1 hk hc ha hu
          refine ⟨_, ⟨h3.tm, h3.up, ?_⟩, h2⟩
          have := h3.hp
          simp only [del, if_neg hne] at this
          exact ⟨this.inj, this.g, this.t, fun x k hx => by
            obtain ⟨g1, g2, y, g3, g4⟩ := this.blk x k hx
            exact ⟨g1, g2, y, g3, g4⟩, this.nil⟩
        · cases hm
      · cases hm
        exact ⟨σ, h, fun _ h => h⟩
      · rename_i x _ _ hj
        split at hm
        rotate_left
        · cases hm
        rename_i te b z i n f hsl
        have hx := slOf_some hsl
        subst hx
        by_cases hbv : b = v
        · rw [if_pos hbv] at hm; cases hm
        rw [if_neg hbv] at hm
        simp only [Option.bind_eq_some_iff] at hm
        obtain ⟨st1, hm1, hm2⟩ := hm
        obtain ⟨u, hu, hr⟩ := h.tm s _ hs
        obtain ⟨rv, hrv⟩ := hr.ids_some v (by simp [ids])
        cases rv with
        | none => obtain ⟨z, g⟩ := h.hp.nil v hrv; rw [hl] at g; cases g
        | some k =>
          have hb : ∃ r, σ b = some r := by
            obtain ⟨_, _, y, g3, g4⟩ := h.hp.blk v k hrv
            rw [hl] at g3; cases g3
            obtain ⟨cs, e, fz, g1, g2, g5, g6⟩ := g4.2.ex
            have hlt : j < cs.size := by rw [g5]; exact (List.getElem?_eq_some_iff.1 hj).1
            exact (g6 j _ _ hj (Array.getElem?_eq_getElem hlt)).ids_some b (by simp [ids_mkS])
          obtain ⟨r, hb⟩ := hb
          have hbv : v ≠ b := fun e => hbv e.symm
          obtain ⟨σ', h1, h2, h3, h4⟩ := h.rename hb hm1
          split at hm2
          · rename_i l1 hl1
            cases hm2
            have hk1 := h4 v _ hbv hrv
            have hlen : l1.length = l.length := by
              obtain ⟨_, _, y, g3, g4⟩ := h.hp.blk v k hrv
              rw [hl] at g3; cases g3
              obtain ⟨cs, e, fz, g1, g2, g5, g6⟩ := g4.2.ex
              obtain ⟨_, _, y', g3', g4'⟩ := h1.hp.blk v k hk1
              rw [hl1] at g3'; cases g3'
              obtain ⟨cs', e', fz', g1', g2', g5', g6'⟩ := g4'.2.ex
              rw [g1] at g1'; cases g1'
              omega
            refine ⟨σ', h1.setVars hl1 (by simp) fun k' cs e fz hk hc i' a u' ha hu' => ?_, h2⟩
            rw [hk1] at hk; cases hk
            by_cases hij : j = i'
            · subst hij
              have hlt : j < l1.length := by rw [hlen]; exact (List.getElem?_eq_some_iff.1 hj).1
              rw [List.getElem?_set_self hlt] at ha; cases ha
              exact (h.varsAt hl hrv hc hj hu').mkAs hb h3
            · rw [List.getElem?_set_ne hij] at ha; exact h1.varsAt hl1 hk1 hc ha hu'
          · cases hm2
      · cases hm
    · cases hm
  · cases hm
theorem Rel.growCells {T : World → Prop} {base : Bs T} {ups : List (Array Value)} {vs : Array Value} {w : World} {fb : Nat} : ∀ (l : List (Nat × Nat × Nat)) {σ : Sg} {st st' : St} (_ : Rel base ups σ st vs w) (_ : growCells fb l st = some st'), ∃ σ', Rel base ups σ' st' vs w ∧ ∀ k, okS σ k → okS σ' k := by
  intro l
  induction l with
  | nil => intro σ st st' h hm; simp only [Ax.growCells, Option.some.injEq] at hm; subst hm; exact ⟨σ, h, fun _ h => h⟩
  | cons x r ih =>
    obtain ⟨s, j, sz⟩ := x
    intro σ st st' h hm
    simp only [Ax.growCells, Option.bind_eq_some_iff] at hm
    obtain ⟨st1, hm1, hm2⟩ := hm
    obtain ⟨σ1, h1, h2⟩ := h.growCell hm1
    obtain ⟨σ2, h3, h4⟩ := ih h1 hm2
    exact ⟨σ2, h3, fun k hk => h4 k (h2 k hk)⟩
/-- A loop's head. -/
theorem Rel.masked {T : World → Prop} {base : Bs T} {ups : List (Array Value)} {vs : Array Value} {w : World} {fb : Nat} {m : Option Mask} {σ : Sg} {st st' : St} (h : Rel base ups σ st vs w) (hm : masked m fb st = some st') :
    ∃ σ', Rel base ups σ' st' vs w ∧ ∀ k, okS σ k → okS σ' k := by
  cases m with
  | none => simp only [Ax.masked, Option.some.injEq] at hm; subst hm; exact ⟨σ, h, fun _ h => h⟩
  | some m =>
    simp only [Ax.masked, Option.bind_eq_some_iff] at hm
    obtain ⟨s1, hm1, s2, hm2, hm3⟩ := hm
    obtain ⟨σ1, h1, k1⟩ := Rel.grows _ h hm1
    obtain ⟨σ2, h2, k2⟩ := Rel.growCells _ h1 hm2
    obtain ⟨σ3, h3, k3⟩ := h2.restr hm3
    exact ⟨σ3, h3, fun k hk => k3 k (k2 k (k1 k hk))⟩
end Go.Proofs.YtalfnpdgajfkiaaDoor.Ax
