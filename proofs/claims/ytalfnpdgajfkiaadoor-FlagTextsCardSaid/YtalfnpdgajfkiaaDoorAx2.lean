/- 'Ax', part 2: steps of abstract states that no operation of the program makes: a slot is set, a block is no longer tracked, new blocks, loops' heads. -/
import Derived.Test.YtalfnpdgajfkiaaDoorAx1
set_option linter.unusedVariables false
set_option linter.unusedSimpArgs false
namespace Go.Proofs.YtalfnpdgajfkiaaDoor.Ax
open Go

/-! ### Lists by numbers -/
theorem look_cons {α : Type} (k : Nat) (v : α) (r : List (Nat × α)) (s : Nat) : look ((k, v) :: r) s = if k = s then some v else look r s := rfl
theorem look_del {α : Type} (l : List (Nat × α)) (b s : Nat) : look (del l b) s = if b = s then none else look l s := by
  induction l with
  | nil => simp [look, del]
  | cons x r ih =>
    obtain ⟨k, v⟩ := x
    simp only [del]
    by_cases h : k = b
    · rw [if_pos h, ih, look_cons]
      by_cases h2 : b = s
      · rw [if_pos h2, if_pos h2]
      · rw [if_neg h2, if_neg h2, if_neg (by omega)]
    · rw [if_neg h, look_cons, ih, look_cons]
      by_cases h2 : k = s
      · rw [if_pos h2, if_pos h2, if_neg (by omega)]
      · rw [if_neg h2, if_neg h2]
theorem look_append {α : Type} (l m : List (Nat × α)) (s : Nat) : look (l ++ m) s = (look l s).or (look m s) := by
  induction l with
  | nil => simp [look]
  | cons x r ih =>
    obtain ⟨k, v⟩ := x
    rw [List.cons_append, look_cons, look_cons, ih]
    split <;> simp
theorem look_purgeT (b : Nat) (tm : TM) (s : Nat) : look (purgeT b tm) s = (look tm s).map (purgeA b) := by
  induction tm with
  | nil => rfl
  | cons x r ih => obtain ⟨k, v⟩ := x; simp only [purgeT, look_cons, ih]; split <;> simp
theorem look_purgeH (b : Nat) (hp : HP) (s : Nat) : look (purgeH b hp) s = (look hp s).map (purgeB b) := by
  induction hp with
  | nil => rfl
  | cons x r ih => obtain ⟨k, v⟩ := x; simp only [purgeH, look_cons, ih]; split <;> simp
theorem look_cleanT (hp : HP) (tm : TM) (s : Nat) : look (cleanT hp tm) s = (look tm s).map (cleanA hp) := by
  induction tm with
  | nil => rfl
  | cons x r ih => obtain ⟨k, v⟩ := x; simp only [cleanT, look_cons, ih]; split <;> simp
theorem look_cleanH (hq hp : HP) (s : Nat) : look (cleanH hq hp) s = (look hp s).map (cleanB hq) := by
  induction hp with
  | nil => rfl
  | cons x r ih => obtain ⟨k, v⟩ := x; simp only [cleanH, look_cons, ih]; split <;> simp
theorem look_below (fb : Nat) (hp : HP) (s : Nat) {k : Blk} (h : look (below fb hp) s = some k) : look hp s = some k := by
  induction hp with
  | nil => simp [below, look] at h
  | cons x r ih =>
    obtain ⟨b, v⟩ := x
    simp only [below] at h
    by_cases hb : b < fb
    · rw [if_pos hb, look_cons] at h
      rw [look_cons]
      by_cases hs : b = s
      · rw [if_pos hs] at h ⊢; exact h
      · rw [if_neg hs] at h ⊢; exact ih h
    · rw [if_neg hb] at h
      rw [look_cons]
      by_cases hs : b = s
      · exfalso
        subst hs
        have : ∀ (r : HP) k, look (below fb r) b = some k → b < fb := by
          intro r
          induction r with
          | nil => intro k h; simp [below, look] at h
          | cons y t iht =>
            obtain ⟨c, u⟩ := y
            intro k h
            simp only [below] at h
            by_cases hc : c < fb
            · rw [if_pos hc, look_cons] at h
              by_cases hcb : c = b
              · omega
              · rw [if_neg hcb] at h; exact iht k h
            · rw [if_neg hc] at h; exact iht k h
        exact hb (this r k h)
      · rw [if_neg hs]; exact ih h

/-! ### All that is related lives on -/
/-- Which numbers are known to go over from σ to σ'. -/
def Over (σ σ' : Sg) (live : Nat → Prop) : Prop := ∀ b, live b → ∀ r, σ b = some r → σ' b = some r
theorem TR.ext {σ σ' : Sg} {w w' : World} {tm tm' : TM} {vs : Array Value} (h : TR σ w tm vs) (hE : Ext (okS σ) w w') (hok : ∀ k, k < w.heap.size → okS σ k → okS σ' k)
    (ht : ∀ s a, look tm' s = some a → a = .dead ∧ (look tm s).isSome ∨ (look tm s = some a ∧ ∀ b, b ∈ ids a → ∀ r, σ b = some r → σ' b = some r)) : TR σ' w' tm' vs := by
  intro s a ha
  rcases ht s a ha with ⟨rfl, hs⟩ | ⟨hs, hid⟩
  · cases hc : look tm s with
    | none => rw [hc] at hs; cases hs
    | some c => obtain ⟨v, hv, _⟩ := h s c hc; exact ⟨v, hv, .dead v⟩
  · obtain ⟨v, hv, hr⟩ := h s a hs
    exact ⟨v, hv, hr.ext hE hok hid⟩
theorem UR.ext {σ σ' : Sg} {w w' : World} {f : TM → TM} (hf : ∀ tm vs, TR σ w tm vs → TR σ' w' (f tm) vs) {ts : List TM} {us : List (Array Value)} (h : UR σ w ts us) : UR σ' w' (ts.map f) us := by
  induction h with
  | nil => exact .nil
  | cons h _ ih => exact .cons (hf _ _ h) ih
theorem UR.ext' {σ σ' : Sg} {w w' : World} (hf : ∀ tm vs, TR σ w tm vs → TR σ' w' tm vs) {ts : List TM} {us : List (Array Value)} (h : UR σ w ts us) : UR σ' w' ts us := by
  induction h with
  | nil => exact .nil
  | cons h _ ih => exact .cons (hf _ _ h) ih
theorem RowBlk.ext {σ σ' : Sg} {w w' : World} {sz : Nat} {l : List PV} {k : Nat} (h : RowBlk σ w sz l k) (hE : Ext (okS σ) w w') (hok : ∀ k, k < w.heap.size → okS σ k → okS σ' k) (hs : w'.heap[k]? = w.heap[k]?) : RowBlk σ' w' sz l k := by
  obtain ⟨cs, e, fz, f, h1, h2, h3, h4, h5⟩ := h.ex
  exact ⟨cs, e, fz, f, hs.trans h1, h2, h3, h4, fun i x j c hx hc => (h5 i x j c hx hc).ext hE hok⟩
theorem VarsBlk.ext {σ σ' : Sg} {w w' : World} {l l' : List AV} {k : Nat} (h : VarsBlk σ w l k) (hE : Ext (okS σ) w w') (hok : ∀ k, k < w.heap.size → okS σ k → okS σ' k) (hs : w'.heap[k]? = w.heap[k]?)
    (hl : l'.length = l.length) (ht : ∀ (j : Nat) (a : AV), l'[j]? = some a → a = .dead ∨ (l[j]? = some a ∧ ∀ b, b ∈ ids a → ∀ r, σ b = some r → σ' b = some r)) : VarsBlk σ' w' l' k := by
  obtain ⟨cs, e, fz, h1, h2, h3, h4⟩ := h.ex
  refine ⟨cs, e, fz, hs.trans h1, h2, h3.trans hl.symm, fun j a v ha hv => ?_⟩
  rcases ht j a ha with rfl | ⟨hj, hid⟩
  · exact .dead v
  · exact (h4 j a v hj hv).ext hE hok hid

/-! ### A block that is no longer tracked -/
def cutS (σ : Sg) (b : Nat) : Sg := ⟨fun x => if x = b then none else σ x, σ.G⟩
theorem cutS_at (σ : Sg) (b x : Nat) : cutS σ b x = if x = b then none else σ x := rfl
theorem okS_cut {σ : Sg} {b k : Nat} (h : okS σ k) : okS (cutS σ b) k := ⟨h.1, fun x t hx => by
  rw [cutS_at] at hx
  split at hx
  · cases hx
  · exact h.2 x t hx⟩
theorem purgeA_cases (b : Nat) (a : AV) : purgeA b a = .dead ∨ (purgeA b a = a ∧ b ∉ ids a) := by
  unfold purgeA
  by_cases h : b ∈ ids a
  · exact .inl (by rw [if_pos (by simpa using h)])
  · exact .inr ⟨by rw [if_neg (by simpa using h)], h⟩
theorem TR.purge {σ : Sg} {w : World} {tm : TM} {vs : Array Value} (h : TR σ w tm vs) (b : Nat) : TR (cutS σ b) w (purgeT b tm) vs := by
  refine h.ext (Ext.refl _ _) (fun k _ ho => okS_cut ho) fun s a ha => ?_
  rw [look_purgeT] at ha
  cases hc : look tm s with
  | none => rw [hc] at ha; cases ha
  | some c =>
    rw [hc] at ha
    simp only [Option.map_some, Option.some.injEq] at ha
    subst ha
    rcases purgeA_cases b c with h1 | ⟨h1, h2⟩
    · exact .inl ⟨h1, rfl⟩
    · refine .inr ⟨by rw [h1], fun x hx r hr => ?_⟩
      rw [h1] at hx
      rw [cutS_at]
      rw [if_neg (fun e : _ = b => h2 (e ▸ hx))]
      exact hr
theorem HR.kill {T : World → Prop} {base : Bs T} {σ : Sg} {w : World} {hp : HP} (h : HR base σ w hp) (b : Nat) : HR base (cutS σ b) w (purgeH b (del hp b)) := by
  have hσ : ∀ x r, cutS σ b x = some r → x ≠ b ∧ σ x = some r := fun x r hx => by
    rw [cutS_at] at hx
    by_cases hxb : x = b
    · rw [if_pos hxb] at hx; cases hx
    · rw [if_neg hxb] at hx; exact ⟨hxb, hx⟩
  refine ⟨fun x y k k' hx hy e => h.inj x y k k' (hσ x _ hx).2 (hσ y _ hy).2 e, h.g, h.t, fun x k hx => ?_, fun x hx => ?_⟩
  · obtain ⟨hne, hs⟩ := hσ x _ hx
    obtain ⟨h1, h2, y, h3, h4⟩ := h.blk x k hs
    refine ⟨h1, h2, purgeB b y, by rw [look_purgeH, look_del, if_neg (by omega), h3]; rfl, ?_⟩
    cases y with
    | row sz l => exact ⟨h4.1, h4.2.1, RowBlk.ext h4.2.2 (Ext.refl _ _) (fun k _ ho => okS_cut ho) rfl⟩
    | iter s p => exact h4
    | map kc vc l => exact h4
    | vars l =>
      refine ⟨h4.1, VarsBlk.ext h4.2 (Ext.refl _ _) (fun k _ ho => okS_cut ho) rfl (by simp) fun j a ha => ?_⟩
      simp only [List.getElem?_map, Option.map_eq_some_iff] at ha
      obtain ⟨c, hc, rfl⟩ := ha
      rcases purgeA_cases b c with h1 | ⟨h1, h2⟩
      · exact .inl h1
      · refine .inr ⟨by rw [h1]; exact hc, fun x hx r hr => ?_⟩
        rw [h1] at hx
        rw [cutS_at]
        rw [if_neg (fun e : _ = b => h2 (e ▸ hx))]
        exact hr
  · obtain ⟨hne, hs⟩ := hσ x _ hx
    obtain ⟨sz, h1⟩ := h.nil x hs
    exact ⟨sz, by rw [look_purgeH, look_del, if_neg (by omega), h1]; rfl⟩
theorem Rel.kill {T : World → Prop} {base : Bs T} {ups : List (Array Value)} {σ : Sg} {st : St} {vs : Array Value} {w : World} (h : Rel base ups σ st vs w) (b : Nat) : Rel base ups (cutS σ b) (kill b st) vs w :=
  ⟨h.tm.purge b, h.up.ext (fun _ _ ht => ht.purge b), h.hp.kill b⟩
def cutL (σ : Sg) : List Nat → Sg
  | [] => σ
  | b :: r => cutL (cutS σ b) r
theorem Rel.kills {T : World → Prop} {base : Bs T} {ups : List (Array Value)} {vs : Array Value} {w : World} : ∀ (l : List Nat) {σ : Sg} {st : St} (_ : Rel base ups σ st vs w), Rel base ups (cutL σ l) (kills l st) vs w
  | [], _, _, h => h
  | b :: r, _, _, h => Rel.kills r (h.kill b)
theorem cutL_G : ∀ (l : List Nat) (σ : Sg), (cutL σ l).G = σ.G
  | [], _ => rfl
  | _ :: r, σ => cutL_G r _
theorem cutL_some {l : List Nat} {σ : Sg} {b : Nat} {r : Option Bk} (h : cutL σ l b = some r) : b ∉ l ∧ σ b = some r := by
  induction l generalizing σ with
  | nil => exact ⟨by simp, h⟩
  | cons c t ih =>
    obtain ⟨h1, h2⟩ := ih h
    rw [cutS_at] at h2
    by_cases hc : b = c
    · rw [if_pos hc] at h2; cases h2
    · rw [if_neg hc] at h2; exact ⟨by simp [hc, h1], h2⟩
theorem cutL_of {l : List Nat} {σ : Sg} {b : Nat} {r : Option Bk} (h : σ b = some r) (hb : b ∉ l) : cutL σ l b = some r := by
  induction l generalizing σ with
  | nil => exact h
  | cons c t ih =>
    simp only [List.mem_cons, not_or] at hb
    exact ih (by rw [cutS_at, if_neg hb.1]; exact h) hb.2
theorem okS_cutL {l : List Nat} {σ : Sg} {k : Nat} (h : okS σ k) : okS (cutL σ l) k := ⟨by rw [cutL_G]; exact h.1, fun b t hb => h.2 b t (cutL_some hb).2⟩

/-! ### Fewer slots and blocks -/
def onlyS (σ : Sg) (hp : HP) : Sg := ⟨fun b => if (look hp b).isSome then σ b else none, σ.G⟩
theorem onlyS_at (σ : Sg) (hp : HP) (b : Nat) : onlyS σ hp b = if (look hp b).isSome then σ b else none := rfl
theorem okS_only {σ : Sg} {hp : HP} {k : Nat} (h : okS σ k) : okS (onlyS σ hp) k := ⟨h.1, fun x t hx => by
  rw [onlyS_at] at hx
  split at hx
  · exact h.2 x t hx
  · cases hx⟩
theorem cleanA_cases (hp : HP) (a : AV) : cleanA hp a = .dead ∨ (cleanA hp a = a ∧ ∀ b, b ∈ ids a → (look hp b).isSome = true) := by
  unfold cleanA
  split
  · rename_i h; exact .inr ⟨rfl, by simpa using h⟩
  · exact .inl rfl
theorem clean_over {σ : Sg} {hp : HP} {a : AV} (h : ∀ b, b ∈ ids a → (look hp b).isSome = true) : ∀ b, b ∈ ids a → ∀ r, σ b = some r → onlyS σ hp b = some r := fun b hb r hr => by
  rw [onlyS_at, if_pos (h b hb)]; exact hr
theorem TR.clean {σ : Sg} {w : World} {tm tm' : TM} {vs : Array Value} (h : TR σ w tm vs) (hp : HP) (hsub : ∀ s a, look tm' s = some a → look tm s = some a) : TR (onlyS σ hp) w (cleanT hp tm') vs := by
  refine h.ext (Ext.refl _ _) (fun k _ ho => okS_only ho) fun s a ha => ?_
  rw [look_cleanT] at ha
  cases hc : look tm' s with
  | none => rw [hc] at ha; cases ha
  | some c =>
    rw [hc] at ha
    simp only [Option.map_some, Option.some.injEq] at ha
    subst ha
    rcases cleanA_cases hp c with h1 | ⟨h1, h2⟩
    · exact .inl ⟨h1, by rw [hsub s c hc]; rfl⟩
    · exact .inr ⟨by rw [h1]; exact hsub s c hc, by rw [h1]; exact clean_over h2⟩
theorem HR.clean {T : World → Prop} {base : Bs T} {σ : Sg} {w : World} {hp hq : HP} (h : HR base σ w hp) (hsub : ∀ b k, look hq b = some k → look hp b = some k) : HR base (onlyS σ hq) w (cleanH hq hq) := by
  have hσ : ∀ x r, onlyS σ hq x = some r → (∃ k, look hq x = some k) ∧ σ x = some r := fun x r hx => by
    rw [onlyS_at] at hx
    split at hx
    · rename_i hs; exact ⟨Option.isSome_iff_exists.1 hs, hx⟩
    · cases hx
  refine ⟨fun x y k k' hx hy e => h.inj x y k k' (hσ x _ hx).2 (hσ y _ hy).2 e, h.g, h.t, fun x k hx => ?_, fun x hx => ?_⟩
  · obtain ⟨⟨z, hz⟩, hs⟩ := hσ x _ hx
    obtain ⟨h1, h2, y, h3, h4⟩ := h.blk x k hs
    have hzy : z = y := Option.some.inj ((hsub x z hz).symm.trans h3)
    subst hzy
    refine ⟨h1, h2, cleanB hq z, by rw [look_cleanH, hz]; rfl, ?_⟩
    cases z with
    | row sz l => exact ⟨h4.1, h4.2.1, RowBlk.ext h4.2.2 (Ext.refl _ _) (fun k _ ho => okS_only ho) rfl⟩
    | iter s p => exact h4
    | map kc vc l => exact h4
    | vars l =>
      refine ⟨h4.1, VarsBlk.ext h4.2 (Ext.refl _ _) (fun k _ ho => okS_only ho) rfl (by simp) fun j a ha => ?_⟩
      simp only [List.getElem?_map, Option.map_eq_some_iff] at ha
      obtain ⟨c, hc, rfl⟩ := ha
      rcases cleanA_cases hq c with h1 | ⟨h1, h2⟩
      · exact .inl h1
      · exact .inr ⟨by rw [h1]; exact hc, by rw [h1]; exact clean_over h2⟩
  · obtain ⟨⟨z, hz⟩, hs⟩ := hσ x _ hx
    obtain ⟨sz, h1⟩ := h.nil x hs
    have hzy : z = .row sz [] := Option.some.inj ((hsub x z hz).symm.trans h1)
    exact ⟨sz, by rw [look_cleanH, hz, hzy]; rfl⟩
theorem keepT_sub {tm tm' : TM} : ∀ {l : List Nat}, keepT tm l = some tm' → ∀ s a, look tm' s = some a → look tm s = some a := by
  intro l
  induction l generalizing tm' with
  | nil => intro h s a ha; simp only [keepT, Option.some.injEq] at h; subst h; simp [look] at ha
  | cons x r ih =>
    intro h s a ha
    simp only [keepT, Option.bind_eq_some_iff, Option.map_eq_some_iff] at h
    obtain ⟨c, hc, t, ht, rfl⟩ := h
    rw [look_cons] at ha
    by_cases hx : x = s
    · rw [if_pos hx] at ha; rw [← hx, hc]; exact ha
    · rw [if_neg hx] at ha; exact ih ht s a ha
theorem look_reverse_mem {hp : HP} {b : Nat} {k : Blk} (h : look hp b = some k) : (b, k) ∈ hp := by
  induction hp with
  | nil => simp [look] at h
  | cons x r ih =>
    obtain ⟨c, u⟩ := x
    rw [look_cons] at h
    by_cases hc : c = b
    · rw [if_pos hc] at h; cases h; subst hc; exact List.mem_cons_self
    · rw [if_neg hc] at h; exact List.mem_cons_of_mem _ (ih h)
theorem gather_sub {hp : HP} : ∀ (n : Nat) (l : List Nat) (acc hq : HP), gather hp n l acc = some hq → (∀ x, x ∈ acc → look hp x.1 = some x.2) → ∀ x, x ∈ hq → look hp x.1 = some x.2 := by
  intro n
  induction n with
  | zero => intro l acc hq h; simp [gather] at h
  | succ n ih =>
    intro l acc hq h hacc
    cases l with
    | nil => simp only [gather, Option.some.injEq] at h; subst h; intro x hx; exact hacc x (by simpa using hx)
    | cons b r =>
      simp only [gather] at h
      split at h
      · exact ih _ _ _ h hacc
      · split at h
        · rename_i k hk
          exact ih _ _ _ h fun x hx => by
            rcases List.mem_cons.1 hx with rfl | hx
            · exact hk
            · exact hacc x hx
        · cases h
theorem Rel.restr {T : World → Prop} {base : Bs T} {ups : List (Array Value)} {σ : Sg} {st st' : St} {vs : Array Value} {w : World} (h : Rel base ups σ st vs w) {fb : Nat} {l : List Nat} (hm : restr fb l st = some st') : ∃ σ', Rel base ups σ' st' vs w ∧ ∀ k, okS σ k → okS σ' k := by
  simp only [Ax.restr, Option.bind_eq_some_iff, Option.map_eq_some_iff] at hm
  obtain ⟨tm, ht, hq, hg, rfl⟩ := hm
  have hsub : ∀ b k, look (hq ++ below fb st.hp) b = some k → look st.hp b = some k := fun b k hb => by
    rw [look_append] at hb
    cases hc : look hq b with
    | some y => rw [hc] at hb; cases hb; exact gather_sub _ _ _ _ hg (by simp) _ (look_reverse_mem hc)
    | none => rw [hc] at hb; exact look_below fb _ _ hb
  exact ⟨onlyS σ (hq ++ below fb st.hp), ⟨h.tm.clean _ (keepT_sub ht), h.up.ext (fun tm vs ht => ht.clean _ fun _ _ h => h), h.hp.clean hsub⟩, fun k hk => okS_only hk⟩
end Go.Proofs.YtalfnpdgajfkiaaDoor.Ax
