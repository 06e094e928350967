/- 'Ax', part 14: append. -/
import Derived.Test.YtalfnpdgajfkiaaDoorAx13
set_option linter.unusedVariables false
set_option linter.unusedSimpArgs false
namespace Go.Proofs.YtalfnpdgajfkiaaDoor.Ax
open Go

section
variable {P : Program} {w : World} {t u e eu ty : TypeId} {i : TypeInfo} {z : Value} {ts : Array TypeId} (h0 : ts[0]? = some t) (h1 : ts[1]? = some u) (hu : P.underlying u = some (.slice eu) ∨ P.underlying u = some .string) (ht : P.underlying t = some (.slice e)) (hi : P.info? e = some i) (hz : i.zero = some z)
  {base : Option Addr} {vx : Value} {sLen sCap m : Nat} (hlen : ∀ w' : World, (Builtin.lenOf vx).run P w' = .ok m w') {olds news : Array Value}
include h0 h1 hu ht hi hlen
theorem append_fit (hnew : (Builtin.firstCells i.size m vx).run P w = .ok news w) (hfit : sLen + m ≤ sCap) {w' : World}
    (hst : ∀ a, base = some a → (storeCells (a.add (sLen * i.size)) news.toList).run P w = .ok () w') (hno : base = none → w' = w) :
    (Builtin.append_ ts ty #[.slice base sLen sCap, vx]).run P w = .ok (.slice base (sLen + m) sCap) w' := by
  rcases hu with hu | hu
  all_goals cases base with
  | none =>
    have := hno rfl
    subst this
    simp [Builtin.append_, h0, h1, run_und ht, run_und hu, sizeOf, typeInfo, hi, hlen, hfit, hnew]
  | some a =>
    have := hst a rfl
    simp [Builtin.append_, h0, h1, run_und ht, run_und hu, sizeOf, typeInfo, hi, hlen, hfit, hnew, this]
include hz
theorem append_more (hold : (Builtin.firstCells i.size sLen (.slice base sLen sCap)).run P w.drew = .ok olds w.drew) (hnew : (Builtin.firstCells i.size m vx).run P w.drew = .ok news w.drew) (hg : sCap < sLen + m)
    (h63 : ((sLen + m : Nat) : Int) ≤ 9223372036854775807) (hfit : Builtin.nextslicecap (sLen + m) sCap * i.bytes ≤ 281474976710656) :
    (Builtin.append_ ts ty #[.slice base sLen sCap, vx]).run P w =
      .ok (.slice (some ⟨w.heap.size, 0, none⟩) (sLen + m) (grownCap w (sLen + m) sCap e))
        (w.drew.alloc (.cells (olds ++ news ++ Builtin.zeroCells z.cells (grownCap w (sLen + m) sCap e - (sLen + m))) e)) := by
  have hn : ¬ (sLen + m ≤ sCap) := by omega
  have h63' : ¬ (9223372036854775807 < ((sLen : Int) + (m : Int))) := by omega
  have h48' : ¬ (281474976710656 < Builtin.nextslicecap (sLen + m) sCap * i.bytes) := by omega
  rcases hu with hu | hu
  all_goals simp [Builtin.append_, h0, h1, run_und ht, run_und hu, sizeOf, typeInfo, zeroValue, hi, hz, hlen, hn, h63', h48', Question.forced, hold, hnew, newRow, grownCap]
end

theorem flat_take {n : Nat} : ∀ {l : List PV} (_ : Wide n l) (k : Nat), flat (l.take k) = (flat l).take (k * n)
  | [], _, k => by simp [flat]
  | x :: r, h, 0 => by simp [flat]
  | x :: r, h, k + 1 => by
    have e1 : (k + 1) * n = (cellsOf x).length + k * n := by rw [h.head, Nat.succ_mul]; omega
    simp only [List.take_succ_cons, flat]
    rw [flat_take h.tail k, e1, List.take_length_add_append]
theorem flat_drop {n : Nat} : ∀ {l : List PV} (_ : Wide n l) (k : Nat), flat (l.drop k) = (flat l).drop (k * n)
  | [], _, k => by simp [flat]
  | x :: r, h, 0 => by simp [flat]
  | x :: r, h, k + 1 => by
    have e1 : (k + 1) * n = (cellsOf x).length + k * n := by rw [h.head, Nat.succ_mul]; omega
    simp only [List.drop_succ_cons, flat]
    rw [flat_drop h.tail k, e1, List.drop_length_add_append]
theorem Wide.take {n : Nat} {l : List PV} (h : Wide n l) (k : Nat) : Wide n (l.take k) := fun i e he => by
  rw [List.getElem?_take] at he
  split at he
  · exact h i e he
  · cases he
theorem Wide.drop {n : Nat} {l : List PV} (h : Wide n l) (k : Nat) : Wide n (l.drop k) := fun i e he => by
  rw [List.getElem?_drop] at he; exact h _ e he
theorem Wide.append {n : Nat} {l m : List PV} (h : Wide n l) (h' : Wide n m) : Wide n (l ++ m) := fun i e he => by
  by_cases hi : i < l.length
  · rw [List.getElem?_append_left hi] at he; exact h i e he
  · rw [List.getElem?_append_right (by omega)] at he; exact h' _ e he
/-- What is read of a slice of so many elements, in any world of the same heap. -/
theorem firstCells_ok {P : Program} {w w' : World} {n k : Nat} {a : Addr} {len cap : Nat} {us : List Value} (hl : us.length = k * n) (h : ∀ (p : Nat) (u : Value), us[p]? = some u → w.cell? (a.add p) = some u) (hw : w'.heap = w.heap) : (Builtin.firstCells n k (.slice (some a) len cap)).run P w' = .ok us.toArray w' :=
  run_firstCells_some w' n k a len cap us hl fun j v hv => by rw [← h j v hv]; exact cell?_same (by rw [hw])
theorem firstCells_none {P : Program} (w' : World) (n k len cap : Nat) : (Builtin.firstCells n k (.slice none len cap)).run P w' = .ok #[] w' := by
  simp [Builtin.firstCells]
theorem appended_ok {P : Program} {T : World → Prop} {base : Bs T} {σ : Sg} {w : World} {hp : HP} (hH : HR base σ w hp) {n : Nat} (hn : 0 < n) {x : AV} {v : Value} {new : List PV} (hx : VR σ w x v) (h : appended hp n x = some new) :
    Wide n new ∧ ∃ (us : List Value), (∀ w' : World, (Builtin.lenOf v).run P w' = .ok new.length w') ∧ PW (CR (okS σ) w) (flat new) us ∧ ∀ w' : World, w'.heap = w.heap → (Builtin.firstCells n new.length v).run P w' = .ok us.toArray w' := by
  unfold appended at h
  split at h
  · cases h
    rw [hx.litEq]
    exact ⟨fun i e he => by simp at he, [], fun _ => rfl, PW.nil, fun w' _ => firstCells_none w' _ _ _ _⟩
  · split at h
    · rename_i hs
      subst hs
      cases h
      cases hx with
      | p _ _ hx =>
        cases hx with
        | nil => exact ⟨fun i e he => by simp at he, [], fun _ => rfl, PW.nil, fun w' _ => firstCells_none w' _ _ _ _⟩
        | sl _ _ a cap f hok hlt hcap hrow hrd =>
          obtain ⟨us, h1, h2, h3⟩ := hrow.flat hn hrd
          exact ⟨hrow.len, us, fun _ => rfl, h1, fun w' hw => firstCells_ok h2 h3 hw⟩
    · cases h
  · rename_i sb
    split at h
    · rename_i hs
      subst hs
      cases h
      rw [hx.litEq]
      have hwd : Wide 1 (bytesPV sb) := fun i e he => by
        simp only [bytesPV, List.getElem?_map, Option.map_eq_some_iff] at he
        obtain ⟨b, _, rfl⟩ := he
        rfl
      have hfl : ∀ l : List UInt8, flat (l.map fun b => PV.lit (.int .u8 (b.toNat : Int))) = l.map fun b => PV.lit (.int .u8 (b.toNat : Int)) := fun l => by
        induction l with
        | nil => rfl
        | cons b l ih => simp only [List.map_cons, flat, ih]; rfl
      refine ⟨hwd, sb.data.toList.map fun b => .int .u8 (b.toNat : Int), fun _ => by simp [Builtin.lenOf, bytesPV], ?_, fun w' _ => ?_⟩
      · unfold bytesPV
        rw [hfl]
        refine ⟨by simp, fun j c u hc hu => ?_⟩
        simp only [List.getElem?_map, Option.map_eq_some_iff] at hc hu
        obtain ⟨b, h1, rfl⟩ := hc
        obtain ⟨b', h2, rfl⟩ := hu
        rw [h1] at h2; cases h2
        exact ⟨.lit _, rfl⟩
      · have hex : sb.extract 0 (bytesPV sb).length = sb := by
          have : (bytesPV sb).length = sb.size := by simp [bytesPV]
          rw [this]; exact ByteArray.extract_zero_size
        simp only [Builtin.firstCells, hex, Sem.run_pure]
        congr 1
        apply Array.ext'; simp
    · cases h
  · rename_i b sz i k full
    split at h
    · rename_i hs
      subst hs
      cases hx with
      | sl _ _ _ _ kb cap o _ hσ hks hl ho hn' hf hr =>
        obtain ⟨_, hlt, zz, g1, g2⟩ := hH.blk b kb hσ
        rw [g1] at h
        cases zz with
        | vars l => cases h
        | iter s p => cases h
        | map kc vc l => cases h
        | row s l =>
          simp only [Option.some.injEq] at h; subst h
          obtain ⟨k1, k2, k3⟩ := g2
          have hs : s = sz := by omega
          subst hs
          obtain ⟨f, hrow, hrd⟩ := k3.at
          have hlen : ((l.drop i).take k).length = k := by rw [List.length_take, List.length_drop]; omega
          have hrow' := hrow.sub (n := k) (o := o) (i := i) fun h0 => ho (by omega)
          obtain ⟨us, h1, h2, h3⟩ := hrow'.flat hn (ok := okS σ) fun p e j c he hc => hrd _ e j c (take_drop_at he) hc
          refine ⟨hrow'.len, us, fun _ => by rw [hlen]; rfl, h1, fun w' hw => ?_⟩
          exact firstCells_ok h2 h3 hw
      | slnil _ _ _ hσ =>
        obtain ⟨s, g⟩ := hH.nil b hσ
        rw [g] at h
        simp only [Option.some.injEq] at h; subst h
        exact ⟨fun i e he => by simp at he, [], fun _ => by simp [Builtin.lenOf], by simpa [flat] using (PW.nil : PW (CR (okS σ) w) [] []), fun w' _ => firstCells_none w' _ _ _ _⟩
    · cases h
  · cases h

/-- A block is written and gets a new number. -/
theorem Rel.adopt {T : World → Prop} {base : Bs T} {ups : List (Array Value)} {σ : Sg} {st : St} {vs : Array Value} {w : World} (h : Rel base ups σ st vs w) {b id : Nat} {k : Bk} (hk : σ b = some (some k)) (hn : look (Ax.kill b st).hp id = none) {n : Nat} {l : List PV} {old cs : Array Value} {e : TypeId} {fz : Nat × Nat}
    (hc : w.heap[k.k]? = some (.cells old e fz)) (hs : cs.size = old.size)
    (hx : (∀ j, okS σ j → okS (setS (cutS σ b) id (some ⟨k.k, n, l.length⟩)) j) → RowBlk (setS (cutS σ b) id (some ⟨k.k, n, l.length⟩)) (w.setRow k.k cs) n l k.k) :
    Rel base ups (setS (cutS σ b) id (some ⟨k.k, n, l.length⟩)) ⟨(Ax.kill b st).tm, (Ax.kill b st).up, (id, .row n l) :: (Ax.kill b st).hp⟩ vs (w.setRow k.k cs) := by
  have hK := h.kill b
  have hσ : cutS σ b id = none := hK.hp.none_of hn
  have hok : ∀ j, okS σ j → okS (setS (cutS σ b) id (some ⟨k.k, n, l.length⟩)) j := fun j hj => ⟨hj.1, fun x t hx => by
    by_cases hxi : x = id
    · subst hxi; rw [setS_self] at hx; cases hx; exact hj.2 b k hk
    · rw [setS_ne hxi] at hx; exact (okS_cut hj).2 x t hx⟩
  have hov : ∀ x r', x ≠ b → σ x = some r' → setS (cutS σ b) id (some ⟨k.k, n, l.length⟩) x = some r' := fun x r' hxb hx => by
    have hc : cutS σ b x = some r' := by rw [cutS_at, if_neg hxb]; exact hx
    rw [setS_ne (fun e : x = id => by rw [e, hσ] at hc; cases hc)]; exact hc
  have hback : ∀ x r', setS (cutS σ b) id (some ⟨k.k, n, l.length⟩) x = some r' → (x = id ∧ r' = some ⟨k.k, n, l.length⟩) ∨ (x ≠ id ∧ x ≠ b ∧ σ x = some r') := fun x r' hx => by
    by_cases hxi : x = id
    · subst hxi; rw [setS_self] at hx; exact .inl ⟨rfl, (Option.some.inj hx).symm⟩
    · rw [setS_ne hxi, cutS_at] at hx
      by_cases hxb : x = b
      · rw [if_pos hxb] at hx; cases hx
      · rw [if_neg hxb] at hx; exact .inr ⟨hxi, hxb, hx⟩
  have hE : Ext (okS σ) w (w.setRow k.k cs) := setRow_ext hc hs (not_okS hk)
  have ht : ∀ tm vs, TR σ w tm vs → TR (setS (cutS σ b) id (some ⟨k.k, n, l.length⟩)) (w.setRow k.k cs) (purgeT b tm) vs := fun tm vs ht => ht.ext hE (fun k _ => hok k) fun t a ha => by
    rw [look_purgeT] at ha
    cases hc : look tm t with
    | none => rw [hc] at ha; cases ha
    | some c =>
      rw [hc] at ha
      simp only [Option.map_some, Option.some.injEq] at ha
      subst ha
      rcases purgeA_cases b c with h1 | ⟨h1, h2⟩
      · exact .inl ⟨h1, rfl⟩
      · exact .inr ⟨by rw [h1], fun x hx r' hr' => by rw [h1] at hx; exact hov x r' (fun e => h2 (e ▸ hx)) hr'⟩
  refine ⟨ht _ _ h.tm, h.up.ext ht, ⟨fun x y k1 k2 hx hy e => ?_, h.hp.g, base.keep _ _ (fun j hj => setRow_other w k.k j cs (by have := (h.hp.blk b k hk).1; omega)) h.hp.t, fun x k1 hx' => ?_, fun x hx' => ?_⟩⟩
  · rcases hback x _ hx with ⟨rfl, h1⟩ | ⟨h1, h2, h3⟩ <;> rcases hback y _ hy with ⟨rfl, h4⟩ | ⟨h4, h5, h6⟩
    · rfl
    · cases h1; exact absurd (h.hp.inj y b k2 k h6 hk e.symm) h5
    · cases h4; exact absurd (h.hp.inj x b k1 k h3 hk e) h2
    · exact h.hp.inj x y k1 k2 h3 h6 e
  · rcases hback x _ hx' with ⟨rfl, h1⟩ | ⟨h1, h2, h3⟩
    · cases h1
      obtain ⟨g1, g2, _⟩ := h.hp.blk b k hk
      exact ⟨g1, by simpa using g2, .row n l, by rw [look_cons, if_pos rfl], rfl, rfl, hx hok⟩
    · obtain ⟨g1, g2, y, g3, g4⟩ := h.hp.blk x k1 h3
      have hne : k1.k ≠ k.k := fun e => h2 (h.hp.inj x b k1 k h3 hk e)
      have hsame : (w.setRow k.k cs).heap[k1.k]? = w.heap[k1.k]? := setRow_other w k.k k1.k cs hne
      refine ⟨g1, by simpa using g2, purgeB b y, by rw [look_cons, if_neg (by omega)]; simp only [Ax.kill]; rw [look_purgeH, look_del, if_neg (by omega), g3]; rfl, ?_⟩
      cases y with
      | row sz l => exact ⟨g4.1, g4.2.1, RowBlk.ext g4.2.2 hE (fun k _ => hok k) hsame⟩
      | iter s p => exact ⟨g4.1, hsame.trans g4.2⟩
      | map kc vc l => exact ⟨g4.1, by rw [hsame]; exact g4.2⟩
      | vars l =>
        refine ⟨g4.1, VarsBlk.ext g4.2 hE (fun k _ => hok k) hsame (by simp) fun j a ha => ?_⟩
        simp only [List.getElem?_map, Option.map_eq_some_iff] at ha
        obtain ⟨c, hc, rfl⟩ := ha
        rcases purgeA_cases b c with e1 | ⟨e1, e2⟩
        · exact .inl e1
        · exact .inr ⟨by rw [e1]; exact hc, fun x hx r' hr' => by rw [e1] at hx; exact hov x r' (fun e => e2 (e ▸ hx)) hr'⟩
  · rcases hback x _ hx' with ⟨rfl, h1⟩ | ⟨h1, h2, h3⟩
    · cases h1
    · obtain ⟨sz, g1⟩ := h.hp.nil x h3
      exact ⟨sz, by rw [look_cons, if_neg (by omega)]; simp only [Ax.kill]; rw [look_purgeH, look_del, if_neg (by omega), g1]; rfl⟩
/-- The block of a slice has elements of a type. -/
def Tyd (e : TypeId) (v : Value) (w : World) : Prop := ∀ (a : Addr) (n c : Nat), v = .slice (some a) n c → ∃ (cs : Array Value) (fz : Nat × Nat), w.heap[a.block]? = some (.cells cs e fz)
theorem appU_some {P : Program} {u : TypeId} {x : TypeId} (h : appU P u = some x) : P.underlying u = some (.slice x) ∨ P.underlying u = some .string := by
  unfold appU at h
  split at h
  · rename_i e he; cases h; exact .inl he
  · rename_i he; exact .inr he
  · cases h
theorem append_ok {P : Program} {T : World → Prop} {base : Bs T} {ups : List (Array Value)} {σ : Sg} {st st' : St} {vs : Array Value} {ds : List Deferred} {w : World} (h : Rel base ups σ st vs w) (hb : base.n ≤ w.heap.size) {id : Nat} {t u ty : TypeId} {ts : Array TypeId} (h0 : ts[0]? = some t) (h1 : ts[1]? = some u)
    {s x : AV} {v vx : Value} (hs : VR σ w s v) (hx : VR σ w x vx) {y : AV × List Nat × HP} (hm : append P st.hp id t u s x = some y) {d : Option Tmp} (hd : ∀ t, d = some t → t < vs.size) (ha : addBlks (kills y.2.1 st) d y.1 y.2.2 = some st') :
    ∃ r w', (Builtin.append_ ts ty #[v, vx]).run P w = .ok r w' ∧ (∃ σ', Rel base ups σ' st' ((⟨vs, ds⟩ : Act).put d r).tmps w' ∧ Kept base w w') ∧ ∀ e, elemT P t = some e → Tyd e v w → Tyd e r w' := by
  simp only [append, Option.bind_eq_some_iff] at hm
  obtain ⟨e, he, eu, heu, n, hn, by_, hby, z, hz, new, hnew, hm⟩ := hm
  have ht := elemT_some he
  have hu := appU_some heu
  obtain ⟨zv, _, rfl, ti, hti, htz⟩ := run_zero hz w
  have hsz : ti.size = n := by simpa [sizeT, hti] using hn
  have hbs : ti.bytes = by_ := by simpa [hti] using hby
  split at hm
  · rename_i hc
    obtain ⟨hc1, hc2, hc3⟩ := hc
    obtain ⟨hwide, us, hlenx, hus, hread⟩ := appended_ok (P := P) h.hp hc1 hx hnew
    have hul : us.length = new.length * n := by rw [hus.len, flat_length hwide]
    have hlim : ∀ need old, old < need → need < 2147483648 → Builtin.nextslicecap need old * ti.bytes ≤ 281474976710656 := fun need old h1 h2 => growslice_fits h1 (by rw [hbs]; calc need * by_ ≤ 2147483648 * 4096 := Nat.mul_le_mul (by omega) hc2
                                                                                                                                                  _ ≤ _ := by decide)
    have drop3 : ∀ {v : Value}, (∃ r w', (Builtin.append_ ts ty #[v, vx]).run P w = .ok r w' ∧ (∃ σ', Rel base ups σ' st' ((⟨vs, ds⟩ : Act).put d r).tmps w' ∧ Kept base w w') ∧ ∀ e, elemT P t = some e → Tyd e r w') →
        ∃ r w', (Builtin.append_ ts ty #[v, vx]).run P w = .ok r w' ∧ (∃ σ', Rel base ups σ' st' ((⟨vs, ds⟩ : Act).put d r).tmps w' ∧ Kept base w w') ∧ ∀ e, elemT P t = some e → Tyd e v w → Tyd e r w' :=
      fun ⟨r, w', h1, h2, h3⟩ => ⟨r, w', h1, h2, fun e he _ => h3 e he⟩
    -- a new block
    have grown : ∀ (σ1 : Sg) (st1 : St) (bs : Option Addr) (k cap : Nat) (olds : List PV) (ov : List Value), Rel base ups σ1 st1 vs w → (∀ j, okS σ j → okS σ1 j) → Wide n olds → olds.length = k → PW (CR (okS σ1) w) (flat olds) ov →
        (∀ w' : World, w'.heap = w.heap → (Builtin.firstCells n k (.slice bs k cap)).run P w' = .ok ov.toArray w') → cap < k + new.length → k + new.length < 2147483648 → ∀ st2, addBlks st1 d (.sl id n 0 (olds ++ new).length false) [(id, .row n (olds ++ new))] = some st2 →
        ∃ r w', (Builtin.append_ ts ty #[.slice bs k cap, vx]).run P w = .ok r w' ∧ (∃ σ', Rel base ups σ' st2 ((⟨vs, ds⟩ : Act).put d r).tmps w' ∧ Kept base w w') ∧ ∀ e, elemT P t = some e → Tyd e r w' := by
      intro σ1 st1 bs k cap olds ov hR hok1 hwo hlo hpo hro hcap hlt st2 hadd
      have hrun := append_more (P := P) (w := w) (ty := ty) h0 h1 hu ht hti htz hlenx (base := bs) (sLen := k) (sCap := cap) (by rw [hsz]; exact hro w.drew rfl) (by rw [hsz]; exact hread w.drew rfl) hcap (by omega) (hlim _ _ hcap hlt)
      have hge := grownCap_ge w (k + new.length) cap e
      have hzs : zv.cells.size = n := by
        cases zv <;> simp [valPV, cellsOf, Value.cells] at hc3 ⊢ <;> omega
      have hg : Grow w (w.drew.alloc (.cells (ov.toArray ++ us.toArray ++ Builtin.zeroCells zv.cells (grownCap w (k + new.length) cap e - (k + new.length))) e)) := (Grow.drew w).trans (Grow.alloc w.drew _)
      have hov : ov.length = k * n := by rw [hpo.len, flat_length hwo, hlo]
      have hpw : PW (CR (okS σ1) w) (flat (olds ++ new)) (ov ++ us) := by
        rw [flat_append]
        exact hpo.append (hus.imp fun a v hv => ⟨hv.1.ext (Ext.refl _ _) fun k _ => hok1 k, hv.2⟩)
      have hfr : look st1.hp id = none := by
        unfold addBlks at hadd
        split at hadd
        · rename_i hf; exact fresh_look _ _ hf id _ (by simp [look]; rfl)
        · cases hadd
      have hN := new_row (σ := σ1) (w := w) (id := id) (n := n) (l := olds ++ new) (us := ov ++ us) (cap := grownCap w (k + new.length) cap e) (full := false) hg rfl (hR.hp.none_of hfr) (fun b t ht => (hR.hp.blk b t ht).2.1) (hwo.append hwide) hpw (fun p q hq => by
        have hlt' : p < (ov ++ us).length := (List.getElem?_eq_some_iff.1 hq).1
        simp only [List.append_toArray, ← List.append_assoc] at hq ⊢
        rw [Array.getElem?_append_left (by simpa using hlt')]
        simpa using hq) (by simp [hlo]; omega) (fun h => by cases h) (by
        simp only [Array.size_append, List.size_toArray, size_zeroCells, hzs, hov, hul, ← Nat.add_mul]
        congr 1; omega)
      rw [show (olds ++ new).length = k + new.length by simp [hlo]] at hN hadd
      obtain ⟨σ', hσ'⟩ := hR.new (ds := ds) hN hb hd hadd
      refine ⟨_, _, hrun, ⟨σ', hσ'⟩, fun e' he' a n c hr => ?_⟩
      rw [he] at he'
      cases he'
      cases hr
      exact ⟨_, _, heap_alloc_new w.drew _⟩
    -- what is read of the old row
    have olds_of : ∀ (b sz i k : Nat) (l : List PV) (kb : Bk) (cap o : Nat), σ b = some (some kb) → kb.sz = sz → i + k ≤ kb.n → (0 < cap → o = i * sz) → k ≤ cap → look st.hp b = some (.row sz l) → sz = n → ((l.drop i).take k).length = k ∧ Wide n ((l.drop i).take k) ∧
        ∃ ov : List Value, PW (CR (okS σ) w) (flat ((l.drop i).take k)) ov ∧ ∀ w' : World, w'.heap = w.heap → (Builtin.firstCells n k (.slice (some ⟨kb.k, o, none⟩) k cap)).run P w' = .ok ov.toArray w' := by
      intro b sz i k l kb cap o hσ hks hl ho hkc hlook hsn
      subst hsn
      obtain ⟨_, hlt, zz, g1, g2⟩ := h.hp.blk b kb hσ
      rw [hlook] at g1
      cases g1
      obtain ⟨k1, k2, k3⟩ := g2
      obtain ⟨f, hrow, hrd⟩ := k3.at
      have hlen : ((l.drop i).take k).length = k := by rw [List.length_take, List.length_drop]; omega
      have hrow' := hrow.sub (n := k) (o := o) (i := i) fun h0 => ho (by omega)
      obtain ⟨ov, q1, q2, q3⟩ := hrow'.flat hc1 (ok := okS σ) fun p e j c he hc => hrd _ e j c (take_drop_at he) hc
      rw [hlen] at q2
      exact ⟨hlen, hrow'.len, ov, q1, fun w' hw => firstCells_ok q2 q3 hw⟩
    have nilfit : new = [] → ∀ (bs : Option Addr) (k cap : Nat), k ≤ cap → (Builtin.append_ ts ty #[.slice bs k cap, vx]).run P w = .ok (.slice bs k cap) w := fun hne bs k cap hk => by
      have hus0 : us = [] := List.eq_nil_of_length_eq_zero (by rw [hul, hne]; simp)
      have := append_fit (P := P) (w := w) (ty := ty) h0 h1 hu ht hti hlenx (base := bs) (sLen := k) (sCap := cap) (news := us.toArray) (by rw [hsz]; exact hread w rfl) (by rw [hne]; simpa using hk) (w' := w) (fun a _ => by rw [hus0]; rfl) (fun _ => rfl)
      simpa [hne] using this
    split at hm
    · split at hm
      · rename_i hlt
        cases hm
        rw [hs.litEq]
        by_cases hne : new = []
        · subst hne
          obtain ⟨σ', hσ'⟩ := h.new (ds := ds) (v := .slice none 0 0) (NewR.of_nil (σ := σ) (w := w) (id := id) (sz := n) (.slnil id n false (setS_self _ _ _))) hb hd ha
          exact ⟨_, w, nilfit rfl _ _ _ (Nat.le_refl _), ⟨σ', hσ'⟩, fun _ _ h => h⟩
        · exact drop3 <| grown σ st none 0 0 [] [] h (fun _ h => h) (fun i e he => by simp at he) rfl PW.nil (fun w' _ => firstCells_none w' _ _ _ _) (by have := List.length_pos_iff.2 hne; omega) (by omega) st' (by simpa [kills] using ha)
      · cases hm
    · rename_i b sz i k full
      split at hm
      · rename_i sz' l hlook
        split at hm
        · rename_i hcc
          obtain ⟨hsn, hlt⟩ := hcc
          split at hm
          · rename_i hfull
            subst hfull
            split at hm
            · cases hm
              obtain ⟨σ', hσ'⟩ := h.new (ds := ds) (NewR.of_val hs) hb hd ha
              cases hs with
              | sl _ _ _ _ kb cap o _ hσ hks hl ho hn' hf hr => exact ⟨_, w, nilfit rfl _ _ _ hn', ⟨σ', hσ'⟩, fun _ _ h => h⟩
              | slnil => exact ⟨_, w, nilfit rfl _ _ _ (Nat.le_refl _), ⟨σ', hσ'⟩, fun _ _ h => h⟩
            · rename_i hne
              cases hm
              have hpos : 0 < new.length := by
                cases new with
                | nil => exact absurd rfl hne
                | cons => simp
              cases hs with
              | sl _ _ _ _ kb cap o _ hσ hks hl ho hn' hf hr =>
                have hsz' : sz' = sz := by
                  obtain ⟨_, _, zz, g1, g2⟩ := h.hp.blk b kb hσ
                  rw [hlook] at g1; cases g1
                  have := g2.1; omega
                subst hsz'
                obtain ⟨q1, q2, ov, q3, q4⟩ := olds_of b sz' i k l kb cap o hσ hks hl ho hn' hlook hsn
                exact drop3 <| grown σ st _ k cap _ ov h (fun _ h => h) q2 q1 q3 q4 (by have := hf rfl; omega) hlt st' ha
              | slnil _ _ _ hσ =>
                obtain ⟨s', g⟩ := h.hp.nil b hσ
                rw [hlook] at g; cases g
                exact drop3 <| grown σ st none 0 0 [] [] h (fun _ h => h) (fun i e he => by simp at he) rfl PW.nil (fun w' _ => firstCells_none w' _ _ _ _) (by omega) (by omega) st' (by simpa [kills] using ha)
          · rename_i hfull
            have hfull : full = false := by simpa using hfull
            subst hfull
            split at hm
            · rename_i hi0
              subst hi0
              cases hm
              simp only [kills] at ha
              cases hs with
              | slnil _ _ _ hσ =>
                obtain ⟨s', g⟩ := h.hp.nil b hσ
                rw [hlook] at g; cases g
                by_cases hne : new = []
                · subst hne
                  obtain ⟨σ', hσ'⟩ := (h.kill b).new (ds := ds) (v := .slice none 0 0) (NewR.of_nil (σ := cutS σ b) (w := w) (id := id) (sz := n) (.slnil id n false (setS_self _ _ _))) hb hd (by simpa using ha)
                  exact ⟨_, w, nilfit rfl _ _ _ (Nat.le_refl _), ⟨σ', hσ'⟩, fun _ _ h => h⟩
                · exact drop3 <| grown (cutS σ b) (Ax.kill b st) none 0 0 [] [] (h.kill b) (fun _ h => okS_cut h) (fun i e he => by simp at he) rfl PW.nil (fun w' _ => firstCells_none w' _ _ _ _) (by have := List.length_pos_iff.2 hne; omega) (by omega) st' (by simpa using ha)
              | sl _ _ _ _ kb cap o _ hσ hks hl ho hn' hf hr =>
                obtain ⟨hbk, hltk, zz, g1, g2⟩ := h.hp.blk b kb hσ
                have g1' := g1
                rw [hlook] at g1'; cases g1'
                obtain ⟨k1, k2, k3⟩ := g2
                have hsz' : sz' = sz := by omega
                subst hsz'
                subst hsn
                have htk : (l.take k).length = k := by rw [List.length_take]; omega
                by_cases hfit : k + new.length ≤ cap
                · -- in place
                  obtain ⟨hw, cs, et, us0, f1, f2, f3⟩ := k3.toFlat hc1
                  obtain ⟨cs2, e2, fz2, r1, r2⟩ := hr rfl
                  rw [f1] at r1; cases r1
                  have hfr : look (Ax.kill b st).hp id = none := by
                    unfold addBlks at ha
                    split at ha
                    · rename_i hf; exact fresh_look _ _ hf id _ (by simp [look]; rfl)
                    · cases ha
                  have hu0 : us0.length = l.length * sz' := by rw [f2.len, flat_length hw]
                  have hone : ∀ q ∈ us, q.oneCell' = true := fun q hq => by
                    obtain ⟨j, hj⟩ := List.getElem?_of_mem hq
                    have hlt : j < (flat new).length := by rw [← hus.len]; exact (List.getElem?_eq_some_iff.1 hj).1
                    exact (hus.at_ j _ q (List.getElem?_eq_getElem hlt) hj).2
                  have hmulk : k * sz' ≤ l.length * sz' := Nat.mul_le_mul_right _ (by omega)
                  have hroom : k * sz' + us.length ≤ cs.size := by rw [hul, ← Nat.add_mul, r2]; exact Nat.mul_le_mul_right _ (by omega)
                  have hrun : ∃ cs' : Array Value, cs'.size = cs.size ∧ (Builtin.append_ ts ty #[.slice (some ⟨kb.k, o, none⟩) k cap, vx]).run P w = .ok (.slice (some ⟨kb.k, o, none⟩) (k + new.length) cap) (w.setRow kb.k cs') ∧
                      ∀ (p : Nat) (q : Value), (us0.take (k * sz') ++ us)[p]? = some q → cs'[p]? = some q := by
                    have hpre : ∀ (p : Nat) (q : Value), (us0.take (k * sz') ++ us)[p]? = some q → (setFrom cs.toList (k * sz') us)[p]? = some q := fun p q hq => by
                      rw [setFrom_get _ _ _ _ (by simpa using hroom)]
                      have htl : (us0.take (k * sz')).length = k * sz' := by rw [List.length_take]; omega
                      by_cases hp : p < k * sz'
                      · rw [List.getElem?_append_left (by omega), List.getElem?_take, if_pos hp] at hq
                        rw [if_neg (by omega)]
                        simpa using f3 p q hq
                      · rw [List.getElem?_append_right (by omega), htl] at hq
                        have : p - k * sz' < us.length := (List.getElem?_eq_some_iff.1 hq).1
                        rw [if_pos (by omega)]; exact hq
                    by_cases hcap : cap = 0
                    · have hk0 : k = 0 := by omega
                      have hn0 : new = [] := List.eq_nil_of_length_eq_zero (by omega)
                      have hus0 : us = [] := List.eq_nil_of_length_eq_zero (by rw [hul, hn0]; simp)
                      refine ⟨cs, rfl, ?_, fun p q hq => ?_⟩
                      · rw [setRow_self w kb.k cs _ _ f1]
                        have := nilfit hn0 (some ⟨kb.k, o, none⟩) k cap hn'
                        simpa [hn0] using this
                      · rw [hus0, hk0] at hq; simp at hq
                    · have ho' := ho (by omega)
                      have hst := run_storeCells_at P kb.k (0 + k * sz') _ us 0 cs w f1 (by omega) hone
                      have hset : cs.toList.take (k * sz') ++ us ++ cs.toList.drop (k * sz' + us.length) = setFrom cs.toList (k * sz') us := by
                        have h2 := setFrom_mid (cs.toList.take (k * sz')) ((cs.toList.drop (k * sz')).take us.length) (cs.toList.drop (k * sz' + us.length)) us (by simp; omega)
                        rw [← h2]
                        have h3 : (cs.toList.take (k * sz')).length = k * sz' := by simp; omega
                        rw [h3]
                        congr 1
                        rw [List.append_assoc, ← List.drop_drop, List.take_append_drop, List.take_append_drop]
                      simp only [Nat.add_zero, Nat.zero_add, hset] at hst
                      refine ⟨(setFrom cs.toList (k * sz') us).toArray, by simp [setFrom_length], ?_, fun p q hq => by simpa using hpre p q hq⟩
                      refine append_fit (P := P) (w := w) (ty := ty) h0 h1 hu ht hti hlenx (news := us.toArray) (by rw [hsz]; exact hread w rfl) hfit (fun a ha => ?_) (fun h => by cases h)
                      cases ha
                      rw [hsz, ho', add_at]
                      simpa using hst
                  obtain ⟨cs', hsize, hrun, hpre⟩ := hrun
                  have hE : Ext (okS σ) w (w.setRow kb.k cs') := setRow_ext f1 hsize (not_okS hσ)
                  have hlen2 : (l.take k ++ new).length = k + new.length := by simp [htk]
                  have hR := h.adopt hσ hfr (n := sz') (l := l.take k ++ new) f1 hsize fun hok =>
                    RowBlk.of_flat (us := us0.take (k * sz') ++ us) ((hw.take k).append hwide) (setRow_heap _ _ _ _ _ _ f1) (by
                      rw [flat_append, flat_take hw]
                      exact ((f2.take (k * sz')).append hus).ext hE fun j _ => hok j) hpre
                  unfold addBlks at ha
                  split at ha
                  · cases ha
                    have hvr : VR (setS (cutS σ b) id (some ⟨kb.k, sz', (l.take k ++ new).length⟩)) (w.setRow kb.k cs') (.sl id sz' 0 (l.take k ++ new).length false) (.slice (some ⟨kb.k, o, none⟩) (k + new.length) cap) := by
                      rw [hlen2]
                      exact .sl id sz' 0 (k + new.length) ⟨kb.k, sz', k + new.length⟩ cap o false (setS_self _ _ _) rfl (by simp) ho hfit (fun h => by cases h) fun _ => ⟨cs', _, _, setRow_heap _ _ _ _ _ _ f1, by rw [hsize, r2]⟩
                    refine ⟨_, _, hrun, ⟨_, ⟨hR.tm.putO hd hvr, hR.up, hR.hp⟩, setRow_kept hbk⟩, fun e' he' hty a n c hr' => ?_⟩
                    cases hr'
                    obtain ⟨cs1, fz1, h1⟩ := hty _ _ _ rfl
                    exact ⟨_, _, setRow_heap _ _ _ _ _ _ h1⟩
                  · cases ha
                · obtain ⟨q1, q2, ov, q3, q4⟩ := olds_of b sz' 0 k l kb cap o hσ hks hl ho hn' hlook rfl
                  simp only [List.drop_zero] at q1 q2 q3
                  exact drop3 <| grown (cutS σ b) (Ax.kill b st) _ k cap _ ov (h.kill b) (fun _ h => okS_cut h) q2 q1 (q3.ext (Ext.refl _ _) fun j _ hj => okS_cut hj) q4 (by omega) hlt st' ha
            · cases hm
        · cases hm
      · cases hm
    · cases hm
  · cases hm
theorem tyAp_ok {P : Program} {σ : Sg} {w : World} {t u : TypeId} {s : AV} {q : Option Nat × AV} {v : Value} (h : tyAp P t u s = some q) (hs : VR σ w s v) : VR σ w q.2 v ∧ ∀ e, q.1 = some e → elemT P t = some e ∧ Tyd e v w := by
  unfold tyAp at h
  split at h
  · simp only [Option.bind_eq_some_iff] at h
    obtain ⟨e, he, h⟩ := h
    split at h
    · cases h
      refine ⟨hs, fun e' h' => ?_⟩
      cases h'
      rw [hs.litEq]
      exact ⟨he, fun a n c h => by cases h⟩
    · split at h
      · rename_i hee
        subst hee
        cases h
        cases hs with
        | tsl _ _ _ _ _ _ hs ht =>
          refine ⟨hs, fun e' h' => ?_⟩
          cases h'
          refine ⟨he, fun a n c hv => ?_⟩
          subst hv
          cases hs with
          | sl _ _ _ _ k _ _ _ hσ => exact ht k hσ
      · cases h
    · cases h; exact ⟨hs, fun e' h' => by cases h'⟩
  · cases h; exact ⟨hs, fun e' h' => by cases h'⟩
theorem reTy_ok {σ : Sg} {w : World} {te : Option Nat} {a : AV} {v : Value} (h : VR σ w a v) (ht : ∀ e, te = some e → Tyd e v w) : VR σ w (reTy te a) v := by
  unfold reTy
  split
  · rename_i e b z i n
    refine .tsl e b z i n v h fun k hk => ?_
    cases h with
    | sl _ _ _ _ k' _ _ _ hσ =>
      rw [hσ] at hk; cases hk
      exact ht e rfl _ _ _ rfl
    | slnil _ _ _ hσ => rw [hσ] at hk; cases hk
  · exact h
/-- 'append', where the type of the row's elements may be kept in mind. -/
theorem appendT_ok {P : Program} {T : World → Prop} {base : Bs T} {ups : List (Array Value)} {σ : Sg} {st st' : St} {vs : Array Value} {ds : List Deferred} {w : World} (h : Rel base ups σ st vs w) (hb : base.n ≤ w.heap.size) {id : Nat} {t u ty : TypeId} {ts : Array TypeId} (h0 : ts[0]? = some t) (h1 : ts[1]? = some u)
    {s x : AV} {v vx : Value} (hs : VR σ w s v) (hx : VR σ w x vx) {q : Option Nat × AV} (hq : tyAp P t u s = some q) {y : AV × List Nat × HP} (hm : append P st.hp id t u q.2 x = some y) {d : Option Tmp} (hd : ∀ t, d = some t → t < vs.size) (ha : addBlks (kills y.2.1 st) d (reTy q.1 y.1) y.2.2 = some st') :
    ∃ r w', (Builtin.append_ ts ty #[v, vx]).run P w = .ok r w' ∧ ∃ σ', Rel base ups σ' st' ((⟨vs, ds⟩ : Act).put d r).tmps w' ∧ Kept base w w' := by
  obtain ⟨hv, hty⟩ := tyAp_ok hq hs
  have hf : fresh y.2.2 (kills y.2.1 st).hp = true := by
    unfold addBlks at ha
    split at ha
    · assumption
    · cases ha
  have ha2 : addBlks (kills y.2.1 st) d y.1 y.2.2 = some ⟨putO d y.1 (kills y.2.1 st).tm, (kills y.2.1 st).up, y.2.2 ++ (kills y.2.1 st).hp⟩ := by
    unfold addBlks; rw [if_pos hf]
  obtain ⟨r, w', h2, ⟨σ', h3, h4⟩, h5⟩ := append_ok (ds := ds) (ty := ty) h hb h0 h1 hv hx hm hd ha2
  refine ⟨r, w', h2, σ', ?_, h4⟩
  unfold addBlks at ha
  rw [if_pos hf] at ha
  cases ha
  refine ⟨fun s' a ha => ?_, h3.up, h3.hp⟩
  cases d with
  | none => exact h3.tm s' a ha
  | some d =>
    simp only [putO] at ha
    rw [look_cons] at ha
    by_cases hs' : d = s'
    · subst hs'
      rw [if_pos rfl] at ha; cases ha
      obtain ⟨r', g1, g2⟩ := h3.tm d y.1 (by simp only [putO]; rw [look_cons, if_pos rfl])
      have hr : r' = r := by
        have hd := hd d rfl
        simp [Act.put, hd] at g1
        exact g1.symm
      subst hr
      exact ⟨r', g1, reTy_ok g2 fun e he => h5 e (hty e he).1 (hty e he).2⟩
    · rw [if_neg hs'] at ha
      exact h3.tm s' a (by simp only [putO]; rw [look_cons, if_neg hs']; exact ha)
end Go.Proofs.YtalfnpdgajfkiaaDoor.Ax
