/- 'Ax', part 13: operations that write: store, append. -/
import Derived.Test.YtalfnpdgajfkiaaDoorAx12
import Derived.Laws.CopyRow
set_option linter.unusedVariables false
set_option linter.unusedSimpArgs false
namespace Go.Proofs.YtalfnpdgajfkiaaDoor.Ax
open Go

/-! ### A block is written -/
theorem setRow_kept {T : World → Prop} {base : Bs T} {w : World} {k : Nat} {cs : Array Value} (hb : base.n ≤ k) : Kept base w (w.setRow k cs) :=
  ⟨rfl, rfl, rfl, by simp, fun j hj => setRow_other w k j cs (by omega)⟩
theorem setRow_ext {ok : Nat → Prop} {w : World} {k : Nat} {old cs : Array Value} {e : TypeId} {fz : Nat × Nat} (hk : w.heap[k]? = some (.cells old e fz)) (hs : cs.size = old.size) (ho : ¬ ok k) : Ext ok w (w.setRow k cs) := by
  refine ⟨rfl, rfl, rfl, by simp, fun j hj hok => setRow_other w k j cs (fun e => ho (e ▸ hok)), fun j c e' fz' h => ?_⟩
  by_cases hjk : j = k
  · subst hjk
    rw [hk] at h; cases h
    exact ⟨cs, fz, setRow_heap w j old cs e fz hk, hs⟩
  · exact ⟨c, fz', by rw [setRow_other w k j cs hjk]; exact h, rfl⟩
theorem not_okS {σ : Sg} {b : Nat} {k : Bk} (h : σ b = some (some k)) : ¬ okS σ k.k := fun ho => ho.2 b k h rfl
theorem Rel.writeTo {T : World → Prop} {base : Bs T} {ups : List (Array Value)} {σ : Sg} {st : St} {vs : Array Value} {w w' : World} (h : Rel base ups σ st vs w) {b : Nat} {k : Bk} (hk : σ b = some (some k)) (hE : Ext (okS σ) w w') (hsize : w'.heap.size = w.heap.size) (hother : ∀ j, j ≠ k.k → w'.heap[j]? = w.heap[j]?)
    {x : Blk} (hx : BR σ w' k x) : Rel base ups σ ⟨st.tm, st.up, (b, x) :: del st.hp b⟩ vs w' := by
  have ht : ∀ tm vs, TR σ w tm vs → TR σ w' tm vs := fun tm vs ht => ht.ext hE (fun _ _ h => h) fun s a ha => .inr ⟨ha, fun _ _ _ h => h⟩
  refine ⟨ht _ _ h.tm, h.up.ext' ht, ⟨h.hp.inj, h.hp.g, base.keep _ _ (fun j hj => hother j (by have := (h.hp.blk b k hk).1; omega)) h.hp.t, fun c t hc' => ?_, fun c hc' => ?_⟩⟩
  · obtain ⟨h1, h2, y, h3, h4⟩ := h.hp.blk c t hc'
    by_cases hcb : b = c
    · subst hcb
      rw [hk] at hc'; cases hc'
      exact ⟨h1, by rw [hsize]; exact h2, x, by rw [look_cons, if_pos rfl], hx⟩
    · have hne : t.k ≠ k.k := fun e => hcb (h.hp.inj c b t k hc' hk e).symm
      refine ⟨h1, by rw [hsize]; exact h2, y, by rw [look_cons, if_neg hcb, look_del, if_neg hcb]; exact h3, ?_⟩
      have hsame := hother t.k hne
      cases y with
      | row s l => exact ⟨h4.1, h4.2.1, RowBlk.ext h4.2.2 hE (fun _ _ h => h) hsame⟩
      | iter s p => exact ⟨h4.1, hsame.trans h4.2⟩
      | map kc vc l => exact ⟨h4.1, by rw [hsame]; exact h4.2⟩
      | vars l => exact ⟨h4.1, VarsBlk.ext h4.2 hE (fun _ _ h => h) hsame rfl fun j a ha => .inr ⟨ha, fun _ _ _ h => h⟩⟩
  · obtain ⟨s, g⟩ := h.hp.nil c hc'
    have hcb : b ≠ c := fun e => by rw [← e, hk] at hc'; cases hc'
    exact ⟨s, by rw [look_cons, if_neg hcb, look_del, if_neg hcb]; exact g⟩
theorem Rel.write {T : World → Prop} {base : Bs T} {ups : List (Array Value)} {σ : Sg} {st : St} {vs : Array Value} {w : World} (h : Rel base ups σ st vs w) {b : Nat} {k : Bk} (hk : σ b = some (some k)) {old cs : Array Value} {e : TypeId} {fz : Nat × Nat}
    (hc : w.heap[k.k]? = some (.cells old e fz)) (hs : cs.size = old.size) {x : Blk} (hx : BR σ (w.setRow k.k cs) k x) : Rel base ups σ ⟨st.tm, st.up, (b, x) :: del st.hp b⟩ vs (w.setRow k.k cs) :=
  h.writeTo hk (setRow_ext hc hs (not_okS hk)) (by simp) (fun j hj => setRow_other w k.k j cs hj) hx

/-! ### Store -/
theorem run_storeVar {P : Program} {w : World} {t : TypeId} {n k o : Nat} (hn : sizeT P t = some n) {cur : Array Value} {e : TypeId} (hc : w.heap[k]? = some (.cells cur e (0, 0))) {v : Value} {us : List Value} (hv : v.cells = us.toArray) (hl : us.length = n)
    (ho : o + n ≤ cur.size) (h1 : ∀ u ∈ us, u.oneCell' = true) : (Instr.storeAt t (.pointer (some ⟨k, o, none⟩)) v).run P w = .ok () (w.setRow k (setFrom cur.toList o us).toArray) := by
  have := run_storeCells_at P k o e us 0 cur w hc (by omega) h1
  simp only [Nat.add_zero] at this
  have hsz : ¬ (us.toArray.size ≠ n) := by simp [hl]
  have hset : cur.toList.take o ++ us ++ cur.toList.drop (o + us.length) = setFrom cur.toList o us := by
    have h2 := setFrom_mid (cur.toList.take o) ((cur.toList.drop o).take us.length) (cur.toList.drop (o + us.length)) us (by simp; omega)
    rw [← h2]
    have h3 : (cur.toList.take o).length = o := by simp; omega
    rw [h3]
    congr 1
    rw [List.append_assoc, ← List.drop_drop, List.take_append_drop, List.take_append_drop]
  simp only [Instr.storeAt, Instr.sureAddr, Sem.run_bind, Sem.run_pure, Result.andThen_ok, storeVar, run_size hn, hv, if_neg hsz, Sem.run_ite, List.toList_toArray, this, hset]
theorem flat_set {n : Nat} : ∀ {l : List PV} (_ : Wide n l) {i j : Nat} {e e' : PV} {xs : List PV}, l[i]? = some e → j + xs.length ≤ n → cellsOf e' = setFrom (cellsOf e) j xs → flat (l.set i e') = setFrom (flat l) (i * n + j) xs := by
  intro l
  induction l with
  | nil => intro _ i j e e' xs h; simp at h
  | cons x r ih =>
    intro hl i j e e' xs h hj he
    have hx := hl.head
    cases i with
    | zero =>
      simp at h; subst h
      simp only [List.set_cons_zero, flat, he, Nat.zero_mul, Nat.zero_add]
      apply List.ext_getElem?
      intro q
      rw [setFrom_get _ _ _ _ (by simp; omega)]
      by_cases hq : q < (cellsOf x).length
      · rw [List.getElem?_append_left (by rw [setFrom_length]; exact hq), setFrom_get _ _ _ _ (by omega), List.getElem?_append_left hq]
      · rw [List.getElem?_append_right (by rw [setFrom_length]; omega), if_neg (by omega), List.getElem?_append_right (by omega), setFrom_length]
    | succ i =>
      simp only [List.set_cons_succ, flat]
      rw [ih hl.tail (by simpa using h) hj he]
      have hlt : i < r.length := (List.getElem?_eq_some_iff.1 (by simpa using h)).1
      have hfl : (flat r).length = r.length * n := flat_length hl.tail
      have hmul : i * n + n ≤ r.length * n := by rw [← Nat.succ_mul]; exact Nat.mul_le_mul_right _ hlt
      apply List.ext_getElem?
      intro q
      rw [setFrom_get _ _ _ _ (by simp only [List.length_append]; rw [hx, hfl, Nat.succ_mul]; omega)]
      by_cases hq : q < (cellsOf x).length
      · rw [List.getElem?_append_left hq, List.getElem?_append_left hq, if_neg (by rw [Nat.succ_mul]; omega)]
      · rw [List.getElem?_append_right (by omega), List.getElem?_append_right (by omega), setFrom_get _ _ _ _ (by rw [hfl]; omega), hx]
        have e1 : (i + 1) * n = i * n + n := Nat.succ_mul i n
        by_cases hc : i * n + j ≤ q - n ∧ q - n < i * n + j + xs.length
        · rw [if_pos hc, if_pos (by rw [e1]; omega)]
          congr 1; rw [e1]; omega
        · rw [if_neg hc, if_neg (by rw [e1]; omega)]
theorem Wide.set {n : Nat} {l : List PV} (h : Wide n l) {i : Nat} {e : PV} (he : (cellsOf e).length = n) : Wide n (l.set i e) := fun q x hx => by
  by_cases hq : i = q
  · subst hq
    have hlt : i < l.length := by have := (List.getElem?_eq_some_iff.1 hx).1; simpa using this
    rw [List.getElem?_set_self hlt] at hx; cases hx; exact he
  · rw [List.getElem?_set_ne hq] at hx; exact h q x hx
theorem pureAVs_cells {hp : HP} : ∀ {l : List AV} {xs : List PV}, pureAVs hp l = some xs → l.all isCell = true → xs.length = l.length ∧ ∀ x, x ∈ xs → cellsOf x = [x]
  | [], xs, h, _ => by simp only [pureAVs, Option.some.injEq] at h; subst h; simp
  | a :: r, xs, h, hc => by
    simp only [pureAVs, Option.bind_eq_some_iff, Option.map_eq_some_iff] at h
    obtain ⟨x, hx, t, ht, rfl⟩ := h
    simp only [List.all_cons, Bool.and_eq_true] at hc
    obtain ⟨h1, h2⟩ := pureAVs_cells ht hc.2
    refine ⟨by simp [h1], fun y hy => ?_⟩
    rcases List.mem_cons.1 hy with rfl | hy
    · have hc1 := hc.1
      cases a with
      | p z =>
        simp only [pureAV, Option.some.injEq] at hx; subst hx
        cases z <;> first | rfl | (simp [isCell] at hc1)
      | sl b sz i n f =>
        simp only [pureAV] at hx
        split at hx
        · cases hx; rfl
        · cases hx
      | agg l => simp [isCell] at hc1
      | fn f c =>
        cases c with
        | nil => simp only [pureAV, Option.some.injEq] at hx; subst hx; rfl
        | cons => simp [pureAV] at hx
      | _ => simp [pureAV] at hx
    · exact h2 y hy
theorem setPV_cells {e : PV} {j : Nat} {xs : List PV} (hx : ∀ x, x ∈ xs → cellsOf x = [x]) (hj : j + xs.length ≤ (cellsOf e).length) : cellsOf (setPV e j xs) = setFrom (cellsOf e) j xs := by
  cases e with
  | agg cs => rfl
  | _ =>
    simp only [cellsOf, List.length_singleton] at hj
    match xs, hx, hj with
    | [], _, _ => rfl
    | [x], hx, hj =>
      have : j = 0 := by simp at hj; omega
      subst this
      exact hx x (by simp)
    | _ :: _ :: _, _, hj => exfalso; simp at hj; omega
theorem RowBlk.toFlat {σ : Sg} {w : World} {n : Nat} (hn : 0 < n) {l : List PV} {k : Nat} (h : RowBlk σ w n l k) : Wide n l ∧ ∃ (cs : Array Value) (e : TypeId) (us : List Value), w.heap[k]? = some (.cells cs e (0, 0)) ∧ PW (CR (okS σ) w) (flat l) us ∧ ∀ (p : Nat) (u : Value), us[p]? = some u → cs[p]? = some u := by
  obtain ⟨f, hrow, hrd⟩ := h.at
  obtain ⟨us, h1, h2, h3⟩ := hrow.flat hn hrd
  obtain ⟨cs, e, fz, f', g1, g2, g3, _⟩ := h.ex
  have : fz = (0, 0) := g2
  subst this
  exact ⟨g3, cs, e, us, g1, h1, fun p u hu => by have := h3 p u hu; rw [add_at, cell_at g1, Nat.zero_add] at this; exact this⟩
theorem PW.ext {ok ok' : Nat → Prop} {w w' : World} {l : List PV} {us : List Value} (h : PW (CR ok w) l us) (hE : Ext ok w w') (hok : ∀ k, k < w.heap.size → ok k → ok' k) : PW (CR ok' w') l us :=
  h.imp fun a v hv => ⟨hv.1.ext hE hok, hv.2⟩
theorem store_ok {P : Program} {T : World → Prop} {base : Bs T} {ups : List (Array Value)} {σ : Sg} {st : St} {vs : Array Value} {w : World} (h : Rel base ups σ st vs w) {t : TypeId} {a x : AV} {va vx : Value} (ha : VR σ w a va) (hx : VR σ w x vx) {hp' : HP} (hm : store P st.hp t a x = some hp') :
    ∃ w', (Instr.storeAt t va vx).run P w = .ok () w' ∧ Rel base ups σ ⟨st.tm, st.up, hp'⟩ vs w' ∧ Kept base w w' := by
  simp only [store, Option.bind_eq_some_iff] at hm
  obtain ⟨n, hn, hm⟩ := hm
  split at hm
  · rename_i hc
    obtain ⟨hc1, hc2⟩ := hc
    obtain ⟨us, hus, hpw⟩ := hx.cellsPW hc2
    have hone : ∀ u ∈ us, u.oneCell' = true := fun u hu => by
      obtain ⟨j, hj⟩ := List.getElem?_of_mem hu
      have hlt : j < (cellsAV x).length := by rw [← hpw.len]; exact (List.getElem?_eq_some_iff.1 hj).1
      exact (hpw.at_ j _ u (List.getElem?_eq_getElem hlt) hj).2
    have hul : us.length = n := by rw [hpw.len, hc1]
    split at hm
    · rename_i b sz i j
      cases ha with
      | ptr _ _ _ _ k hk hks =>
        obtain ⟨hbk, hlt, z, h1, h2⟩ := h.hp.blk b k hk
        rw [h1] at hm
        cases z with
        | row sz' l =>
          simp only [Option.bind_eq_some_iff] at hm
          obtain ⟨xs, hxs, e, he, hm⟩ := hm
          split at hxs
          · rename_i hr
            split at hm
            · rename_i hj
              obtain ⟨hj0, hj⟩ := hj
              cases hm
              obtain ⟨g1, g2, g3⟩ := h2
              have hs : sz' = sz := by omega
              subst hs
              obtain ⟨hw, cs, et, us0, f1, f2, f3⟩ := g3.toFlat hj0
              obtain ⟨p1, p2⟩ := pureAVs_cells hxs hc2
              have hsz : (cellsOf e).length = sz' := hw i e he
              have hxpw : PW (CR (okS σ) w) xs us := by
                have := pureAVs_ok h.hp (ok := okS σ) (fun k hk => hk) (cellsAV x) xs us hxs ⟨hpw.len, fun j a u ha hu => (hpw.at_ j a u ha hu).1⟩ (fun b k hb => by rw [hr] at hb; simp at hb)
                exact ⟨this.len, fun j c u hc hu => ⟨this.at_ j c u hc hu, hone u (List.mem_of_getElem? hu)⟩⟩
              have hil : i < l.length := (List.getElem?_eq_some_iff.1 he).1
              have hmul : i * sz' + sz' ≤ l.length * sz' := by rw [← Nat.succ_mul]; exact Nat.mul_le_mul_right _ hil
              have hu0 : us0.length = l.length * sz' := by rw [f2.len, flat_length hw]
              have hcs : us0.length ≤ cs.size := by
                cases hz : us0.length with
                | zero => omega
                | succ q =>
                  have hq : q < us0.length := by omega
                  have := f3 q _ (List.getElem?_eq_getElem hq)
                  have := (Array.getElem?_eq_some_iff.1 this).1
                  omega
              have hrun := run_storeVar (P := P) (t := t) (w := w) (k := k.k) (o := i * sz' + j) hn f1 hus hul (by omega) hone
              have hE : Ext (okS σ) w (w.setRow k.k (setFrom cs.toList (i * sz' + j) us).toArray) := setRow_ext f1 (by simp [setFrom_length]) (not_okS hk)
              refine ⟨_, hrun, h.write hk f1 (by simp [setFrom_length]) ⟨g1, by simpa using g2, RowBlk.of_flat (us := setFrom us0 (i * sz' + j) us) (hw.set (by rw [setPV_cells p2 (by omega), setFrom_length]; exact hsz)) (setRow_heap _ _ _ _ _ _ f1) ?_ ?_⟩, setRow_kept hbk⟩
              · rw [flat_set hw he (by omega) (setPV_cells p2 (by omega))]
                exact (f2.setFrom hxpw (by rw [flat_length hw]; omega)).ext hE fun _ _ h => h
              · intro p u hu
                rw [setFrom_get _ _ _ _ (by omega)] at hu
                simp only [List.getElem?_toArray]
                rw [setFrom_get _ _ _ _ (by simp; omega)]
                split at hu
                · rename_i hc; rw [if_pos hc]; exact hu
                · rename_i hc; rw [if_neg hc]; simpa using f3 p u hu
            · cases hm
          · cases hxs
        | iter s p => cases hm
        | map kc vc l => cases hm
        | vars l =>
          simp only at hm
          split at hm
          · rename_i hj
            obtain ⟨rfl, hj⟩ := hj
            cases hm
            obtain ⟨cs, et, fz, f1, f2, f3, f4⟩ := h2.2.ex
            have : fz = (0, 0) := f2
            subst this
            have hrun := run_storeVar (P := P) (t := t) (w := w) (k := k.k) (o := 0 * sz + j) hn f1 hus hul (by omega) hone
            have hE : Ext (okS σ) w (w.setRow k.k (setFrom cs.toList (0 * sz + j) us).toArray) := setRow_ext f1 (by simp [setFrom_length]) (not_okS hk)
            refine ⟨_, hrun, h.write hk f1 (by simp [setFrom_length]) ⟨h2.1, _, et, (0, 0), setRow_heap _ _ _ _ _ _ f1, rfl, by simp [setFrom_length, f3], fun q a u ha hu => ?_⟩, setRow_kept hbk⟩
            have hpw2 : PW (VR σ w) (setFrom l j (cellsAV x)) (setFrom cs.toList j us) := PW.setFrom ⟨by simpa using f3, fun j a v ha hv => f4 j a v ha (by simpa using hv)⟩ ⟨hpw.len, fun j a u ha hu => (hpw.at_ j a u ha hu).1⟩ (by omega)
            simp only [Nat.zero_mul, Nat.zero_add, List.getElem?_toArray] at hu
            exact (hpw2.at_ q a u ha hu).ext hE (fun _ _ h => h) fun _ _ _ h => h
          · cases hm
    · cases hm
  · cases hm
end Go.Proofs.YtalfnpdgajfkiaaDoor.Ax
