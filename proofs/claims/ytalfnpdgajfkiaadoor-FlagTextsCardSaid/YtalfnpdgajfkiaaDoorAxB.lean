/- 'Ax', Builders: copyCheck and String of strings.Builder, as functions that are walked in place; over any program and any numbers. -/
import Derived.Test.YtalfnpdgajfkiaaDoorAx23
import Derived.Test.YtalfnpdgajfkiaaDoorAxQ
import Derived.Shelf.Strings.Builder1
set_option linter.unusedVariables false
set_option linter.unusedSimpArgs false
namespace Go.Proofs.YtalfnpdgajfkiaaDoor.Ax
open Go Go.Shelf Go.RowKit
variable {P : Program} {ρ : Ren}

set_option maxHeartbeats 2000000 in
set_option maxRecDepth 100000 in
/-- String, whatever the buffer is: what the two builtins give, it gives. -/
theorem string_walk (L : Lays.n169 P ρ) (X : Builder.Extra P ρ) (b : Nat) (q : Option Addr) (n c : Nat) (pp : Option Addr) (s : ByteArray) (w w1 w2 : World)
    (c1 : w.drew.cell? ⟨b, 1, none⟩ = some (.slice q n c)) (hSD : (Builtin.unsafeSliceData_ #[(ρ.t 37)] (ρ.t 127) #[.slice q n c]).run P w.drew = .ok (.pointer pp) w1)
    (c2 : w1.cell? ⟨b, 1, none⟩ = some (.slice q n c)) (hUS : (Builtin.unsafeString_ #[(ρ.t 127), (ρ.t 3)] (ρ.t 9) #[.pointer pp, .int .i64 n]).run P w1 = .ok (.string s) w2) :
    Calls P (ρ.f 169) #[.pointer (some ⟨b, 0, none⟩)] w fun e w' => e = .returned (.string s) ∧ w' = w2 := by
  have mixed := L.mixed
  have t72 := L.t72; have a72 := L.a72; have z72 := L.z72; have v72 := L.v72; have u72 := run_underlying L.t72
  have t70 := L.t70; have a70 := L.a70; have z70 := L.z70; have v70 := L.v70; have u70 := run_underlying L.t70
  have t37 := L.t37; have a37 := L.a37; have z37 := L.z37; have v37 := L.v37; have u37 := run_underlying L.t37
  have t127 := L.t127; have a127 := L.a127; have z127 := L.z127; have v127 := L.v127; have u127 := run_underlying L.t127
  have t3 := L.t3; have a3 := L.a3; have z3 := L.z3; have v3 := L.v3; have u3 := run_underlying L.t3
  have t9 := L.t9; have a9 := L.a9; have z9 := L.z9; have v9 := L.v9; have u9 := run_underlying L.t9
  have t5 := X.t5; have a5 := X.a5; have z5 := X.z5; have v5 := X.v5; have u5 := run_underlying X.t5
  go_enter L.f169, Body.n169_ntmps ρ
  go_wp2
  go_region_o
  all_goals (go_wp2; go_ret; exact ⟨rfl, rfl⟩)
/-- A block is written and lost. -/
theorem Rel.lose {T : World → Prop} {base : Bs T} {ups : List (Array Value)} {σ : Sg} {st : St} {vs : Array Value} {w w' : World} (h : Rel base ups σ st vs w) {b : Nat} {k : Bk} (hk : σ b = some (some k)) (hE : Ext (okS σ) w w') (hsize : w'.heap.size = w.heap.size)
    (hother : ∀ j, j ≠ k.k → w'.heap[j]? = w.heap[j]?) : Rel base ups (cutS σ b) (Ax.kill b st) vs w' := by
  have hσ : ∀ x r, cutS σ b x = some r → x ≠ b ∧ σ x = some r := fun x r hx => by
    rw [cutS_at] at hx
    by_cases hxb : x = b
    · rw [if_pos hxb] at hx; cases hx
    · rw [if_neg hxb] at hx; exact ⟨hxb, hx⟩
  have hov : ∀ x r, x ≠ b → σ x = some r → cutS σ b x = some r := fun x r hxb hx => by rw [cutS_at, if_neg hxb]; exact hx
  have ht : ∀ tm vs, TR σ w tm vs → TR (cutS σ b) w' (purgeT b tm) vs := fun tm vs ht => ht.ext hE (fun k _ => okS_cut) fun t a ha => by
    rw [look_purgeT] at ha
    cases hc : look tm t with
    | none => rw [hc] at ha; cases ha
    | some c =>
      rw [hc] at ha
      simp only [Option.map_some, Option.some.injEq] at ha
      subst ha
      rcases purgeA_cases b c with h1 | ⟨h1, h2⟩
      · exact .inl ⟨h1, rfl⟩
      · exact .inr ⟨by rw [h1], fun x hx r' hr' => by rw [h1] at hx; exact hov x r' (fun e => h2 (e ▸ hx)) hr'⟩
  refine ⟨ht _ _ h.tm, h.up.ext ht, ⟨fun x y k1 k2 hx hy e => h.hp.inj x y k1 k2 (hσ x _ hx).2 (hσ y _ hy).2 e, h.hp.g, base.keep _ _ (fun j hj => hother j (by have := (h.hp.blk b k hk).1; omega)) h.hp.t, fun x k1 hx => ?_, fun x hx => ?_⟩⟩
  · obtain ⟨hne, hs⟩ := hσ x _ hx
    obtain ⟨g1, g2, y, g3, g4⟩ := h.hp.blk x k1 hs
    have hnk : k1.k ≠ k.k := fun e => hne (h.hp.inj x b k1 k hs hk e)
    have hsame := hother k1.k hnk
    refine ⟨g1, by rw [hsize]; exact g2, purgeB b y, by simp only [Ax.kill]; rw [look_purgeH, look_del, if_neg (by omega), g3]; rfl, ?_⟩
    cases y with
    | row sz l => exact ⟨g4.1, g4.2.1, RowBlk.ext g4.2.2 hE (fun k _ => okS_cut) hsame⟩
    | iter s p => exact ⟨g4.1, hsame.trans g4.2⟩
    | map kc vc l => exact ⟨g4.1, by rw [hsame]; exact g4.2⟩
    | vars l =>
      refine ⟨g4.1, VarsBlk.ext g4.2 hE (fun k _ => okS_cut) hsame (by simp) fun j a ha => ?_⟩
      simp only [List.getElem?_map, Option.map_eq_some_iff] at ha
      obtain ⟨c, hc, rfl⟩ := ha
      rcases purgeA_cases b c with e1 | ⟨e1, e2⟩
      · exact .inl e1
      · exact .inr ⟨by rw [e1]; exact hc, fun x hx r' hr' => by rw [e1] at hx; exact hov x r' (fun e => e2 (e ▸ hx)) hr'⟩
  · obtain ⟨hne, hs⟩ := hσ x _ hx
    obtain ⟨sz, g1⟩ := h.hp.nil x hs
    exact ⟨sz, by simp only [Ax.kill]; rw [look_purgeH, look_del, if_neg (by omega), g1]; rfl⟩
theorem vars2 {T : World → Prop} {base : Bs T} {σ : Sg} {w : World} {hp : HP} (hH : HR base σ w hp) {b : Nat} {k : Bk} (hk : σ b = some (some k)) {a0 a1 : AV} (hl : look hp b = some (.vars [a0, a1])) :
    ∃ (v0 v1 : Value) (e : TypeId), w.heap[k.k]? = some (.cells #[v0, v1] e (0, 0)) ∧ VR σ w a0 v0 ∧ VR σ w a1 v1 := by
  obtain ⟨_, _, y, h3, h4⟩ := hH.blk b k hk
  rw [hl] at h3; cases h3
  obtain ⟨cs, e, fz, g1, g2, g3, g4⟩ := h4.2.ex
  have g2 : fz = (0, 0) := g2
  subst g2
  obtain ⟨l⟩ := cs
  match l, g3 with
  | [v0, v1], _ => exact ⟨v0, v1, e, g1, g4 0 a0 v0 rfl rfl, g4 1 a1 v1 rfl rfl⟩
theorem setCell_at {w : World} {k : Nat} {cs : Array Value} {e : TypeId} {fz : Nat × Nat} (h : w.heap[k]? = some (.cells cs e fz)) (o : Nat) (v : Value) :
    (w.setCell ⟨k, o, none⟩ v).heap[k]? = some (.cells (cs.setIfInBounds o v) e fz) := by
  simp only [World.setCell]
  rw [Array.getElem?_modify, if_pos rfl, h]
  rfl
theorem setCell_other (w : World) (k o j : Nat) (v : Value) (h : j ≠ k) : (w.setCell ⟨k, o, none⟩ v).heap[j]? = w.heap[j]? := by
  simp only [World.setCell]
  rw [Array.getElem?_modify, if_neg (fun e => h e.symm)]
theorem setCell_size (w : World) (a : Addr) (v : Value) : (w.setCell a v).heap.size = w.heap.size := by simp [World.setCell]
theorem freeze_other (w : World) (k o n j : Nat) (h : j ≠ k) : (w.freeze ⟨k, o, none⟩ n).heap[j]? = w.heap[j]? := by
  unfold World.freeze
  split
  · rfl
  · simp only []
    rw [Array.getElem?_modify, if_neg (fun e => h e.symm)]
theorem freeze_size (w : World) (a : Addr) (n : Nat) : (w.freeze a n).heap.size = w.heap.size := by
  unfold World.freeze
  split <;> simp
theorem freeze_at {w : World} {k : Nat} {cs : Array Value} {e : TypeId} {fz : Nat × Nat} (h : w.heap[k]? = some (.cells cs e fz)) (o n : Nat) : ∃ fz', (w.freeze ⟨k, o, none⟩ n).heap[k]? = some (.cells cs e fz') := by
  unfold World.freeze
  split
  · exact ⟨fz, h⟩
  · obtain ⟨lo, hi⟩ := fz
    simp only []
    rw [Array.getElem?_modify, if_pos rfl, h]
    exact ⟨_, rfl⟩
/-- One block is written, and keeps its shape. -/
theorem Ext.of_one {ok : Nat → Prop} {w w' : World} {k : Nat} (h1 : w'.os = w.os) (h2 : w'.tape = w.tape) (h3 : w'.output = w.output) (hs : w'.heap.size = w.heap.size) (ho : ∀ j, j ≠ k → w'.heap[j]? = w.heap[j]?) (hno : ¬ ok k)
    (hat : ∀ (cs : Array Value) (e : TypeId) (fz : Nat × Nat), w.heap[k]? = some (.cells cs e fz) → ∃ (cs' : Array Value) (fz' : Nat × Nat), w'.heap[k]? = some (.cells cs' e fz') ∧ cs'.size = cs.size) : Ext ok w w' := by
  refine ⟨h1, h2, h3, by omega, fun j hj hok => ho j (fun e => hno (e ▸ hok)), fun j c e fz h => ?_⟩
  by_cases hjk : j = k
  · subst hjk; exact hat c e fz h
  · exact ⟨c, fz, (ho j hjk).trans h, rfl⟩

theorem copyCheck_ip {E : Env} (L : Lays.n240 E.P ρ) (X : Builder.X72 E.P ρ) : IpOK E (ρ.f 240) (copyCheckH (ρ.t 72)) := by
  intro args hp up K r h
  unfold copyCheckH at h
  split at h
  · rename_i b
    split at h
    · rename_i b' t a1 hl
      split at h
      · rename_i hbt
        obtain ⟨hb1, hb2⟩ := hbt
        have hb1 := hb1.symm
        subst hb1
        subst hb2
        refine ⟨⟨_, L.f240, by kernel_rfl, rfl⟩, fun base σ w us ups ha hu hH hb => ?_⟩
        match us, ha with
        | [u], ha =>
          have hv := ha.at_ 0 _ u rfl rfl
          cases hv with
          | ptr _ _ _ _ k hσ hk =>
            obtain ⟨v0, v1, e, g1, g2, g3⟩ := vars2 hH hσ hl
            cases g2 with
            | son _ _ k' _ hσ' ht hv0 =>
              rw [hσ] at hσ'; cases hσ'
              obtain ⟨cs, fz, g4, _⟩ := ht
              rw [g1] at g4
              cases g4
              have hc0 : w.cell? ⟨k.k, 0, none⟩ = some v0 := by rw [cell_at g1]; rfl
              rcases hv0 with rfl | rfl
              · refine (Any.Builder_copyCheck_fresh L X k.k w hc0 (by simp [World.shape?, g1]) (by simp [World.frozen?, g1])).mono ?_
                rintro e w' ⟨rfl, rfl⟩
                have hat := setCell_at g1 0 (.pointer (some ⟨k.k, 0, none⟩))
                have hE : Ext (okS σ) w (w.setCell ⟨k.k, 0, none⟩ (.pointer (some ⟨k.k, 0, none⟩))) := .of_one rfl rfl rfl (setCell_size _ _ _) (fun j hj => setCell_other w k.k 0 j _ hj) (not_okS hσ) fun cs e fz hc => by
                  rw [g1] at hc; cases hc
                  exact ⟨_, _, hat, by simp⟩
                have hR : Rel base ups σ ⟨[], up, hp⟩ #[] w := ⟨fun s a ha => by simp [look] at ha, hu, hH⟩
                have hW := hR.writeTo hσ hE (setCell_size _ _ _) (fun j hj => setCell_other w k.k 0 j _ hj) (x := .vars [.son b (ρ.t 72), a1]) ⟨hk, ⟨_, _, _, hat, rfl, rfl, fun j a v ha hv => by
                  match j with
                  | 0 =>
                    simp at ha hv; subst ha; subst hv
                    exact .son b (ρ.t 72) k _ hσ ⟨_, _, hat, rfl⟩ (.inr rfl)
                  | 1 =>
                    simp at ha hv; subst ha; subst hv
                    exact g3.ext hE (fun _ _ h => h) fun _ _ _ h => h
                  | j + 2 => simp at ha⟩⟩
                refine ⟨[], hp, up, σ, h, .tup [] [] rfl fun j a v ha => by simp at ha, hW.up, hW.hp.weaken fun c x hx => ?_, ⟨rfl, rfl, rfl, by rw [setCell_size]; exact Nat.le_refl _, fun j hj => setCell_other w k.k 0 j _ (by have := (hH.blk b k hσ).1; omega)⟩⟩
                rw [look_cons] at hx
                by_cases hcb : b = c
                · subst hcb; rw [if_pos rfl] at hx; cases hx; exact hl
                · rw [if_neg hcb, look_del, if_neg hcb] at hx; exact hx
              · refine (Any.Builder_copyCheck_used L X k.k w hc0).mono ?_
                rintro e w' ⟨rfl, rfl⟩
                exact ⟨[], hp, up, σ, h, .tup [] [] rfl fun j a v ha => by simp at ha, hu, hH, Kept.refl _ _⟩
        | [], ha => exact absurd ha.len (by simp)
        | _ :: _ :: _, ha => exact absurd ha.len (by simp)
      · cases h
    · cases h
  · cases h

/-! ### String -/
theorem toBA_cells {l : List PV} (h : l.all okU8 = true) : ∀ (j : Nat) (x : UInt8), (toBA l).data.toList[j]? = some x → l[j]? = some (.lit (.int .u8 (x.toNat : Int))) := by
  intro j x hx
  simp only [toBA, List.getElem?_map, Option.map_eq_some_iff] at hx
  obtain ⟨y, hy, rfl⟩ := hx
  have := List.all_eq_true.1 h y (List.mem_of_getElem? hy)
  rw [hy]
  congr 1
  unfold okU8 at this
  split at this
  · rename_i n
    simp only [Bool.and_eq_true, ltI_eq, leI_eq, decide_eq_true_eq] at this
    have h2 : n.toNat < 256 := by omega
    simp only [getI]
    congr 2
    rw [UInt8.toNat_ofNat', Nat.mod_eq_of_lt h2]
    omega
  · cases this
theorem Rel.grown {T : World → Prop} {base : Bs T} {ups : List (Array Value)} {σ : Sg} {st : St} {vs : Array Value} {w w' : World} (h : Rel base ups σ st vs w) (hb : base.n ≤ w.heap.size) (hg : Grow w w') : ∃ σ', Rel base ups σ' st vs w' ∧ ∀ b r, σ b = some r → σ' b = some r := by
  obtain ⟨σ', _, _, h2, h3, h4, h5⟩ := (NewR.of_grow (σ := σ) (a := .dead) (v := undef) hg (.dead _)).join h.hp hb (by rfl)
  have ht : ∀ tm vs, TR σ w tm vs → TR σ' w' tm vs := fun tm vs ht => ht.ext h3 h4 fun s a ha => .inr ⟨ha, fun b _ r hr => h5 b r hr⟩
  exact ⟨σ', ⟨ht _ _ h.tm, h.up.ext' ht, by simpa using h2⟩, h5⟩
theorem Grow.of_below {w w' : World} (h : Below w.heap.size w w') : Grow w w' := ⟨h.os, h.tape, h.output, h.size, h.block⟩
theorem string_ip {E : Env} (L : Lays.n169 E.P ρ) (X : Builder.Extra E.P ρ) : IpOK E (ρ.f 169) (stringH (ρ.t 72) (ρ.t 5)) := by
  intro args hp up K r h
  have hEn : Enters E.P (ρ.f 169) := ⟨_, L.f169, by kernel_rfl, rfl⟩
  unfold stringH at h
  split at h
  · rename_i b
    split at h
    · rename_i b' t hl
      split at h
      · rename_i hbt
        obtain ⟨hb1, hb2⟩ := hbt
        have hb1 := hb1.symm
        subst hb1
        subst hb2
        refine ⟨hEn, fun base σ w us ups ha hu hH hb => ?_⟩
        match us, ha with
        | [u], ha =>
          have hv := ha.at_ 0 _ u rfl rfl
          cases hv with
          | ptr _ _ _ _ k hσ hk =>
            obtain ⟨v0, v1, e, g1, g2, g3⟩ := vars2 hH hσ hl
            have := g3.litEq
            subst this
            cases g2 with
            | son _ _ k' _ hσ' ht hv0 =>
              rw [hσ] at hσ'; cases hσ'
              obtain ⟨cs, fz, g4, _⟩ := ht
              rw [g1] at g4
              cases g4
              refine (Any.Builder_String_nil L X w.heap.size k.k v0 w g1).mono ?_
              rintro e w' ⟨rfl, hB⟩
              have hR : Rel base ups σ ⟨[], up, hp⟩ #[] w := ⟨fun s a ha => by simp [look] at ha, hu, hH⟩
              obtain ⟨σ', hR', _⟩ := hR.grown hb (.of_below hB)
              exact ⟨_, hp, up, σ', h, VR.lit _ _ _, hR'.up, hR'.hp, (Grow.of_below hB).kept hb⟩
        | [], ha => exact absurd ha.len (by simp)
        | _ :: _ :: _, ha => exact absurd ha.len (by simp)
      · cases h
    · rename_i b' t e' id n hl
      split at h
      · rename_i hbt
        obtain ⟨hb1, hb2, hb3⟩ := hbt
        have hb1 := hb1.symm
        subst hb1
        subst hb2
        subst hb3
        split at h
        · rename_i l hrow
          cases hok2 : (l.take n).all okU8 && decide (n ≤ 9223372036854775807) with
          | false => rw [hok2, cond_false] at h; cases h
          | true =>
            rw [hok2, cond_true] at h
            simp only [Bool.and_eq_true, decide_eq_true_eq] at hok2
            obtain ⟨hok, hn63⟩ := hok2
            refine ⟨hEn, fun base σ w us ups ha hu hH hb => ?_⟩
            have hR : Rel base ups σ ⟨[], up, hp⟩ #[] w := ⟨fun s a ha => by simp [look] at ha, hu, hH⟩
            -- where nothing turns
            have still : ∀ {w' : World}, Grow w w' → n = 0 → ∃ rs hp' up' σ', K rs hp' up' = some r ∧ VR σ' w' (resTup rs) (.string ⟨#[]⟩) ∧ UR σ' w' up' ups ∧ HR base σ' w' hp' ∧ Kept base w w' := fun hg hn => by
              obtain ⟨σ', hR', _⟩ := hR.grown hb hg
              have hK := hR'.kill id
              refine ⟨_, _, _, _, h, ?_, hK.up, hK.hp, hg.kept hb⟩
              subst hn
              exact VR.lit _ _ _
            match us, ha with
            | [u], ha =>
              have hv := ha.at_ 0 _ u rfl rfl
              cases hv with
              | ptr _ _ _ _ k hσ hk =>
                obtain ⟨v0, v1, e, g1, g2, g3⟩ := vars2 hH hσ hl
                cases g2 with
                | son _ _ k' _ hσ' ht hv0 =>
                  rw [hσ] at hσ'; cases hσ'
                  obtain ⟨cs, fz, g4, _⟩ := ht
                  rw [g1] at g4
                  cases g4
                  cases g3 with
                  | tsl _ _ _ _ _ _ g3 hty =>
                    cases g3 with
                    | slnil _ _ _ hσ2 =>
                      refine (Any.Builder_String_nil L X w.heap.size k.k v0 w g1).mono ?_
                      rintro e w' ⟨rfl, hB⟩
                      exact still (.of_below hB) rfl
                    | sl _ _ _ _ k2 cap o _ hσ2 hk2 hln ho hncap hf hr =>
                      obtain ⟨cs2, fz2, g5⟩ := hty k2 hσ2
                      have c1 : w.drew.cell? ⟨k.k, 1, none⟩ = some (.slice (some ⟨k2.k, o, none⟩) n cap) := by
                        rw [cell_at (w := w.drew) g1]; rfl
                      have hne : k.k ≠ k2.k := fun e => by
                        have := hH.inj b id k k2 hσ hσ2 e
                        rw [this, hrow] at hl; cases hl
                      by_cases hn : n = 0
                      · subst hn
                        by_cases hcap : cap = 0
                        · subst hcap
                          have hlt : k.k < w.heap.size := (Array.getElem?_eq_some_iff.1 g1).1
                          refine (string_walk L X k.k (some ⟨k2.k, o, none⟩) 0 0 (some ⟨w.drew.heap.size, 0, none⟩) .empty w (w.drew.alloc (.view ⟨k2.k, o, none⟩ (ρ.t 5))) _ c1
                            (Lib.run_unsafeSliceData_zero w.drew _ _ (ρ.t 5) L.t127 ⟨k2.k, o, none⟩ 0 (ρ.t 5, cs2.size) (by have g5' : w.drew.heap[k2.k]? = some (.cells cs2 (ρ.t 5) fz2) := g5; simp [World.shape?, g5']))
                            (by rw [cell_at (w := w.drew.alloc (.view ⟨k2.k, o, none⟩ (ρ.t 5))) ((Lib.alloc_old w.drew _ k.k hlt).trans g1)]; rfl) (Any.unsafeString_none L X _ _)).mono ?_
                          rintro e w' ⟨rfl, rfl⟩
                          exact still ((Grow.drew w).trans (Grow.alloc w.drew _)) rfl
                        · refine (string_walk L X k.k (some ⟨k2.k, o, none⟩) 0 cap _ .empty w w.drew _ c1 (Lib.run_unsafeSliceData_row _ _ _ _ _ _ hcap) c1 (Any.unsafeString_none L X _ _)).mono ?_
                          rintro e w' ⟨rfl, rfl⟩
                          exact still (Grow.drew w) rfl
                      · have ho2 : o = 0 := by have := ho (by omega); omega
                        subst ho2
                        obtain ⟨_, hlt2, y, h3, h4⟩ := hH.blk id k2 hσ2
                        rw [hrow] at h3; cases h3
                        obtain ⟨q1, q2, q3⟩ := h4
                        obtain ⟨cs, e1, fz, f, f1, f2, f3, f4, f5⟩ := q3.ex
                        rw [g5] at f1; cases f1
                        obtain ⟨cs3, e3, fz3, r1, r2⟩ := hr rfl
                        rw [g5] at r1; cases r1
                        have hlen : (toBA (l.take n)).data.toList.length = n := by simp [toBA]; omega
                        have hcells := toBA_cells hok
                        have hUS := Lib.run_unsafeString_row (P := E.P) w.drew (ρ.t 127) (ρ.t 3) (ρ.t 9) (ρ.t 5) L.t127 X.cellsByte k2.k cs2.size (by have g5' : w.drew.heap[k2.k]? = some (.cells cs2 (ρ.t 5) fz2) := g5; simp [World.shape?, g5']) (toBA (l.take n)).data.toList
                          (fun h0 => by rw [h0] at hlen; simp at hlen; omega) (by omega) (by omega) (fun j x hx => by
                            have hj := hcells j x hx
                            rw [List.getElem?_take] at hj
                            split at hj
                            · have := (f4 j _ 0 _ hj rfl).1
                              have h6 := f5 j _ 0 _ hj rfl
                              have h7 : f j 0 = .int .u8 (x.toNat : Int) := by
                                generalize f j 0 = v at h6
                                cases h6; rfl
                              rw [add_at, cell_at (w := w.drew) g5, Nat.zero_add]
                              rw [h7] at this
                              simpa using this
                            · cases hj)
                        rw [hlen] at hUS
                        refine (string_walk L X k.k (some ⟨k2.k, 0, none⟩) n cap _ _ w w.drew _ c1 (Lib.run_unsafeSliceData_row _ _ _ _ _ _ (by omega)) c1 hUS).mono ?_
                        rintro e w' ⟨rfl, rfl⟩
                        have hE : Ext (okS σ) w (w.drew.freeze ⟨k2.k, 0, none⟩ n) := .of_one (by unfold World.freeze; split <;> rfl) (by unfold World.freeze; split <;> rfl) (by unfold World.freeze; split <;> rfl) (freeze_size _ _ _) (fun j hj => freeze_other w.drew k2.k 0 n j hj) (not_okS hσ2) fun cs e fz hc => by
                          obtain ⟨fz', h7⟩ := freeze_at (w := w.drew) hc 0 n
                          exact ⟨cs, fz', h7, rfl⟩
                        have hK := hR.lose hσ2 hE (freeze_size _ _ _) (fun j hj => freeze_other w.drew k2.k 0 n j hj)
                        refine ⟨_, _, _, _, h, ?_, hK.up, hK.hp, ⟨hE.os, hE.tape, hE.output, hE.size, fun j hj => freeze_other w.drew k2.k 0 n j (by have := (hH.blk id k2 hσ2).1; omega)⟩⟩
                        exact VR.lit _ _ _
            | [], ha => exact absurd ha.len (by simp)
            | _ :: _ :: _, ha => exact absurd ha.len (by simp)
        · cases h
      · cases h
    · cases h
  · cases h
end Go.Proofs.YtalfnpdgajfkiaaDoor.Ax
