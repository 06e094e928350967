/- 'Ax', functions that are told, with what goes on behind them: how they are handed to an environment; Cut, HasPrefix, Itoa, Atoi. -/
import Derived.Test.YtalfnpdgajfkiaaDoorAx23
import Derived.Test.YtalfnpdgajfkiaaDoorAxQ
import Derived.Lib.Strings
import Derived.Lib.IndexMore
import Derived.Lib.ItoaNum
import Derived.Test.YtalfnpdgajfkiaaDoorAxB
import Derived.Lib.AtoiAll
set_option linter.unusedVariables false
set_option linter.unusedSimpArgs false
namespace Go.Proofs.YtalfnpdgajfkiaaDoor.Ax
open Go

/-- A function is told by h; fl: its results' slices hold no slices. -/
def PkOK (P : Program) (T : World → Prop) (fl : Bool) (g : FuncId) (h : PK) : Prop := ∀ (m : List (List (Option Nat)) × Bool) (_ : m.2 = fl) (xs : List PV) (K : List PV → R) (r : List PV), h xs K = some r → ∃ rs, K rs = some r ∧ Told P T m g xs rs
theorem Told.weak {P : Program} {T : World → Prop} {m m' : List (List (Option Nat)) × Bool} {g : FuncId} {xs rs : List PV} (h : Told P T m g xs rs) (hm : m.2 = m'.2) : Told P T m' g xs rs := by
  obtain ⟨h1, h2⟩ := h
  exact ⟨h1, fun ok w vs ht hp => hm ▸ h2 ok w vs ht hp⟩
/-- A result that has no slices: nothing that was there has turned. -/
theorem told_of_grow {P : Program} {T : World → Prop} {m : List (List (Option Nat)) × Bool} {g : FuncId} {xs rs : List PV} (hE : Enters P g) (hnb : ∀ id, (resAV id rs).2 = [])
    (h : ∀ (ok : Nat → Prop) (w : World) (vs : List Value), T w → PW (Rd ok w) xs vs → Calls P g vs.toArray w fun e w' => ∃ v, e = .returned v ∧ Grow w w' ∧ ∀ (σ : Sg) (id : Nat), VR σ w' (resAV id rs).1 v) : Told P T m g xs rs := by
  refine ⟨hE, fun ok w vs ht hp => (h ok w vs ht hp).mono ?_⟩
  rintro e w' ⟨v, rfl, hg, hv⟩
  intro σ id _ _ _ _
  have := NewR.of_grow hg (hv σ id)
  rw [hnb]
  exact this
theorem pw1 {ok : Nat → Prop} {w : World} {a : Value} {vs : List Value} (h : PW (Rd ok w) [.lit a] vs) : vs = [a] := by
  match vs, h with
  | [v], h =>
    have := h.at_ 0 _ v rfl rfl
    cases this; rfl
  | [], h => exact absurd h.len (by simp)
  | _ :: _ :: _, h => exact absurd h.len (by simp)
theorem pw2 {ok : Nat → Prop} {w : World} {a b : Value} {vs : List Value} (h : PW (Rd ok w) [.lit a, .lit b] vs) : vs = [a, b] := by
  match vs, h with
  | [u, v], h =>
    have h1 := h.at_ 0 _ u rfl rfl
    have h2 := h.at_ 1 _ v rfl rfl
    cases h1; cases h2; rfl
  | [], h => exact absurd h.len (by simp)
  | [_], h => exact absurd h.len (by simp)
  | _ :: _ :: _ :: _, h => exact absurd h.len (by simp)
theorem cond_some {b : Bool} {x y : R} {r : List PV} (h : cond b x y = some r) : (b = true ∧ x = some r) ∨ (b = false ∧ y = some r) := by
  cases b
  · exact .inr ⟨rfl, h⟩
  · exact .inl ⟨rfl, h⟩
theorem Grow.drewN (w : World) (n : Nat) : Grow w (w.drewN n) := ⟨rfl, rfl, rfl, Nat.le_refl _, fun _ _ => rfl⟩

/-! ### Environments by lists -/
def funOK (fn : Func) : Bool := !(fn.name == "runtime.NumGoroutine") && match fn.body with
  | some c => dstsOK fn.ntmps c
  | none => true
def PksOK (P : Program) (T : World → Prop) (sg : SigT) (pk : List (Nat × PK)) : Prop := ∀ g h m, look pk g = some h → look sg g = some m → PkOK P T m.2 g h
theorem PksOK.nil {P : Program} {T : World → Prop} {sg : SigT} : PksOK P T sg [] := fun g h m hh => by simp [look] at hh
theorem PksOK.cons {P : Program} {T : World → Prop} {sg : SigT} {pk : List (Nat × PK)} (h : PksOK P T sg pk) {g : Nat} {q : PK} (hq : ∀ m, look sg g = some m → PkOK P T m.2 g q) : PksOK P T sg ((g, q) :: pk) := fun g' h' m hh hm => by
  simp only [look] at hh
  split at hh
  · rename_i e; subst e; cases hh; exact hq m hm
  · exact h g' h' m hh hm
theorem mkE_ok {P : Program} {T : World → Prop} {sg : SigT} {pk : List (Nat × PK)} {ip : List (Nat × (List AV → HP → List TM → (List AV → HP → List TM → R) → R))} {mk : List (Nat × Nat × Mask)} (hmix : P.follows .mixedOrders = true) (hall : P.funcs.toList.all funOK = true)
    (htab : ∃ n0, (∀ w, T w → n0 ≤ w.heap.size) ∧ ∀ w w' : World, (∀ k, k < n0 → w'.heap[k]? = w.heap[k]?) → T w → T w') (hip : ∀ g h, look ip g = some h → IpOK (mkE P T sg pk ip mk) g h) (hpk : PksOK P T sg pk) : EnvOK (mkE P T sg pk ip mk) where
  tab := htab
  mix := hmix
  prim := ⟨hip, fun g m h xs rs _ hp => (by cases hp), fun g m h xs K r hm hp hK => hpk g h m hp hm m rfl xs K r hK⟩
  name := fun g fn _ hfn => by
    have := List.all_eq_true.1 hall fn (by have h3 : fn ∈ P.funcs := Array.mem_of_getElem? hfn; simpa using h3)
    simp only [funOK, Bool.and_eq_true, Bool.not_eq_true'] at this
    exact this.1
  dst := fun g fn c _ hfn hc => by
    have := List.all_eq_true.1 hall fn (by have h3 : fn ∈ P.funcs := Array.mem_of_getElem? hfn; simpa using h3)
    simp only [funOK, Bool.and_eq_true, hc] at this
    exact this.2
/-- A function that is evaluated is told. -/
theorem pk_of_run {E : Env} (hE : EnvOK E) {g : FuncId} {fl : Bool} (hfl : isFlat E g = fl) {h : PK} (hr : ∀ (xs : List PV) (K : List PV → R) (r : List PV), h xs K = some r → ∃ rs n k, K rs = some r ∧ runPV E n k g xs = some rs) : PkOK E.P E.T fl g h := by
  intro m hm xs K r hh
  obtain ⟨rs, n, k, h1, h2⟩ := hr xs K r hh
  exact ⟨rs, h1, (runPV_ok hE h2).weak (hfl.trans hm.symm)⟩

/-! ### strings.Cut -/
theorem cut_pk {P : Program} {T : World → Prop} {g : FuncId} (hE : Enters P g) (hc : ∀ (s p : ByteArray) (w : World), T w → s.size < 4294967281 → Calls P g #[.string s, .string p] w fun e w' => e = .returned (.tuple #[.string (cutA s p), .string (cutB s p), .bool (cutOk s p)]) ∧ Grow w w') : ∀ fl, PkOK P T fl g cutH := by
  intro fl m _ xs K r h
  unfold cutH at h
  split at h
  · rename_i s p
    rcases cond_some h with ⟨hb, h⟩ | ⟨_, h⟩
    · refine ⟨_, h, told_of_grow hE (fun _ => rfl) fun ok w vs ht hp => ?_⟩
      rw [pw2 hp]
      refine (hc s p w ht (of_decide_eq_true hb)).mono ?_
      rintro e w' ⟨rfl, hg⟩
      refine ⟨_, rfl, hg, fun σ id => .tup _ [_, _, _] rfl fun j a v ha hv => ?_⟩
      match j with
      | 0 => simp [mats, mat, matC] at ha hv; subst ha; subst hv; exact VR.lit _ _ _
      | 1 => simp [mats, mat, matC] at ha hv; subst ha; subst hv; exact VR.lit _ _ _
      | 2 => simp [mats, mat, matC] at ha hv; subst ha; subst hv; exact VR.lit _ _ _
      | j + 3 => simp at hv
    · cases h
  · cases h

/-! ### strings.HasPrefix -/
theorem prefix_pk {P : Program} {T : World → Prop} {g : FuncId} (hE : Enters P g) (hc : ∀ (s p : ByteArray) (w : World), T w → Calls P g #[.string s, .string p] w fun e w' => e = .returned (.bool (prefixB s p)) ∧ Grow w w') : ∀ fl, PkOK P T fl g prefixH := by
  intro fl m _ xs K r h
  unfold prefixH at h
  split at h
  · rename_i s p
    refine ⟨_, h, told_of_grow hE (fun _ => rfl) fun ok w vs ht hp => ?_⟩
    rw [pw2 hp]
    refine (hc s p w ht).mono ?_
    rintro e w' ⟨rfl, hg⟩
    exact ⟨_, rfl, hg, fun σ id => VR.lit _ _ _⟩
  · cases h

/-! ### strconv.Itoa -/
theorem itoa_pk {P : Program} {T : World → Prop} {g : FuncId} (hE : Enters P g) (hc : ∀ (n : Int) (w : World), T w → -9223372036854775808 ≤ n → n ≤ 9223372036854775807 → Calls P g #[.int .i64 n] w fun e w' => e = .returned (.string (itoaS n)) ∧ Grow w w') : ∀ fl, PkOK P T fl g itoaH := by
  intro fl m _ xs K r h
  unfold itoaH at h
  split at h
  · rename_i n
    rcases cond_some h with ⟨hb, h⟩ | ⟨_, h⟩
    · simp only [Bool.and_eq_true, leI_eq, decide_eq_true_eq] at hb
      refine ⟨_, h, told_of_grow hE (fun _ => rfl) fun ok w vs ht hp => ?_⟩
      rw [pw1 hp]
      refine (hc n w ht hb.1 hb.2).mono ?_
      rintro e w' ⟨rfl, hg⟩
      exact ⟨_, rfl, hg, fun σ id => VR.lit _ _ _⟩
    · cases h
  · cases h

/-! ### strconv.Atoi -/
theorem atoi_pk {P : Program} {T : World → Prop} {g : FuncId} (hE : Enters P g) (hc : ∀ (s : ByteArray) (w : World), T w → s.size ≤ 281474976710656 → Calls P g #[.string s] w fun e w' => Grow w w' ∧
    ((atoiOk s = true ∧ e = .returned (.tuple #[.int .i64 (atoiV s), .nilIface])) ∨ (atoiOk s = false ∧ ∃ t v, e = .returned (.tuple #[.int .i64 (atoiV s), .iface t v])))) : ∀ fl, PkOK P T fl g atoiH := by
  intro fl m _ xs K r h
  unfold atoiH at h
  split at h
  · rename_i s
    rcases cond_some h with ⟨hb, h⟩ | ⟨_, h⟩
    · rcases cond_some h with ⟨hk, h⟩ | ⟨hk, h⟩
      · refine ⟨_, h, told_of_grow hE (fun _ => rfl) fun ok w vs ht hp => ?_⟩
        rw [pw1 hp]
        refine (hc s w ht (of_decide_eq_true hb)).mono ?_
        rintro e w' ⟨hg, ⟨_, rfl⟩ | ⟨hk', _⟩⟩
        · refine ⟨_, rfl, hg, fun σ id => .tup _ [_, _] rfl fun j a v ha hv => ?_⟩
          match j with
          | 0 => simp [mats, mat, matC] at ha hv; subst ha; subst hv; exact VR.lit _ _ _
          | 1 => simp [mats, mat, matC] at ha hv; subst ha; subst hv; exact VR.lit _ _ _
          | j + 2 => simp at hv
        · rw [hk] at hk'; cases hk'
      · refine ⟨_, h, told_of_grow hE (fun _ => rfl) fun ok w vs ht hp => ?_⟩
        rw [pw1 hp]
        refine (hc s w ht (of_decide_eq_true hb)).mono ?_
        rintro e w' ⟨hg, ⟨hk', _⟩ | ⟨_, t, u, rfl⟩⟩
        · rw [hk] at hk'; cases hk'
        · refine ⟨_, rfl, hg, fun σ id => .tup _ [_, _] rfl fun j a v ha hv => ?_⟩
          match j with
          | 0 => simp [mats, mat, matC] at ha hv; subst ha; subst hv; exact VR.lit _ _ _
          | 1 => simp [mats, mat, matC] at ha hv; subst ha; subst hv; exact .p _ _ (.ifc _ _)
          | j + 2 => simp at hv
    · cases h
  · cases h
end Go.Proofs.YtalfnpdgajfkiaaDoor.Ax
