/- Seat D: what is laid, the library's functions that are told, the first environment. -/
import Derived.Test.YtalfnpdgajfkiaaDoorAxP
import Derived.Test.YtalfnpdgajfkiaaDoorShelf
import Derived.Test.YtalfnpdgajfkiaaDoorQ0
import Derived.Lib.LaidTab
import Derived.KernelRfl
namespace Go.Proofs.YtalfnpdgajfkiaaDoor.Ax
open Go Go.Shelf Go.RowKit
set_option maxRecDepth 100000

/-- What the listed variables hold. -/
def T (w : World) : Prop := 8 ≤ w.heap.size ∧ (∃ m : Int, w.cell? ⟨0, 0, none⟩ = some (.int .i64 m)) ∧ Lib.TabIs Tryd.prog w "internal/strconv.uint64pow10" .u64 Lib.pow10Tab ∧
  (∃ tp p, w.var? Tryd.prog "strconv.ErrSyntax" = some #[.iface tp p]) ∧ ∃ tp p, w.var? Tryd.prog "strconv.ErrRange" = some #[.iface tp p]
theorem g3 : Tryd.prog.globalNamed "internal/strconv.uint64pow10" = some 3 := by kernel_rfl
theorem g1 : Tryd.prog.globalNamed "strconv.ErrSyntax" = some 1 := by kernel_rfl
theorem g2 : Tryd.prog.globalNamed "strconv.ErrRange" = some 2 := by kernel_rfl
theorem mixed : Tryd.prog.follows .mixedOrders = true := by kernel_rfl
theorem allOK : Tryd.prog.funcs.toList.all funOK = true := by kernel_rfl
theorem var_same {w w' : World} {name : String} {g : Nat} (hg : Tryd.prog.globalNamed name = some g) (h : w'.heap[g]? = w.heap[g]?) : w'.var? Tryd.prog name = w.var? Tryd.prog name := by
  unfold World.var?
  rw [hg]
  simp only [Option.bind_some, h]
theorem tab : ∃ n0, (∀ w, T w → n0 ≤ w.heap.size) ∧ ∀ w w' : World, (∀ k, k < n0 → w'.heap[k]? = w.heap[k]?) → T w → T w' := by
  refine ⟨8, fun w h => h.1, fun w w' hs h => ?_⟩
  obtain ⟨h1, ⟨m, h2⟩, h3, h4, h5⟩ := h
  refine ⟨?_, ⟨m, (cell?_same (hs 0 (by decide))).trans h2⟩, ?_, ?_, ?_⟩
  · have h7 := hs 7 (by decide)
    rw [Array.getElem?_eq_getElem (by omega : 7 < w.heap.size)] at h7
    have := (Array.getElem?_eq_some_iff.1 h7).1
    omega
  · unfold Lib.TabIs at h3 ⊢
    rw [var_same g3 (hs 3 (by decide))]; exact h3
  · rw [var_same g1 (hs 1 (by decide))]; exact h4
  · rw [var_same g2 (hs 2 (by decide))]; exact h5

/-! ### The library -/
theorem enters {g : Nat} {fn : Func} (h : Tryd.prog.funcs[g]? = some fn) (hn : (fn.name == "runtime.NumGoroutine") = false) (hb : fn.body.isNone = false) : Enters Tryd.prog g := ⟨fn, h, hn, hb⟩
theorem cut_told : ∀ fl, PkOK Tryd.prog T fl 41 cutH := cut_pk (enters Tryd.func41 (by kernel_rfl) rfl) fun s p w ht hs => by
  obtain ⟨m, hm⟩ := ht.2.1
  refine (Tryd.strings_Cut s p m w hs hm).mono ?_
  rintro e w' ⟨rfl, n, rfl⟩
  exact ⟨rfl, Grow.drewN w n⟩
theorem prefix_told : ∀ fl, PkOK Tryd.prog T fl 43 prefixH := prefix_pk (enters Tryd.func43 (by kernel_rfl) rfl) fun s p w ht => by
  refine (Tryd.strings_HasPrefix s p w).mono ?_
  rintro e w' ⟨rfl, rfl⟩
  exact ⟨rfl, Grow.refl _⟩
theorem grow_grow (w : World) (os : Array Obj) : Grow w (Go.Sort.grow w os) := by
  refine ⟨rfl, rfl, rfl, by simp [Go.Sort.grow], fun k hk => ?_⟩
  simp only [Go.Sort.grow]
  rw [Array.getElem?_append_left hk]
theorem itoa_told : ∀ fl, PkOK Tryd.prog T fl 44 itoaH := itoa_pk (enters Tryd.func44 (by kernel_rfl) rfl) fun n w ht h0 h1 => by
  refine (Tryd.strconv_Itoa n h0 h1 w ht.2.2.1).mono ?_
  rintro e w' ⟨rfl, k, os, rfl⟩
  exact ⟨rfl, (Grow.drewN w k).trans (grow_grow _ os)⟩
theorem atoi_told : ∀ fl, PkOK Tryd.prog T fl 42 atoiH := atoi_pk (enters Tryd.func42 (by kernel_rfl) rfl) fun s w ht hs => by
  obtain ⟨_, _, _, ⟨t1, p1, h1⟩, t2, p2, h2⟩ := ht
  cases hk : Lib.atoiAll s.data.toList with
  | ok v =>
    refine (Tryd.strconv_Atoi_ok s (by omega) v hk w).mono ?_
    rintro e w' ⟨rfl, hw⟩
    refine ⟨?_, .inl ⟨by unfold atoiOk; rw [hk], by unfold atoiV; rw [hk]⟩⟩
    rcases hw with rfl | ⟨t, rfl⟩
    · exact Grow.refl _
    · have h1 := (Grow.drew w).trans (Grow.alloc w.drew (.cells (Lib.bytesCells w 5 t) 5))
      refine ⟨?_, ?_, ?_, ?_, fun k hk => ?_⟩
      · unfold Lib.bytesWorld World.freeze; rfl
      · unfold Lib.bytesWorld World.freeze; rfl
      · unfold Lib.bytesWorld World.freeze; rfl
      · unfold Lib.bytesWorld; rw [freeze_size]; exact h1.size
      · unfold Lib.bytesWorld
        rw [freeze_other _ _ _ _ _ (by omega)]
        exact h1.same k hk
  | range =>
    refine (Tryd.strconv_Atoi_range_var s hs hk t2 p2 w h2).mono ?_
    rintro e w' ⟨N, rfl, _, _, hB⟩
    exact ⟨.of_below hB, .inr ⟨by unfold atoiOk; rw [hk], _, _, by unfold atoiV; rw [hk]⟩⟩
  | _ =>
    refine (Any.strconv_Atoi_syntax_var Tryd.laysC172 s hs hk t1 p1 w h1).mono ?_
    rintro e w' ⟨N, rfl, _, _, hB⟩
    exact ⟨.of_below hB, .inr ⟨by unfold atoiOk; rw [hk], _, _, by unfold atoiV; rw [hk]⟩⟩
/-! ### Builders -/
def ren240 : Go.Shelf.Ren := ⟨fun | 240 => 101 | 276 => 141 | n => n, fun | 70 => 67 | 9 => 9 | 0 => 0 | 4 => 4 | 20 => 20 | 72 => 70 | 37 => 68 | 164 => 157 | n => n, fun | n => n⟩
theorem lays240 : Go.Proofs.Lays.n240 Tryd.prog ren240 := {
  mixed := by kernel_rfl
  f240 := Tryd.func101.trans (congrArg some (by kernel_rfl))
  f276 := Tryd.func141.trans (congrArg some (by kernel_rfl))
  t0 := Tryd.underlying0
  a0 := Tryd.isAgg0
  z0 := Tryd.sizeOf0
  v0 := Tryd.zeroValue0
  t4 := Tryd.underlying4
  a4 := Tryd.isAgg4
  z4 := Tryd.sizeOf4
  v4 := Tryd.zeroValue4
  t9 := Tryd.underlying9
  a9 := Tryd.isAgg9
  z9 := Tryd.sizeOf9
  v9 := Tryd.zeroValue9
  t20 := Tryd.underlying20
  a20 := Tryd.isAgg20
  z20 := Tryd.sizeOf20
  v20 := Tryd.zeroValue20
  t70 := Tryd.underlying67
  a70 := Tryd.isAgg67
  z70 := Tryd.sizeOf67
  v70 := Tryd.zeroValue67
  t72 := Tryd.underlying70
  a72 := Tryd.isAgg70
  z72 := Tryd.sizeOf70
  v72 := Tryd.zeroValue70
  t164 := Tryd.underlying157
  a164 := Tryd.isAgg157
  z164 := Tryd.sizeOf157
  v164 := Tryd.zeroValue157 }
theorem x72 : Builder.X72 Tryd.prog ren240 := ⟨by kernel_rfl, by kernel_rfl⟩
theorem ip_ok {E : Env} (hP : E.P = Tryd.prog) (hT : E.T = T) : ∀ g h, look ipT g = some h → IpOK E g h := by
  intro g h hh
  obtain ⟨P', T', sg, pr, pk, ip, mk, ok⟩ := E
  simp only at hP hT
  subst hP; subst hT
  simp only [ipT, look] at hh
  split at hh
  · rename_i e; subst e; cases hh; exact copyCheck_ip (ρ := ren240) lays240 x72
  · split at hh
    · rename_i e; subst e; cases hh; exact string_ip (ρ := Tryd.lays169_ren) Tryd.lays169 Tryd.Builder_Extra_169
    · cases hh
theorem pk0_ok (sg : SigT) : PksOK Tryd.prog T sg pk0 :=
  (((PksOK.nil.cons fun m _ => itoa_told m.2).cons fun m _ => prefix_told m.2).cons fun m _ => atoi_told m.2).cons fun m _ => cut_told m.2
theorem env_ok {sg : SigT} {pk : List (Nat × PK)} {mk : List (Nat × Nat × Mask)} (h : PksOK Tryd.prog T sg pk) : EnvOK (mkE Tryd.prog T sg pk ipT mk) := mkE_ok mixed allOK tab (ip_ok rfl rfl) h
end Go.Proofs.YtalfnpdgajfkiaaDoor.Ax
