/- Seat D: what the row's premises give: the tables, the arguments as data; what stands behind the call. -/
import Derived.Test.YtalfnpdgajfkiaaDoorD7
import Derived.Test.YtalfnpdgajfkiaaDoorRows
import Derived.ProofKit
import Derived.OpenShut
import Derived.LaidMore
import Derived.LaidSub
import Derived.ChangeStays
import Derived.ChangeOld
import Derived.ChangeSame
import Derived.Stop.LaidErr
import Derived.Stop.Joined
import Derived.Deep.DeepHandedRow
import Derived.Deep.DeepWitnessRowRef
import Derived.Lib.LaidTab
set_option linter.unusedVariables false
set_option linter.unusedSimpArgs false
set_option maxRecDepth 100000
namespace Go.Proofs.YtalfnpdgajfkiaaDoor.Ax
open Go Go.ChangeShapes Go.WideShapes Go.ChangeAt Go.RowKit

/-! ### The tables -/
theorem filt {W : World} {laid : List (String × DataW Unit)} (h : laidMetH Tryd.prog laid W) (keep : String × DataW Unit → Bool) : laidMetH Tryd.prog (laid.filter keep) W := laidMetH.filter keep h
theorem size_of {W : World} (hS : W.ShapedOpen Tryd.prog) : 8 ≤ W.heap.size := by
  have h7 : (((begin Tryd.prog (fun _ _ => 0) default).world.heap[7]?).bind Obj.row?).isSome = true := by kernel_rfl
  obtain ⟨⟨z, t⟩, hz⟩ := Option.isSome_iff_exists.1 h7
  obtain ⟨cs, hcs, _⟩ := hS.1 7 z t (of_decide_eq_true (by kernel_rfl)) hz
  have := (Array.getElem?_eq_some_iff.1 hcs).1
  omega
theorem max_of {W : World} (hS : W.ShapedOpen Tryd.prog) : ∃ m : Int, W.cell? ⟨0, 0, none⟩ = some (.int .i64 m) := by
  have h0 : (((begin Tryd.prog (fun _ _ => 0) default).world.heap[0]?).bind Obj.row?).map (fun x => (x.1.size, x.2)) = some (1, 3) := by kernel_rfl
  obtain ⟨⟨z, t⟩, hz, hzt⟩ := Option.map_eq_some_iff.1 h0
  simp only [Prod.mk.injEq] at hzt
  obtain ⟨hz1, rfl⟩ := hzt
  obtain ⟨cs, hcs, hsz, hrow⟩ := hS.1 0 z 3 (of_decide_eq_true (by kernel_rfl)) hz
  obtain ⟨ts, hts, _, hall⟩ := hrow (by kernel_rfl)
  have hts' : Tryd.prog.cellTypes Tryd.prog.depth 3 = some [3] := by kernel_rfl
  rw [hts'] at hts
  cases hts
  have h0 : 0 < cs.size := by omega
  obtain ⟨u, hu, hok⟩ := hall 0 cs[0] (Array.getElem?_eq_getElem h0)
  simp at hu
  subst hu
  unfold Cell.ok at hok
  rw [Tryd.underlying3] at hok
  have hc : W.cell? ⟨0, 0, none⟩ = some cs[0] := by rw [cell_at hcs]; exact Array.getElem?_eq_getElem h0
  rw [hc]
  cases hv : cs[0] <;> rw [hv] at hok <;> simp at hok
  obtain ⟨rfl, _⟩ := hok
  exact ⟨_, rfl⟩

/-! ### The arguments -/
theorem slice_forms {W : World} {base : Nat} {t e : TypeId} {v : Value} (ht : Tryd.prog.underlying t = some (.slice e)) (hv : Value.okWide Tryd.prog W .any base t v) : v = .slice none 0 0 ∨ ∃ (a : Addr) (len cap : Nat), v = .slice (some a) len cap ∧ len ≤ cap ∧ a.block < W.heap.size := by
  unfold Value.okWide Cell.okWide Cell.ok at hv
  rw [ht] at hv
  cases v with
  | slice b len cap =>
    cases b with
    | none =>
      left
      cases len <;> cases cap <;> simp_all
    | some a =>
      right
      obtain ⟨h1, _, h3⟩ := hv
      obtain ⟨_, _, row, cells, h4, _⟩ := h3
      refine ⟨a, len, cap, rfl, h1, ?_⟩
      unfold World.shape? at h4
      cases hg : W.heap[a.block]? with
      | none => rw [hg] at h4; simp at h4
      | some o => exact (Array.getElem?_eq_some_iff.1 hg).1
  | _ => simp at hv
def rdN (W : World) (a : Addr) (i : Nat) : Int := match W.cell? (a.add (i * 2 + 0)) with
  | some (.int _ n) => n
  | _ => 0
def rdS (W : World) (a : Addr) (i : Nat) : ByteArray := match W.cell? (a.add (i * 2 + 1)) with
  | some (.string s) => s
  | _ => ⟨#[]⟩
theorem cells57 : Tryd.prog.cellsOf 57 = 2 := by kernel_rfl
theorem cells3 : Tryd.prog.cellsOf 3 = 1 := by kernel_rfl
theorem cells9 : Tryd.prog.cellsOf 9 = 1 := by kernel_rfl
/-- A book, as it is read. -/
theorem book_read {H : Type} {enc : TypeId × Value → H} {W : World} {base : Nat} {v : Value} {d : DataW H} {p : List MemPlace} (hv : Value.okWide Tryd.prog W .any base 22 v) (h : DataW.Trod enc Tryd.prog W 0 (fun _ => true) true 22 v d p) :
    ∃ ms : List Mng, (ms.length = 0 ∨ ∃ es sp, d = .slice es sp ∧ es.length = ms.length) ∧ Rd (fun _ => True) W (.sl 2 (ms.map encM)) v := by
  obtain ⟨fuel, h⟩ := h
  rcases slice_forms Tryd.underlying22 hv with rfl | ⟨a, len, cap, rfl, hle, hlt⟩
  · exact ⟨[], .inl rfl, .nil 2⟩
  · rcases DataW.trod_slice Tryd.underlying22 h with ⟨hc, hx⟩ | ⟨a', len', cap', elems, rest, n, rfl, hc, hx, _, hle, hcap, hlen, hel, _, _⟩
    · simp [Value.cells] at hc
    · simp only [Value.cells, List.cons.injEq, Value.slice.injEq, Option.some.injEq, and_true] at hc
      obtain ⟨rfl, rfl, rfl⟩ := hc
      have hat : ∀ i, i < len → W.cell? (a.add (i * 2 + 0)) = some (.int .i64 (rdN W a i)) ∧ W.cell? (a.add (i * 2 + 1)) = some (.string (rdS W a i)) := by
        intro i hi
        have h1 := hel i hi
        rw [List.getElem?_eq_getElem (by omega), cells57] at h1
        simp only [Option.bind_eq_some_iff] at h1
        obtain ⟨cs, h2, h3⟩ := h1
        obtain ⟨y0, y1, m, _, hcl, h4, h5⟩ := trod_struct2 Tryd.underlying57 h3
        rw [cells57] at hcl
        match cs, hcl with
        | [c0, c1], _ =>
          simp only [World.cells?, Nat.zero_le, if_true] at h2
          have hr : List.range 2 = [0, 1] := rfl
          rw [hr] at h2
          simp only [List.mapM_cons, List.mapM_nil, Option.bind_eq_bind, Option.bind_eq_some_iff, Option.pure_def, Option.some.injEq, Addr.add_add] at h2
          obtain ⟨b0, hb0, l1, ⟨b1, hb1, l2, hl2, rfl⟩, he⟩ := h2
          subst hl2
          simp only [List.cons.injEq, and_true] at he
          obtain ⟨rfl, rfl⟩ := he
          simp only [cells3, cells9, List.drop_zero, List.take_succ_cons, List.take_zero, List.drop_succ_cons] at h4 h5
          obtain ⟨k, e1, _⟩ := DataW.trod_int Tryd.underlying3 h4
          obtain ⟨s, e2, _⟩ := DataW.trod_string Tryd.underlying9 h5
          simp only [List.cons.injEq, and_true] at e1 e2
          subst e1; subst e2
          refine ⟨?_, ?_⟩
          · rw [hb0]; simp only [rdN, hb0]
          · rw [hb1]; simp only [rdS, hb1]
      refine ⟨(List.range len).map fun i => ⟨rdN W a i, rdS W a i⟩, ?_, ?_⟩
      · simp only [Prod.mk.injEq] at hx
        exact .inr ⟨_, _, hx.1, by simp [hlen]⟩
      · have hl : (((List.range len).map fun i => (⟨rdN W a i, rdS W a i⟩ : Mng)).map encM).length = len := by simp
        have hget : ∀ (i : Nat) (e : PV), (((List.range len).map fun i => (⟨rdN W a i, rdS W a i⟩ : Mng)).map encM)[i]? = some e → i < len ∧ e = encM ⟨rdN W a i, rdS W a i⟩ := fun i e he => by
          have hi : i < len := by have := (List.getElem?_eq_some_iff.1 he).1; rwa [hl] at this
          simp only [List.getElem?_map, List.getElem?_range hi, Option.map_some, Option.some.injEq] at he
          exact ⟨hi, he.symm⟩
        have hcell : ∀ (i : Nat) (e : PV) (j : Nat) (c : PV), (((List.range len).map fun i => (⟨rdN W a i, rdS W a i⟩ : Mng)).map encM)[i]? = some e → (cellsOf e)[j]? = some c → i < len ∧ ((j = 0 ∧ c = I (rdN W a i)) ∨ (j = 1 ∧ c = S (rdS W a i))) := fun i e j c he hc => by
          obtain ⟨hi, rfl⟩ := hget i e he
          refine ⟨hi, ?_⟩
          match j with
          | 0 => left; simp [cellsOf, encM] at hc; exact ⟨rfl, hc.symm⟩
          | 1 => right; simp [cellsOf, encM] at hc; exact ⟨rfl, hc.symm⟩
          | j + 2 => simp [cellsOf, encM] at hc
        have := Rd.sl (ok := fun _ => True) (w := W) 2 (((List.range len).map fun i => (⟨rdN W a i, rdS W a i⟩ : Mng)).map encM) a cap (fun i j => if j = 0 then .int .i64 (rdN W a i) else .string (rdS W a i)) trivial hlt (by rw [hl]; exact hle)
          ⟨fun i e he => by obtain ⟨_, rfl⟩ := hget i e he; rfl, fun i e j c he hc => by
            obtain ⟨hi, ⟨rfl, _⟩ | ⟨rfl, _⟩⟩ := hcell i e j c he hc
            · exact (hat i hi).1
            · exact (hat i hi).2, fun i e j c he hc => by
            obtain ⟨hi, ⟨rfl, _⟩ | ⟨rfl, _⟩⟩ := hcell i e j c he hc <;> rfl⟩ fun i e j c he hc => by
            obtain ⟨hi, ⟨rfl, rfl⟩ | ⟨rfl, rfl⟩⟩ := hcell i e j c he hc
            · exact .lit _
            · exact .lit _
        rwa [hl] at this

/-! ### Behind the call -/
theorem kept_of_grow {W W' : World} (h : Grow W W') (may : MemPlace → Prop) : W.keptBut W' may := by
  refine ⟨h.os, h.output, fun i hi => ?_⟩
  rw [h.same i hi]
  cases W.heap[i]? with
  | none => simp
  | some o => cases o <;> simp
theorem frozen_same {W W' : World} (h : Grow W W') {b off : Nat} (hb : b < W.heap.size) : W'.frozen? ⟨b, off, none⟩ = W.frozen? ⟨b, off, none⟩ := by
  unfold World.frozen?
  simp only [h.same b hb]
theorem trod_grow {H : Type} {enc : TypeId × Value → H} {W W' : World} (h : Grow W W') (K : Kids Tryd.prog (· < Tryd.prog.types.size)) (hsz : ∀ {t e : TypeId}, t < Tryd.prog.types.size → Tryd.prog.underlying t = some (.slice e) → 0 < Tryd.prog.cellsOf e) {sp : Nat → Bool} {t : TypeId} {v : Value} {d : DataW H} {p : List MemPlace} (ht : t < Tryd.prog.types.size)
    (hd : DataW.Trod enc Tryd.prog W 0 (fun _ => true) true t v d p) (hs : ∀ q ∈ p, sp q.block = true) : DataW.Trod enc Tryd.prog W' 0 sp true t v d p := by
  obtain ⟨fuel, hd⟩ := hd
  refine ⟨fuel, DataW.trod_stays K hsz (fun h => by cases h) ht hd (fun q hq => ?_) hs⟩
  have hlt := DataW.trod_lt fuel t _ _ hd q hq
  cases q with
  | cell b off => exact cell?_same (h.same b hlt)
  | map b => exact h.same b hlt
/-- What is asked behind a call that turned nothing. -/
theorem post_of_grow {H : Type} {enc : TypeId × Value → H} {f : Func} {s : ChangeSpec} {apart fresh handsOn again : Bool} {W W' : World} {args : Array Value} {v : Value} {ds gs : List (DataW H)} {before pa pv : List MemPlace}
    (hW : DataW.Whole enc Tryd.prog f.params.toList s.vars apart W args.toList ds gs before) (hg : Grow W W')
    (hres : ∀ (b : Nat) (sp : Nat → Bool) (hd : Bool), DataW.TrodAll enc Tryd.prog W' b sp hd f.resultTypes.toList (v.resultList f.resultTypes.size) (s.fn H (ds ++ gs)).results [])
    (hargs : ∀ sp : Nat → Bool, (∀ p ∈ before, sp p.block = true) → DataW.TrodAll enc Tryd.prog W' 0 sp true f.params.toList args.toList (s.fn H (ds ++ gs)).args pa)
    (hvars : ∀ sp : Nat → Bool, (∀ p ∈ before, sp p.block = true) → DataW.TrodVars enc Tryd.prog W' sp s.vars (s.fn H (ds ++ gs)).vars pv)
    (hps : before = pa ++ pv)
    (hok : ∀ (j : Nat) (t : TypeId) (r : Value), f.resultTypes[j]? = some t → (v.resultList f.resultTypes.size)[j]? = some r → Value.okWide Tryd.prog W' .any 0 t r) :
    s.post enc Tryd.prog f apart fresh handsOn again W args v W' := by
  have hlt := hW.lt
  have hold : ∀ p ∈ before, (fun b => decide (b < W.heap.size)) p.block = true := fun p hp => by simpa using hlt p hp
  refine ⟨ds, gs, before, [], pa, pv, hW, hres _ _ _, hargs _ hold, hvars _ hold, kept_of_grow hg _, fun _ => ?_⟩
  obtain ⟨_, _, _, _, _, hz, hn⟩ := hW
  refine ⟨hok, _, _, ([] ++ pa) ++ pv, ⟨[] ++ pa, pv, trodAll_append (hargs _ (fun _ _ => rfl)) (hres _ _ _), hvars _ (fun _ _ => rfl), rfl, ?_, ?_⟩, ?_⟩
  · intro b off hp
    have hp' : MemPlace.cell b off ∈ before := by rw [hps]; simpa using hp
    rw [frozen_same hg (show b < W.heap.size from hlt _ hp')]
    exact hz b off hp'
  · intro ha
    have := hn ha
    rw [hps] at this
    simpa using this
  · intro p hp _
    rw [hps]
    simpa using hp
theorem bytes57 : Tryd.prog.bytesOf 57 = 24 := by kernel_rfl
theorem len_of_weights {H : Type} {d : DataW H} {ts : List TypeId} {ds : List (DataW H)} {ms : List Mng} (h : (DataW.weightsEach Tryd.prog (22 :: ts) (d :: ds)).all (· ≤ reachBytes) = true) (hm : ms.length = 0 ∨ ∃ es sp, d = .slice es sp ∧ es.length = ms.length) : ms.length < 4611686018427387904 := by
  rcases hm with h0 | ⟨es, sp, rfl, h1⟩
  · omega
  · simp only [DataW.weightsEach, DataW.weights, Tryd.underlying22, bytes57, List.cons_append, List.all_cons, Bool.and_eq_true, decide_eq_true_eq] at h
    have h2 := h.1
    have : reachBytes = 140737488351232 := rfl
    omega
theorem kids : Kids Tryd.prog (· < Tryd.prog.types.size) := kids_rows (by kernel_rfl) (by kernel_rfl)
end Go.Proofs.YtalfnpdgajfkiaaDoor.Ax
