/- Seat D: FlagTexts: the row and the card. For every book and every text the law returns true, and its arguments read as before. -/
import Derived.Test.YtalfnpdgajfkiaaDoorD8
import Derived.Test.YtalfnpdgajfkiaaDoorCards
import Derived.Test.YtalfnpdgajfkiaaDoorTie
import Derived.ChangeMaps5
set_option linter.unusedVariables false
set_option linter.unusedSimpArgs false
set_option maxRecDepth 100000
namespace Go.Proofs.YtalfnpdgajfkiaaDoor
open Go Go.ChangeShapes Go.WideShapes Go.ChangeAt Go.RowKit Ax

theorem gt3 : (Tryd.prog.globals[3]?).map (·.type) = some 203 := by kernel_rfl
theorem gt1 : (Tryd.prog.globals[1]?).map (·.type) = some 62 := by kernel_rfl
theorem gt2 : (Tryd.prog.globals[2]?).map (·.type) = some 62 := by kernel_rfl
theorem c170 : Tryd.prog.cellsOf 170 = 1 := by kernel_rfl
theorem c203 : Tryd.prog.cellsOf 203 = 20 := by kernel_rfl
theorem c201 : Tryd.prog.cellsOf 201 = 1 := by kernel_rfl
theorem star : ("*" ++ "errors.errorString" : String) = "*errors.errorString" := by kernel_rfl
theorem row199 (u : TypeId) (h : Tryd.prog.typeName? 3 u = some "*errors.errorString") : u = 199 :=
  typeName_ptr_named (nm := "errors.errorString") (by rw [star]; kernel_rfl) (by kernel_rfl) (by decide) u (by rw [star]; exact h)
theorem pow_eq : (Rows.laid_internal_strconv_uint64pow10 : DataW Unit) = Lib.tabData .u64 Lib.pow10Tab := by kernel_rfl
/-- The premises of the row give what the calls lean on. -/
theorem t_of {W : World} (hL : laidMetH Tryd.prog Rows.flagTextsRow.laid W) (hS : W.ShapedOpen Tryd.prog) : Ax.T W := by
  rw [MakeChecks.laidMetH_plain _ _ _ (by kernel_rfl)] at hL
  have h2 := laidMet.tail (laidMet.tail hL)
  have h3 := laidMet.tail h2
  have h4 := laidMet.tail h3
  refine ⟨size_of hS, max_of hS, ?_, ?_, ?_⟩
  · rw [pow_eq] at h2
    exact Lib.tabIs_of_head g3 gt3 Tryd.underlying203 Tryd.underlying170 c170 c203 h2
  · obtain ⟨a, s, h, _⟩ := laid_sentinel h4 g1 gt1 Tryd.underlying62 row199 Tryd.underlying199 Tryd.underlying201 rfl rfl Tryd.underlying9 c201 cells9
    exact ⟨_, _, h⟩
  · obtain ⟨a, s, h, _⟩ := laid_sentinel h3 g2 gt2 Tryd.underlying62 row199 Tryd.underlying199 Tryd.underlying201 rfl rfl Tryd.underlying9 c201 cells9
    exact ⟨_, _, h⟩
theorem kidsz {t e : TypeId} (_ : t < Tryd.prog.types.size) (h : Tryd.prog.underlying t = some (.slice e)) : 0 < Tryd.prog.cellsOf e := by
  have hall : (List.range Tryd.prog.types.size).all (fun t => match Tryd.prog.underlying t with
    | some (.slice e) => decide (0 < Tryd.prog.cellsOf e)
    | _ => true) = true := by kernel_rfl
  rename_i ht
  have := List.all_eq_true.1 hall t (List.mem_range.2 ht)
  rw [h] at this
  exact of_decide_eq_true this
/-- What the law's code gives, in every world that meets the row's premises. -/
theorem contract (H : Type) (enc : TypeId × Value → H) (W : World) (base : Nat) (args : Array Value) (ds gs : List (DataW H)) (before : List MemPlace)
    (hval : ∀ (j : Nat) t v, Tryd.f3.params[j]? = some t → args[j]? = some v → Value.okWide Tryd.prog W .any base t v)
    (hW : DataW.Whole enc Tryd.prog Tryd.f3.params.toList Rows.flagTextsSpec.vars false W args.toList ds gs before)
    (hwt : (DataW.weightsEach Tryd.prog (Tryd.f3.params.toList ++ (OpenSpec.ofChange Rows.flagTextsSpec).bare.plain.varTypes Tryd.prog) (ds ++ gs)).all (· ≤ reachBytes) = true)
    (hL : laidMetH Tryd.prog Rows.flagTextsRow.laid W) (hS : W.ShapedOpen Tryd.prog) :
    Calls Tryd.prog 3 args W fun e W' => ∃ v, e = .returned v ∧ Rows.flagTextsSpec.post enc Tryd.prog Tryd.f3 false true false false W args v W' := by
  have hW' := hW
  obtain ⟨p, q, hA0, hV, hbe, hfz, hnd⟩ := hW
  have hA : DataW.TrodAll enc Tryd.prog W 0 (fun _ => true) true Tryd.f3.params.toList args.toList ds p := hA0
  rw [Tryd.params3] at hA hval hwt
  obtain ⟨v0, vs0, d0, ds0, p0, q0, hargs, rfl, rfl, h0, r0⟩ := trodAll_cons hA
  obtain ⟨v1, vs1, d1, ds1, p1, q1, hargs1, rfl, rfl, h1, r1⟩ := trodAll_cons r0
  obtain ⟨rfl, rfl, rfl⟩ := trodAll_nil r1
  obtain rfl : args = #[v0, v1] := by cases args; simp_all
  obtain ⟨rfl, rfl⟩ := trodVars_none hV
  clear hA0
  have hv0 := hval 0 22 v0 rfl rfl
  obtain ⟨ms, hlen, hrd⟩ := book_read hv0 h0
  have hms := len_of_weights hwt hlen
  obtain ⟨s, rfl, _⟩ := Go.ChangeMaps.open_string Tryd.underlying9 (hval 1 9 v1 rfl rfl) h1
  have hT := law_told ms s hms
  have hcall := hT.2 (fun _ => True) W [v0, .string s] (t_of hL hS) ((PW.nil.cons (Rd.lit _)).cons hrd)
  refine hcall.mono fun e W' hr => ?_
  cases e with
  | panicked c => exact hr.elim
  | outgrown => exact hr.elim
  | returned v =>
    have hN := hr ⟨fun _ => none, fun _ => True⟩ 0 (.inr fun k _ _ => ⟨trivial, fun b t h => by cases h⟩) (fun _ _ => trivial) (fun b k h => by cases h) (fun _ _ _ => rfl)
    obtain ⟨hg, τ, _, _, hv⟩ := hN
    have hvb : v = .bool true := by
      have h9 : VR _ W' (.p (.lit (.bool true))) v := hv
      exact h9.litEq
    subst hvb
    refine ⟨_, rfl, ?_⟩
    have hbe' : before = (p0 ++ p1) ++ [] := by rw [hbe]; simp
    refine post_of_grow (pa := p0 ++ p1) (pv := []) hW' hg (fun _ _ _ => trodAll_cons_mk (shut_bool Tryd.underlying4 _) trodAll_mk0) (fun sp hsp => ?_) (fun _ _ => rfl) hbe' (ok_one (by kernel_rfl) rfl (okWide_bool_mk Tryd.underlying4 _))
    rw [Tryd.params3]
    have k0 := trod_grow hg kids kidsz (sp := sp) (show 22 < Tryd.prog.types.size from of_decide_eq_true (by kernel_rfl)) h0 (fun q hq => hsp q (by rw [hbe']; simp [hq]))
    have k1 := trod_grow hg kids kidsz (sp := sp) (show 9 < Tryd.prog.types.size from of_decide_eq_true (by kernel_rfl)) h1 (fun q hq => hsp q (by rw [hbe']; simp [hq]))
    have := trodAll_mk2 k0 k1
    exact this
end Go.Proofs.YtalfnpdgajfkiaaDoor
