/- 'Ax', part 1: what an abstract state says of a world: readings of pure data, values, blocks; how they live on when the world grows or a block is written. -/
import Derived.Test.YtalfnpdgajfkiaaDoorAx0
import Derived.Below
set_option linter.unusedVariables false
set_option linter.unusedSimpArgs false
namespace Go.Proofs.YtalfnpdgajfkiaaDoor.Ax
open Go

/-- A block of the call's own: its number in the world, its elements' number of cells (0: a variable), its number of elements. -/
structure Bk where
  k : Nat
  sz : Nat
  n : Nat
/-- Which number is which block: not the call's own; a nil slice; a block. -/
structure Sg where
  f : Nat → Option (Option Bk)
  G : Nat → Prop
instance : CoeFun Sg (fun _ => Nat → Option (Option Bk)) := ⟨Sg.f⟩
/-- A block that may be read and is none of the call's own. -/
def okS (σ : Sg) (k : Nat) : Prop := σ.G k ∧ ∀ (b : Nat) (t : Bk), σ b = some (some t) → t.k ≠ k
/-- Where the call's own blocks begin; which blocks may be read. -/
structure Bs (T : World → Prop) where
  n : Nat
  G : Nat → Prop
  up : ∀ k, n ≤ k → G k
  keep : ∀ w w' : World, (∀ k, k < n → w'.heap[k]? = w.heap[k]?) → T w → T w'

/-- The cells of a row from an address on, as elements of so many cells. -/
structure RowAt (w : World) (sz : Nat) (l : List PV) (a : Addr) (f : Nat → Nat → Value) : Prop where
  len : ∀ (i : Nat) (e : PV), l[i]? = some e → (cellsOf e).length = sz
  cell : ∀ (i : Nat) (e : PV) (j : Nat) (c : PV), l[i]? = some e → (cellsOf e)[j]? = some c → w.cell? (a.add (i * sz + j)) = some (f i j)
  one : ∀ (i : Nat) (e : PV) (j : Nat) (c : PV), l[i]? = some e → (cellsOf e)[j]? = some c → (f i j).oneCell' = true

inductive Rd (ok : Nat → Prop) (w : World) : PV → Value → Prop
  | lit (v : Value) : Rd ok w (.lit v) v
  | ifc (t : TypeId) (v : Value) : Rd ok w .ifc (.iface t v)
  | nil (sz : Nat) : Rd ok w (.sl sz []) (.slice none 0 0)
  | sl (sz : Nat) (l : List PV) (a : Addr) (cap : Nat) (f : Nat → Nat → Value) (hok : ok a.block) (hlt : a.block < w.heap.size) (hcap : l.length ≤ cap)
      (hrow : RowAt w sz l a f) (hrd : ∀ (i : Nat) (e : PV) (j : Nat) (c : PV), l[i]? = some e → (cellsOf e)[j]? = some c → Rd ok w c (f i j)) : Rd ok w (.sl sz l) (.slice (some a) l.length cap)
  | agg (l : List PV) (vs : List Value) (hl : vs.length = l.length) (hrd : ∀ (j : Nat) (c : PV) (v : Value), l[j]? = some c → vs[j]? = some v → Rd ok w c v) : Rd ok w (.agg l) (.agg vs.toArray)

/-- Blocks that are not written are as they were; blocks keep their size. -/
structure Ext (ok : Nat → Prop) (w w' : World) : Prop where
  os : w'.os = w.os
  tape : w'.tape = w.tape
  output : w'.output = w.output
  size : w.heap.size ≤ w'.heap.size
  same : ∀ k, k < w.heap.size → ok k → w'.heap[k]? = w.heap[k]?
  shape : ∀ (k : Nat) (cs : Array Value) (e : TypeId) (fz : Nat × Nat), w.heap[k]? = some (.cells cs e fz) → ∃ (cs' : Array Value) (fz' : Nat × Nat), w'.heap[k]? = some (.cells cs' e fz') ∧ cs'.size = cs.size

theorem Ext.refl (ok : Nat → Prop) (w : World) : Ext ok w w := ⟨rfl, rfl, rfl, Nat.le_refl _, fun _ _ _ => rfl, fun _ cs _ fz h => ⟨cs, fz, h, rfl⟩⟩
theorem Ext.trans {ok ok' : Nat → Prop} {a b c : World} (h : Ext ok a b) (h' : Ext ok' b c) (hok : ∀ k, k < a.heap.size → ok k → ok' k) : Ext ok a c := by
  refine ⟨h'.os.trans h.os, h'.tape.trans h.tape, h'.output.trans h.output, Nat.le_trans h.size h'.size, fun k hk ho => ?_, fun k cs e fz hc => ?_⟩
  · rw [h'.same k (Nat.lt_of_lt_of_le hk h.size) (hok k hk ho), h.same k hk ho]
  · obtain ⟨c1, f1, h1, e1⟩ := h.shape k cs e fz hc
    obtain ⟨c2, f2, h2, e2⟩ := h'.shape k c1 e f1 h1
    exact ⟨c2, f2, h2, e2.trans e1⟩
theorem Ext.weak {ok ok' : Nat → Prop} {a b : World} (h : Ext ok a b) (hok : ∀ k, k < a.heap.size → ok' k → ok k) : Ext ok' a b :=
  ⟨h.os, h.tape, h.output, h.size, fun k hk ho => h.same k hk (hok k hk ho), h.shape⟩
theorem Ext.drew (ok : Nat → Prop) (w : World) : Ext ok w { w with drawn := w.drawn + 1 } := ⟨rfl, rfl, rfl, Nat.le_refl _, fun _ _ _ => rfl, fun _ cs _ fz h => ⟨cs, fz, h, rfl⟩⟩
theorem Ext.alloc (ok : Nat → Prop) (w : World) (o : Obj) : Ext ok w { w with heap := w.heap.push o } := by
  refine ⟨rfl, rfl, rfl, by simp, fun k hk _ => ?_, fun k cs e fz h => ⟨cs, fz, ?_, rfl⟩⟩
  · simp only [Array.getElem?_push]; rw [if_neg (by omega)]
  · have hk : k < w.heap.size := (Array.getElem?_eq_some_iff.1 h).1
    simp only [Array.getElem?_push]; rw [if_neg (by omega)]; exact h
theorem cell?_same {w w' : World} {a : Addr} (h : w'.heap[a.block]? = w.heap[a.block]?) : w'.cell? a = w.cell? a := by
  unfold World.cell?; rw [h]
theorem Addr.block_add (a : Addr) (n : Nat) : (a.add n).block = a.block := by unfold Addr.add; split <;> rfl
theorem Addr.add_add (a : Addr) (m n : Nat) : (a.add m).add n = a.add (m + n) := by
  unfold Addr.add
  by_cases hm : m = 0
  · subst hm; by_cases hn : n = 0
    · subst hn; simp
    · simp [hn]
  · by_cases hn : n = 0
    · subst hn; simp [hm]
    · simp [hm, hn, Nat.add_assoc]
theorem add_at (k m n : Nat) : (⟨k, m, none⟩ : Addr).add n = ⟨k, m + n, none⟩ := by
  unfold Addr.add; split <;> simp_all

theorem RowAt.ext {w w' : World} {sz : Nat} {l : List PV} {a : Addr} {f : Nat → Nat → Value} (h : RowAt w sz l a f) (hs : w'.heap[a.block]? = w.heap[a.block]?) : RowAt w' sz l a f :=
  ⟨h.len, fun i e j c he hc => (cell?_same (a := a.add (i * sz + j)) (by rw [Addr.block_add]; exact hs)).trans (h.cell i e j c he hc), h.one⟩

theorem Rd.ext {ok ok' : Nat → Prop} {w w' : World} {x : PV} {v : Value} (h : Rd ok w x v) (hE : Ext ok w w') (hok : ∀ k, k < w.heap.size → ok k → ok' k) : Rd ok' w' x v := by
  induction h with
  | lit v => exact .lit v
  | ifc t v => exact .ifc t v
  | nil sz => exact .nil sz
  | sl sz l a cap f h1 h2 h3 h4 _ ih => exact .sl sz l a cap f (hok _ h2 h1) (Nat.lt_of_lt_of_le h2 hE.size) h3 (h4.ext (hE.same _ h2 h1)) ih
  | agg l vs hl _ ih => exact .agg l vs hl ih

/-- Values of slots. -/
inductive VR (σ : Sg) (w : World) : AV → Value → Prop
  | p (x : PV) (v : Value) (h : Rd (okS σ) w x v) : VR σ w (.p x) v
  | ptr (b sz i j : Nat) (k : Bk) (h : σ b = some (some k)) (hk : k.sz = sz) : VR σ w (.ptr b sz i j) (.pointer (some ⟨k.k, i * sz + j, none⟩))
  | eptr (sz : Nat) (l : List PV) (i j : Nat) (a : Addr) (f : Nat → Nat → Value) (hok : okS σ a.block) (hlt : a.block < w.heap.size) (hrow : RowAt w sz l a f)
      (hrd : ∀ (i : Nat) (e : PV) (j : Nat) (c : PV), l[i]? = some e → (cellsOf e)[j]? = some c → Rd (okS σ) w c (f i j)) : VR σ w (.eptr sz l i j) (.pointer (some (a.add (i * sz + j))))
  | sl (b sz i n : Nat) (k : Bk) (cap : Nat) (o : Nat) (full : Bool) (h : σ b = some (some k)) (hk : k.sz = sz) (hl : i + n ≤ k.n) (ho : 0 < cap → o = i * sz) (hn : n ≤ cap) (hf : full = true → cap = n)
      (hr : full = false → ∃ (cs : Array Value) (e : TypeId) (fz : Nat × Nat), w.heap[k.k]? = some (.cells cs e fz) ∧ cs.size = (i + cap) * sz) : VR σ w (.sl b sz i n full) (.slice (some ⟨k.k, o, none⟩) n cap)
  | slnil (b sz : Nat) (full : Bool) (h : σ b = some none) : VR σ w (.sl b sz 0 0 full) (.slice none 0 0)
  | fn (f : Fn) (l : List AV) (vs : List Value) (hl : vs.length = l.length) (h : ∀ (j : Nat) (a : AV) (v : Value), l[j]? = some a → vs[j]? = some v → VR σ w a v) : VR σ w (.fn f l) (.func f #[] vs.toArray)
  | agg (l : List AV) (vs : List Value) (hl : vs.length = l.length) (h : ∀ (j : Nat) (a : AV) (v : Value), l[j]? = some a → vs[j]? = some v → VR σ w a v) : VR σ w (.agg l) (.agg vs.toArray)
  | tup (l : List AV) (vs : List Value) (hl : vs.length = l.length) (h : ∀ (j : Nat) (a : AV) (v : Value), l[j]? = some a → vs[j]? = some v → VR σ w a v) : VR σ w (.tup l) (.tuple vs.toArray)
  | iface (t : TypeId) (x : AV) (v : Value) (h : VR σ w x v) : VR σ w (.iface t x) (.iface t v)
  | son (b t : Nat) (k : Bk) (v : Value) (h : σ b = some (some k)) (ht : ∃ (cs : Array Value) (fz : Nat × Nat), w.heap[k.k]? = some (.cells cs t fz) ∧ cs.size = 2) (hv : v = .pointer none ∨ v = .pointer (some ⟨k.k, 0, none⟩)) : VR σ w (.son b t) v
  | mp (b : Nat) (k : Bk) (h : σ b = some (some k)) : VR σ w (.mp b) (.map (some k.k))
  | tsl (e b sz i n : Nat) (v : Value) (h : VR σ w (.sl b sz i n false) v) (ht : ∀ k, σ b = some (some k) → ∃ (cs : Array Value) (fz : Nat × Nat), w.heap[k.k]? = some (.cells cs e fz)) : VR σ w (.tsl e b sz i n) v
  | dead (v : Value) : VR σ w .dead v

theorem mem_idss {a : AV} {l : List AV} {j : Nat} (h : l[j]? = some a) {b : Nat} (hb : b ∈ ids a) : b ∈ idss l := by
  induction l generalizing j with
  | nil => simp at h
  | cons x r ih =>
    simp only [idss, List.mem_append]
    cases j with
    | zero => simp at h; subst h; exact .inl hb
    | succ j => exact .inr (ih (by simpa using h))

/-- A value lives on, if the blocks that it speaks of do. -/
theorem VR.ext {σ σ' : Sg} {w w' : World} {a : AV} {v : Value} (h : VR σ w a v) (hE : Ext (okS σ) w w') (hok : ∀ k, k < w.heap.size → okS σ k → okS σ' k)
    (hid : ∀ b, b ∈ ids a → ∀ r, σ b = some r → σ' b = some r) : VR σ' w' a v := by
  induction h with
  | p x v h => exact .p x v (h.ext hE hok)
  | ptr b sz i j k h hk => exact .ptr b sz i j k (hid b (by simp [ids]) _ h) hk
  | eptr sz l i j a f h1 h2 h3 h4 => exact .eptr sz l i j a f (hok _ h2 h1) (Nat.lt_of_lt_of_le h2 hE.size) (h3.ext (hE.same _ h2 h1)) fun i e j c he hc => (h4 i e j c he hc).ext hE hok
  | sl b sz i n k cap o full h hk hl ho h1 h2 h3 =>
    refine .sl b sz i n k cap o full (hid b (by simp [ids]) _ h) hk hl ho h1 h2 fun hf => ?_
    obtain ⟨cs, e, fz, hc, hs⟩ := h3 hf
    obtain ⟨cs', fz', hc', hs'⟩ := hE.shape k.k cs e fz hc
    exact ⟨cs', e, fz', hc', hs'.trans hs⟩
  | slnil b sz full h => exact .slnil b sz full (hid b (by simp [ids]) _ h)
  | fn f l vs hl _ ih => exact .fn f l vs hl fun j a v ha hv => ih j a v ha hv fun b hb => hid b (by simpa [ids] using mem_idss ha hb)
  | agg l vs hl _ ih => exact .agg l vs hl fun j a v ha hv => ih j a v ha hv fun b hb => hid b (by simpa [ids] using mem_idss ha hb)
  | tup l vs hl _ ih => exact .tup l vs hl fun j a v ha hv => ih j a v ha hv fun b hb => hid b (by simpa [ids] using mem_idss ha hb)
  | iface t x v _ ih => exact .iface t x v (ih fun b hb => hid b (by simpa [ids] using hb))
  | son b t k v h ht hv =>
    obtain ⟨cs, fz, h1, h2⟩ := ht
    obtain ⟨cs', fz', h3, h4⟩ := hE.shape k.k cs t fz h1
    exact .son b t k v (hid b (by simp [ids]) _ h) ⟨cs', fz', h3, h4.trans h2⟩ hv
  | tsl e b sz i n v h ht ih =>
    refine .tsl e b sz i n v (ih fun x hx => hid x (by simpa [ids] using hx)) fun k hk => ?_
    obtain ⟨r, hr⟩ : ∃ r, σ b = some r := by cases h with
      | sl _ _ _ _ k _ _ _ hσ => exact ⟨_, hσ⟩
      | slnil _ _ _ hσ => exact ⟨_, hσ⟩
    have h2 := hid b (by simp [ids]) r hr
    rw [hk] at h2; cases h2
    obtain ⟨cs, fz, h1⟩ := ht k hr
    obtain ⟨cs', fz', h3, _⟩ := hE.shape k.k cs e fz h1
    exact ⟨cs', fz', h3⟩
  | mp b k h => exact .mp b k (hid b (by simp [ids]) _ h)
  | dead v => exact .dead v

/-- Every block that a value speaks of is there. -/
theorem VR.ids_some {σ : Sg} {w : World} {a : AV} {v : Value} (h : VR σ w a v) : ∀ b, b ∈ ids a → ∃ r, σ b = some r := by
  induction h with
  | ptr b sz i j k h => intro b' hb; simp [ids] at hb; subst hb; exact ⟨_, h⟩
  | sl b sz i n k cap o full h => intro b' hb; simp [ids] at hb; subst hb; exact ⟨_, h⟩
  | slnil b sz full h => intro b' hb; simp [ids] at hb; subst hb; exact ⟨_, h⟩
  | mp b k h => intro b' hb; simp [ids] at hb; subst hb; exact ⟨_, h⟩
  | son b t k v h => intro b' hb; simp [ids] at hb; subst hb; exact ⟨_, h⟩
  | tsl e b sz i n v h ht ih => intro b' hb; exact ih b' (by simpa [ids] using hb)
  | fn f l vs hl _ ih | agg l vs hl _ ih | tup l vs hl _ ih =>
    intro b hb
    simp only [ids] at hb
    have key : ∀ (l : List AV) (vs : List Value), vs.length = l.length → (∀ (j : Nat) (a : AV) (v : Value), l[j]? = some a → vs[j]? = some v → ∀ b, b ∈ ids a → ∃ r, σ b = some r) → b ∈ idss l → ∃ r, σ b = some r := by
      intro l
      induction l with
      | nil => intro vs _ _ hb; simp [idss] at hb
      | cons x r ihl =>
        intro vs hl ih hb
        cases vs with
        | nil => simp at hl
        | cons y s =>
          simp only [idss, List.mem_append] at hb
          rcases hb with hb | hb
          · exact ih 0 x y rfl rfl b hb
          · exact ihl s (by simpa using hl) (fun j a v ha hv => ih (j + 1) a v (by simpa using ha) (by simpa using hv)) hb
    exact key l vs hl ih hb
  | iface t x v _ ih => intro b hb; exact ih b (by simpa [ids] using hb)
  | _ => intro b hb; simp [ids] at hb

/-- Blocks. -/
def Free (_ : Array Value) (fz : Nat × Nat) : Prop := fz = (0, 0)
structure RowBlk (σ : Sg) (w : World) (sz : Nat) (l : List PV) (k : Nat) : Prop where
  ex : ∃ (cs : Array Value) (e : TypeId) (fz : Nat × Nat) (f : Nat → Nat → Value), w.heap[k]? = some (.cells cs e fz) ∧ Free cs fz ∧ (∀ (i : Nat) (x : PV), l[i]? = some x → (cellsOf x).length = sz) ∧
    (∀ (i : Nat) (x : PV) (j : Nat) (c : PV), l[i]? = some x → (cellsOf x)[j]? = some c → cs[i * sz + j]? = some (f i j) ∧ (f i j).oneCell' = true) ∧ (∀ (i : Nat) (x : PV) (j : Nat) (c : PV), l[i]? = some x → (cellsOf x)[j]? = some c → Rd (okS σ) w c (f i j))
structure VarsBlk (σ : Sg) (w : World) (l : List AV) (k : Nat) : Prop where
  ex : ∃ (cs : Array Value) (e : TypeId) (fz : Nat × Nat), w.heap[k]? = some (.cells cs e fz) ∧ Free cs fz ∧ cs.size = l.length ∧ ∀ (j : Nat) (a : AV) (v : Value), l[j]? = some a → cs[j]? = some v → VR σ w a v
/-- Pure data as a value, where it is told by itself. -/
def valOfLit : PV → Value
  | .lit v => v
  | _ => undef
def valOf : PV → Value
  | .agg l => .agg (l.map valOfLit).toArray
  | x => valOfLit x
structure MapBlk (o : Option Obj) (kc vc : KT) (l : List (PV × PV)) : Prop where
  ex : ∃ (es : Array MapEntry) (clock : Nat), o = some (.map es clock) ∧ es.toList.map (fun e => (e.key, e.val)) = l.map (fun x => (valOf x.1, valOf x.2)) ∧ ∀ x, x ∈ l → okK kc x.1 = true ∧ okK vc x.2 = true
def BR (σ : Sg) (w : World) (k : Bk) : Blk → Prop
  | .row sz l => k.sz = sz ∧ k.n = l.length ∧ RowBlk σ w sz l k.k
  | .vars l => k.sz = 0 ∧ VarsBlk σ w l k.k
  | .iter s p => k.sz = 0 ∧ w.heap[k.k]? = some (.stringIter s p)
  | .map kc vc l => k.sz = 0 ∧ MapBlk (w.heap[k.k]?) kc vc l
/-- The blocks of the call's own. -/
structure HR {T : World → Prop} (base : Bs T) (σ : Sg) (w : World) (hp : HP) : Prop where
  inj : ∀ b b' k k', σ b = some (some k) → σ b' = some (some k') → k.k = k'.k → b = b'
  g : σ.G = base.G
  t : T w
  blk : ∀ b k, σ b = some (some k) → base.n ≤ k.k ∧ k.k < w.heap.size ∧ ∃ x, look hp b = some x ∧ BR σ w k x
  nil : ∀ b, σ b = some none → ∃ sz, look hp b = some (.row sz [])
def TR (σ : Sg) (w : World) (tm : TM) (vs : Array Value) : Prop := ∀ (s : Nat) (a : AV), look tm s = some a → ∃ v : Value, vs[s]? = some v ∧ VR σ w a v
inductive UR (σ : Sg) (w : World) : List TM → List (Array Value) → Prop
  | nil : UR σ w [] []
  | cons {tm vs ts us} (h : TR σ w tm vs) (r : UR σ w ts us) : UR σ w (tm :: ts) (vs :: us)
/-- An abstract state and a world. 'ups': the slots of the callers. -/
structure Rel {T : World → Prop} (base : Bs T) (ups : List (Array Value)) (σ : Sg) (st : St) (vs : Array Value) (w : World) : Prop where
  tm : TR σ w st.tm vs
  up : UR σ w st.up ups
  hp : HR base σ w st.hp
end Go.Proofs.YtalfnpdgajfkiaaDoor.Ax
