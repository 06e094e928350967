/- 'Ax', part 0: an evaluator of the model's code over abstract states: pure data by lists, blocks of the call's own by number. Definitions alone. -/
import Derived.Orders
import Derived.RowKit3
namespace Go.Proofs.YtalfnpdgajfkiaaDoor.Ax
open Go

/-- Pure data: a scalar, a slice (its elements' number of cells, its elements), a struct or an array (its cells); some value of an interface type that is not nil. -/
inductive PV where
  | lit (v : Value)
  | ifc
  | sl (sz : Nat) (l : List PV)
  | agg (l : List PV)

/-- Cells whose kind is told: of keys and elements of maps. -/
inductive SK where
  | int (k : IntKind)
  | bool
  | str
  deriving DecidableEq
/-- A key's or an element's cells: one, or those of a struct. -/
inductive KT where
  | one (c : SK)
  | many (cs : List SK)
  deriving DecidableEq

/-- (tsl: a slice of a row whose elements are of type e; son: nil, or a pointer to the beginning of a block that is a variable of type t, of two cells.) A value of a slot: pure data, a pointer into a block of the call's own, a pointer into a row that is only read, a slice of a row of the call's own, a function with what it captured. -/
inductive AV where
  | p (x : PV)
  | ptr (b sz i j : Nat)
  | eptr (sz : Nat) (l : List PV) (i j : Nat)
  | sl (b sz i n : Nat) (full : Bool)
  | fn (f : Fn) (captured : List AV)
  | agg (l : List AV)
  | tup (l : List AV)
  | iface (t : TypeId) (x : AV)
  | son (b t : Nat)
  | tsl (e b sz i n : Nat)
  | mp (b : Nat)
  | dead

inductive Blk where
  | row (sz : Nat) (l : List PV)
  | vars (l : List AV)
  | iter (s : ByteArray) (pos : Nat)
  | map (kc vc : KT) (l : List (PV × PV))

abbrev TM := List (Nat × AV)
abbrev HP := List (Nat × Blk)
abbrev R := Option (List PV)

def look {α : Type} : List (Nat × α) → Nat → Option α
  | [], _ => none
  | (k, v) :: r, s => if k = s then some v else look r s
def del {α : Type} : List (Nat × α) → Nat → List (Nat × α)
  | [], _ => []
  | (k, v) :: r, s => if k = s then del r s else (k, v) :: del r s

/-- The slots of the function that runs, those of its callers (of those that are walked in place), the blocks. -/
structure St where
  tm : TM
  up : List TM
  hp : HP

inductive Ex where
  | normal
  | exit (id : Nat)
  | ret

/-- What is kept at a loop's head: slots that are made rows that may grow (of so many cells an element), cells of variables likewise, the slots that are kept. -/
structure Mask where
  grow : List (Nat × Nat)
  cells : List (Nat × Nat × Nat)
  keep : List Nat

/-- Masks by a list: of a function, of a region. -/
def maskIn : List (Nat × Nat × Mask) → Nat → Nat → Option Mask
  | [], _, _ => none
  | (f, r, m) :: l, g, s => if f = g ∧ r = s then some m else maskIn l g s
structure Env where
  P : Program
  T : World → Prop
  sig : FuncId → Option (List (List (Option Nat)) × Bool)
  prim : FuncId → Option (List PV → Option (List PV))
  pk : FuncId → Option (List PV → (List PV → R) → R)
  ipk : FuncId → Option (List AV → HP → List TM → (List AV → HP → List TM → R) → R)
  mask : FuncId → Nat → Option Mask
  okf : FuncId → Bool

/-! ### Values -/
def valPV : Value → PV
  | .agg cs => .agg (cs.toList.map .lit)
  | v => .lit v
def cellsOf : PV → List PV
  | .agg l => l
  | x => [x]
def cellsAV : AV → List AV
  | .agg l => l
  | .p (.agg l) => l.map .p
  | x => [x]
def unp : List AV → Option (List PV)
  | [] => some []
  | .p x :: r => (unp r).map (x :: ·)
  | _ => none
def mkAgg (l : List AV) : AV :=
  match unp l with
  | some ps => .p (.agg ps)
  | none => .agg l
def asI : AV → Option (IntKind × Int)
  | .p (.lit (.int k n)) => some (k, n)
  | _ => none
def asB : AV → Option Bool
  | .p (.lit (.bool b)) => some b
  | _ => none
def asS : AV → Option ByteArray
  | .p (.lit (.string s)) => some s
  | _ => none
def isAggT (P : Program) (t : TypeId) : Option Bool :=
  match P.underlying t with
  | some (.struct _) | some (.array _ _) => some true
  | some _ => some false
  | none => none
def sizeT (P : Program) (t : TypeId) : Option Nat := (P.info? t).map (·.size)
def zeroT (P : Program) (t : TypeId) : Option PV := ((P.info? t).bind (·.zero)).map valPV
def ev (tm : TM) : Operand → Option AV
  | .tmp t => look tm t
  | .const v => some (.p (valPV v))
  | .global _ => none
  | .func f => some (.fn (.func f) [])
def evs (tm : TM) : List Operand → Option (List AV)
  | [] => some []
  | x :: r => (ev tm x).bind fun a => (evs tm r).map (a :: ·)
def evParts (tm : TM) : List (Nat × Operand) → Option (List (Nat × AV))
  | [] => some []
  | (i, x) :: r => (ev tm x).bind fun a => (evParts tm r).map ((i, a) :: ·)

/-! ### The blocks that a value speaks of -/
mutual
def ids : AV → List Nat
  | .ptr b _ _ _ => [b]
  | .sl b _ _ _ _ => [b]
  | .fn _ c => idss c
  | .agg l => idss l
  | .tup l => idss l
  | .iface _ x => ids x
  | .son b _ => [b]
  | .tsl _ b _ _ _ => [b]
  | .mp b => [b]
  | _ => []
def idss : List AV → List Nat
  | [] => []
  | a :: r => ids a ++ idss r
end
def idsBlk : Blk → List Nat
  | .row _ _ => []
  | .iter _ _ => []
  | .map _ _ _ => []
  | .vars l => idss l
def purgeA (b : Nat) (a : AV) : AV := if (ids a).contains b then .dead else a
def purgeT (b : Nat) : TM → TM
  | [] => []
  | (s, a) :: r => (s, purgeA b a) :: purgeT b r
def purgeB (b : Nat) : Blk → Blk
  | .row sz l => .row sz l
  | .iter s p => .iter s p
  | .map kc vc l => .map kc vc l
  | .vars l => .vars (l.map (purgeA b))
def purgeH (b : Nat) : HP → HP
  | [] => []
  | (k, x) :: r => (k, purgeB b x) :: purgeH b r
/-- A block that is no longer the call's own. -/
def kill (b : Nat) (st : St) : St := ⟨purgeT b st.tm, st.up.map (purgeT b), purgeH b (del st.hp b)⟩
def kills : List Nat → St → St
  | [], st => st
  | b :: r, st => kills r (kill b st)
/-- New blocks, if their numbers are free. -/
def fresh : HP → HP → Bool
  | [], _ => true
  | (b, _) :: r, hp => (look hp b).isNone && fresh r ((b, .row 0 []) :: hp)

/-! ### What a value is as pure data -/
mutual
def pureAV (hp : HP) : AV → Option PV
  | .p x => some x
  | .sl b sz i n _ => match look hp b with
    | some (.row _ l) => some (.sl sz ((l.drop i).take n))
    | _ => none
  | .agg l => (pureAVs hp l).map .agg
  | .fn f [] => some (.lit (.func f #[] #[]))
  | _ => none
def pureAVs (hp : HP) : List AV → Option (List PV)
  | [] => some []
  | a :: r => (pureAV hp a).bind fun x => (pureAVs hp r).map (x :: ·)
end
/-- An argument as a slot's value. -/
def avP : PV → AV
  | .lit (.func f a b) => if a.isEmpty && b.isEmpty then .fn f [] else .p (.lit (.func f a b))
  | x => .p x
def isLit : PV → Bool
  | .lit _ => true
  | _ => false
/- A result: its slices are rows of the call's own, each handed back once. -/
def pureC (hp : HP) : AV → Option (PV × HP)
  | .p (.lit v) => some (.lit v, hp)
  | .p .ifc => some (.ifc, hp)
  | .sl b sz 0 n false => match look hp b with
    | some (.row _ l) => some (.sl sz (l.take n), del hp b)
    | _ => none
  | _ => none
def pureCs (hp : HP) : List AV → Option (List PV × HP)
  | [] => some ([], hp)
  | a :: r => (pureC hp a).bind fun x => (pureCs x.2 r).map fun y => (x.1 :: y.1, y.2)
def pureR (hp : HP) : AV → Option (PV × HP)
  | .p (.agg l) => (pureCs hp (l.map .p)).map fun x => (.agg x.1, x.2)
  | .agg l => (pureCs hp l).map fun x => (.agg x.1, x.2)
  | a => pureC hp a
def pureRs (hp : HP) : List AV → Option (List PV × HP)
  | [] => some ([], hp)
  | a :: r => (pureR hp a).bind fun x => (pureRs x.2 r).map fun y => (x.1 :: y.1, y.2)
/-- A nil slice that is handed to a function is an empty one. -/
def coerce1 (o : Option Nat) (x : PV) : PV :=
  match o, x with
  | some sz, .lit (.slice none 0 0) => .sl sz []
  | _, x => x
def coerceCells : List (Option Nat) → List PV → List PV
  | o :: r, x :: l => coerce1 o x :: coerceCells r l
  | _, l => l
def coerce (m : List (Option Nat)) (x : PV) : PV :=
  match x with
  | .agg l => .agg (coerceCells m l)
  | x => match m with
    | [o] => coerce1 o x
    | _ => x
def coerces : List (List (Option Nat)) → List PV → List PV
  | m :: ms, x :: l => coerce m x :: coerces ms l
  | _, l => l
/-- What a call hands back, as the caller's own: its slices are new rows, each numbered by its place among the cells. -/
def matC (id : Nat) : PV → AV × HP
  | .sl sz l => (.sl id sz 0 l.length false, [(id, .row sz l)])
  | x => (.p x, [])
def matCells (id : Nat) : List PV → List AV × HP
  | [] => ([], [])
  | x :: r => let y := matCells (id + 1) r; ((matC id x).1 :: y.1, (matC id x).2 ++ y.2)
def mat (id : Nat) : PV → AV × HP
  | .agg l => let y := matCells id l; (mkAgg y.1, y.2)
  | x => matC id x
def mats (id : Nat) : List PV → List AV × HP
  | [] => ([], [])
  | x :: r => let a := mat id x; let y := mats (id + (cellsOf x).length) r; (a.1 :: y.1, a.2 ++ y.2)

/-! ### Operations on scalars -/
/-- Comparisons that the kernel takes no step at, where a side is not known. -/
def ltI (a b : Int) : Bool := match a, b with
  | .ofNat a, .ofNat b => Nat.blt a b
  | .negSucc _, .ofNat _ => true
  | .ofNat _, .negSucc _ => false
  | .negSucc a, .negSucc b => Nat.blt b a
def leI (a b : Int) : Bool := !ltI b a
theorem ltI_eq (a b : Int) : ltI a b = decide (a < b) := by
  cases a with
  | ofNat a =>
    cases b with
    | ofNat b =>
      show Nat.blt a b = _
      rw [Bool.eq_iff_iff]
      simp [Nat.blt_eq]
    | negSucc b => simp [ltI]; omega
  | negSucc a =>
    cases b with
    | ofNat b => simp [ltI]; omega
    | negSucc b =>
      show Nat.blt b a = _
      rw [Bool.eq_iff_iff]
      simp [Nat.blt_eq]
      omega
theorem leI_eq (a b : Int) : leI a b = decide (a ≤ b) := by
  unfold leI
  rw [ltI_eq]
  by_cases h : a ≤ b
  · simp [h]
  · simp [h]; omega
def isU8 (P : Program) (t : TypeId) : Bool :=
  match P.underlying t with
  | some (.int .u8) => true
  | _ => false
/-- The bytes of a string. -/
def bytesPV (s : ByteArray) : List PV := s.data.toList.map fun b => .lit (.int .u8 (b.toNat : Int))
def binI (op : BinOp) (k : IntKind) (a b : Int) : Option Value :=
  match op with
  | .add => some (.int k (k.wrap (a + b)))
  | .sub => some (.int k (k.wrap (a - b)))
  | .mul => some (.int k (k.wrap (a * b)))
  | .quo => if b = 0 then none else some (.int k (k.wrap (a.tdiv b)))
  | .rem => if b = 0 then none else some (.int k (a.tmod b))
  | .and => some (.int k (k.wrap (BitVec.ofInt k.bits a &&& BitVec.ofInt k.bits b).toNat))
  | .or => some (.int k (k.wrap (BitVec.ofInt k.bits a ||| BitVec.ofInt k.bits b).toNat))
  | .xor => some (.int k (k.wrap (BitVec.ofInt k.bits a ^^^ BitVec.ofInt k.bits b).toNat))
  | .andNot => some (.int k (k.wrap (BitVec.ofInt k.bits a &&& ~~~ BitVec.ofInt k.bits b).toNat))
  | .eql => some (.bool (a == b))
  | .neq => some (.bool (a != b))
  | .lss => some (.bool (ltI a b))
  | .leq => some (.bool (leI a b))
  | .gtr => some (.bool (ltI b a))
  | .geq => some (.bool (leI b a))
  | _ => none
def shiftI (op : BinOp) (k : IntKind) (a b : Int) : Option Value :=
  if b < 0 then none else
  match op with
  | .shl => some (.int k (k.wrap (a * 2 ^ (min b.toNat k.bits))))
  | .shr => some (.int k (a.fdiv (2 ^ (min b.toNat k.bits))))
  | _ => none
def binStr (op : BinOp) (x y : ByteArray) : Option Value :=
  match op with
  | .add => if ((x.size + y.size : Nat) : Int) > 9223372036854775807 then none else some (.string (x ++ y))
  | .eql => some (.bool (x.toList == y.toList))
  | .neq => some (.bool !(x.toList == y.toList))
  | _ => none
/-- '==' of pure data of one type, as the model reckons it. -/
def partPV (P : Program) (t : TypeId) (l : List PV) (off : Nat) : Option PV :=
  (isAggT P t).bind fun g => if g then (sizeT P t).bind fun n => some (.agg ((l.drop off).take n)) else l[off]?
def eqFields (f : TypeId → PV → PV → Option Bool) (P : Program) : List Field → List PV → List PV → Option Bool
  | [], _, _ => some true
  | fd :: r, xs, ys =>
    if fd.name ≠ "_" then
      (partPV P fd.type xs fd.offset).bind fun x => (partPV P fd.type ys fd.offset).bind fun y => (f fd.type x y).bind fun b => (eqFields f P r xs ys).map (b && ·)
    else eqFields f P r xs ys
def eqPV (P : Program) : Nat → TypeId → PV → PV → Option Bool
  | 0, _, _, _ => none
  | d + 1, t, x, y =>
    match P.underlying t, x, y with
    | some .bool, .lit (.bool a), .lit (.bool b) => some (a == b)
    | some (.int _), .lit (.int k a), .lit (.int k' b) => if k = k' then some (a == b) else none
    | some .string, .lit (.string a), .lit (.string b) => some (a == b)
    | some (.struct fs), .agg xs, .agg ys => if P.stoodInHeld t then none else eqFields (eqPV P d) P fs.toList xs ys
    | _, _, _ => none
/-- Is a value a nil slice, as far as it can be told? -/
def isNilSl : AV → Option Bool
  | .p (.lit (.slice none _ _)) => some true
  | .p (.sl _ (_ :: _)) => some false
  | .sl _ _ _ (_ + 1) _ => some false
  | _ => none
def isNilE : AV → Option Bool
  | .p (.lit .nilIface) => some true
  | .p (.lit (.iface _ _)) => some false
  | .p .ifc => some false
  | .iface _ _ => some false
  | _ => none
def eqNil (P : Program) (t : TypeId) (x y : AV) : Option Bool :=
  match P.underlying t, x, y with
  | some (.slice _), .p (.lit (.slice none _ _)), y => isNilSl y
  | some (.slice _), x, .p (.lit (.slice none _ _)) => isNilSl x
  | some (.interface _), x, .p (.lit .nilIface) => isNilE x
  | _, _, _ => none
def isConst : Operand → Bool
  | .const _ => true
  | _ => false
def isBoolT (P : Program) (t : TypeId) : Bool :=
  match P.underlying t with
  | some .bool => true
  | _ => false
def bin (P : Program) (op : BinOp) (t : TypeId) (ox oy : Operand) (x y : AV) : Option AV :=
  match op, x, y with
  | .shl, .p (.lit (.int k a)), .p (.lit (.int _ b)) => (shiftI .shl k a b).map fun v => .p (.lit v)
  | .shr, .p (.lit (.int k a)), .p (.lit (.int _ b)) => (shiftI .shr k a b).map fun v => .p (.lit v)
  | op, .p (.lit (.int k a)), .p (.lit (.int k' b)) => if k = k' then (binI op k a b).map fun v => .p (.lit v) else none
  | op, .p (.lit (.string a)), .p (.lit (.string b)) => (binStr op a b).map fun v => .p (.lit v)
  | .eql, .p (.lit (.bool a)), .p (.lit (.bool b)) => if isBoolT P t then some (.p (.lit (.bool (a == b)))) else none
  | .neq, .p (.lit (.bool a)), .p (.lit (.bool b)) => if isBoolT P t then some (.p (.lit (.bool !(a == b)))) else none
  | .eql, .p (.agg xs), .p (.agg ys) => if P.eqGuardType P.depth t then none else (eqPV P 100 t (.agg xs) (.agg ys)).map fun b => .p (.lit (.bool b))
  | .neq, .p (.agg xs), .p (.agg ys) => if P.eqGuardType P.depth t then none else (eqPV P 100 t (.agg xs) (.agg ys)).map fun b => .p (.lit (.bool !b))
  | .eql, x, y => if isConst ox || isConst oy then (eqNil P t x y).map fun b => .p (.lit (.bool b)) else none
  | .neq, x, y => if isConst ox || isConst oy then (eqNil P t x y).map fun b => .p (.lit (.bool !b)) else none
  | _, _, _ => none
def un (op : UnOp) : AV → Option AV
  | .p (.lit (.int k n)) => if op = .neg then some (.p (.lit (.int k (k.wrap (0 - n))))) else none
  | .p (.lit (.bool b)) => if op = .not then some (.p (.lit (.bool !b))) else none
  | _ => none

/-! ### Memory -/
def fieldOf (P : Program) (s : TypeId) (f : Nat) : Option Field :=
  match P.underlying s with
  | some (.struct fs) => fs[f]?
  | _ => none
def elemT (P : Program) (t : TypeId) : Option TypeId :=
  match P.underlying t with
  | some (.slice e) => some e
  | _ => none
/-- The cells of one element, from cell j on: a value of type t. -/
def loadPV (P : Program) (t : TypeId) (e : PV) (j : Nat) : Option PV :=
  (isAggT P t).bind fun g => if g then (sizeT P t).bind fun n => if j + n ≤ (cellsOf e).length then some (.agg (((cellsOf e).drop j).take n)) else none else (cellsOf e)[j]?
def loadAV (P : Program) (t : TypeId) (l : List AV) (j : Nat) : Option AV :=
  (isAggT P t).bind fun g => if g then (sizeT P t).bind fun n => if j + n ≤ l.length then some (mkAgg ((l.drop j).take n)) else none else l[j]?
def load (P : Program) (hp : HP) (t : TypeId) : AV → Option AV
  | .ptr b _ i j => match look hp b with
    | some (.row _ l) => (l[i]?).bind fun e => (loadPV P t e j).map .p
    | some (.vars l) => if i = 0 then loadAV P t l j else none
    | _ => none
  | .eptr _ l i j => (l[i]?).bind fun e => (loadPV P t e j).map .p
  | _ => none
def setFrom {α : Type} : List α → Nat → List α → List α
  | l, _, [] => l
  | l, j, x :: r => setFrom (l.set j x) (j + 1) r
def setPV (e : PV) (j : Nat) (xs : List PV) : PV :=
  match e with
  | .agg cs => .agg (setFrom cs j xs)
  | e => match xs with | [x] => x | _ => e
def isCell : AV → Bool
  | .agg _ | .tup _ | .dead | .p (.agg _) | .p (.lit (.agg _)) | .p (.lit (.tuple _)) => false
  | _ => true
def isCellPV : PV → Bool
  | .agg _ | .lit (.agg _) | .lit (.tuple _) => false
  | _ => true
/- A row that is stored inside another one is no row of the call's own any more. -/
mutual
def rowsIn : AV → List Nat
  | .sl b _ _ _ _ => [b]
  | .agg l => rowsIns l
  | _ => []
def rowsIns : List AV → List Nat
  | [] => []
  | a :: r => rowsIn a ++ rowsIns r
end
def store (P : Program) (hp : HP) (t : TypeId) (a : AV) (x : AV) : Option HP :=
  (sizeT P t).bind fun n =>
  if (cellsAV x).length = n ∧ (cellsAV x).all isCell = true then
    match a with
    | .ptr b _ i j => match look hp b with
      | some (.row sz l) => (if rowsIns (cellsAV x) = [] then pureAVs hp (cellsAV x) else none).bind fun xs => (l[i]?).bind fun e => if 0 < sz ∧ j + n ≤ (cellsOf e).length then some ((b, .row sz (l.set i (setPV e j xs))) :: del hp b) else none
      | some (.vars l) => if i = 0 ∧ j + n ≤ l.length then some ((b, .vars (setFrom l j (cellsAV x))) :: del hp b) else none
      | _ => none
    | _ => none
  else none
def fieldAddr (P : Program) (s : TypeId) (f : Nat) (a : AV) : Option AV :=
  (fieldOf P s f).bind fun fd => match sizeT P fd.type with
  | some (_ + 1) => match a with
    | .ptr b sz i j => some (.ptr b sz i (j + fd.offset))
    | .eptr sz l i j => some (.eptr sz l i (j + fd.offset))
    | _ => none
  | _ => none
def field (P : Program) (s : TypeId) (f : Nat) (a : AV) : Option AV :=
  (fieldOf P s f).bind fun fd => match a with
  | .p (.agg l) => loadAV P fd.type (l.map .p) fd.offset
  | .agg l => loadAV P fd.type l fd.offset
  | _ => none
def indexAddr (P : Program) (t : TypeId) (x ix : AV) : Option AV :=
  (elemT P t).bind fun e => (sizeT P e).bind fun n => (asI ix).bind fun i =>
    match x with
    | .p (.sl sz l) => if sz = n ∧ 0 < n ∧ 0 ≤ i.2 ∧ i.2 < l.length then some (.eptr sz l i.2.toNat 0) else none
    | .sl b sz i0 len _ => if sz = n ∧ 0 < n ∧ 0 ≤ i.2 ∧ i.2 < len then some (.ptr b sz (i0 + i.2.toNat) 0) else none
    | _ => none
def index (P : Program) (t : TypeId) (x ix : AV) : Option AV :=
  (asI ix).bind fun i => match P.underlying t, x with
    | some .string, .p (.lit (.string s)) => if 0 ≤ i.2 then (s[i.2.toNat]?).map fun b => .p (.lit (.int .u8 b.toNat)) else none
    | some (.array n e), .p (.agg l) => if 0 ≤ i.2 ∧ i.2 < n then (sizeT P e).bind fun s => (loadAV P e (l.map .p) (i.2.toNat * s)) else none
    | _, _ => none
/-- A bound of a slice expression. -/
def bound (tm : TM) (d y : Nat) : Option Operand → Option Nat
  | none => some d
  | some o => ((ev tm o).bind asI).bind fun i => if 0 ≤ i.2 ∧ i.2 ≤ y then some i.2.toNat else none
def slice (P : Program) (tm : TM) (t : TypeId) (x : AV) (lo hi mx : Option Operand) : Option AV :=
  if mx.isSome && !hi.isSome then none else
  match P.underlying t, x with
  | some .string, .p (.lit (.string s)) => if mx.isSome then none else
    (bound tm s.size s.size hi).bind fun h => (bound tm 0 h lo).map fun l => .p (.lit (.string (s.extract l h)))
  | some (.slice e), .p (.lit (.slice none 0 0)) => (sizeT P e).bind fun _ => (bound tm 0 0 mx).bind fun m => (bound tm m m hi).bind fun h => (bound tm 0 h lo).map fun _ => .p (.lit (.slice none 0 0))
  | some (.slice e), .p (.sl sz l) => (sizeT P e).bind fun n => if sz ≠ n then none else
    match mx with
    | none => (bound tm l.length l.length hi).bind fun h => (bound tm 0 h lo).map fun k => .p (.sl sz ((l.take h).drop k))
    | some _ => none
  | some (.slice e), .sl b sz i n full => (sizeT P e).bind fun s => if sz ≠ s then none else
    match mx with
    | none => if full && hi.isSome then none else (bound tm n n hi).bind fun h => (bound tm 0 h lo).map fun k => .sl b sz (i + k) (h - k) full
    | some _ => (bound tm n n mx).bind fun m => (bound tm m m hi).bind fun h => if h = m then (bound tm 0 h lo).map fun k => .sl b sz (i + k) (h - k) true else none
  | _, _ => none
/-- A composite literal: parts into zeros. -/
def placeOf (P : Program) (t : TypeId) (i : Nat) : Option (Nat × Nat) :=
  match P.underlying t with
  | some (.struct fs) => (fs[i]?).bind fun f => (sizeT P f.type).map fun n => (f.offset, n)
  | some (.array _ e) => (sizeT P e).map fun n => (i * n, n)
  | some (.slice e) => (sizeT P e).map fun n => (i * n, n)
  | _ => none
def fillAV (P : Program) (t : TypeId) : List AV → List (Nat × AV) → Option (List AV)
  | l, [] => some l
  | l, (i, x) :: r => (placeOf P t i).bind fun p => if (cellsAV x).length = p.2 ∧ (cellsAV x).all isCell = true ∧ p.1 + p.2 ≤ l.length then fillAV P t (setFrom l p.1 (cellsAV x)) r else none
def sizes (P : Program) : List Field → Bool
  | [] => true
  | f :: r => (sizeT P f.type).isSome && sizes P r
def allSized (P : Program) (t : TypeId) : Bool :=
  match P.underlying t with
  | some (.struct fs) => sizes P fs.toList
  | some (.array _ e) => (sizeT P e).isSome
  | _ => false
def build (P : Program) (t : TypeId) (parts : List (Nat × AV)) : Option AV :=
  if allSized P t then (zeroT P t).bind fun z => match z with
    | .agg l => (fillAV P t (l.map .p) parts).map mkAgg
    | _ => none
  else none
/-- Elements of a slice literal: each one part. -/
def elems (hp : HP) (z : PV) (n : Nat) : Nat → List (Nat × AV) → Option (List PV)
  | 0, [] => some []
  | 0, _ => none
  | k + 1, [] => (elems hp z n k []).map (z :: ·)
  | k + 1, (i, x) :: r => (pureAV hp x).bind fun y => if (cellsOf y).length = n ∧ (cellsOf y).all isCellPV = true then (elems hp z n k r).map (y :: ·) else none
def inOrder : Nat → List (Nat × AV) → Bool
  | _, [] => true
  | k, (i, _) :: r => i == k && inOrder (k + 1) r
def buildSlice (P : Program) (hp : HP) (id : Nat) (t : TypeId) (len : Nat) (parts : List (Nat × AV)) : Option (AV × HP × List Nat) :=
  (elemT P t).bind fun e => (sizeT P e).bind fun n => (zeroT P e).bind fun z =>
    if 0 < n ∧ len * n ≤ 16777216 ∧ inOrder 0 parts = true ∧ (cellsOf z).length = n ∧ (cellsOf z).all isCellPV = true then
      (elems hp z n len parts).map fun l => (.sl id n 0 l.length false, [(id, .row n l)], rowsIns (parts.map (·.2)))
    else none
/-- 'make': at most 2^31 elements. -/
def makeSlice (P : Program) (id : Nat) (t : TypeId) (len cap : AV) : Option (AV × HP) :=
  (elemT P t).bind fun e => (sizeT P e).bind fun n => (zeroT P e).bind fun z => ((P.info? e).map (·.bytes)).bind fun by_ => (asI len).bind fun l => (asI cap).bind fun c =>
    if 0 < n ∧ 0 ≤ l.2 ∧ l.2 ≤ c.2 ∧ c.2 ≤ 2147483648 ∧ by_ ≤ 65536 ∧ (cellsOf z).length = n ∧ (cellsOf z).all isCellPV = true then
      some (.sl id n 0 (List.replicate l.2.toNat z).length false, [(id, .row n (List.replicate l.2.toNat z))])
    else none
def lenAV (P : Program) (t : TypeId) (x : AV) : Option Nat :=
  match P.underlying t, x with
  | some .string, .p (.lit (.string s)) => some s.size
  | some (.slice _), .p (.lit (.slice none 0 0)) => some 0
  | some (.slice _), .p (.sl _ l) => some l.length
  | some (.slice _), .sl _ _ _ n _ => some n
  | some (.array n _), _ => some n
  | _, _ => none
/-- The type of what is appended: a slice or a string. -/
def appU (P : Program) (u : TypeId) : Option TypeId :=
  match P.underlying u with
  | some (.slice e) => some e
  | some .string => some 0
  | _ => none
/-- What is appended, as elements. -/
def appended (hp : HP) (n : Nat) (x : AV) : Option (List PV) :=
  match x with
  | .p (.lit (.slice none 0 0)) => some []
  | .p (.sl sz l) => if sz = n then some l else none
  | .p (.lit (.string s)) => if n = 1 then some (bytesPV s) else none
  | .sl b sz i k _ => if sz = n then (match look hp b with
    | some (.row _ l) => some ((l.drop i).take k)
    | _ => none) else none
  | _ => none
/-- 'append': fewer than 2^31 elements. What it gives, the row that is no more, the new one. -/
def append (P : Program) (hp : HP) (id : Nat) (t u : TypeId) (s x : AV) : Option (AV × List Nat × HP) :=
  (elemT P t).bind fun e => (appU P u).bind fun _ => (sizeT P e).bind fun n => ((P.info? e).map (·.bytes)).bind fun by_ => (zeroT P e).bind fun z => (appended hp n x).bind fun new =>
    if 0 < n ∧ by_ ≤ 4096 ∧ (cellsOf z).length = n then
      match s with
      | .p (.lit (.slice none 0 0)) => if new.length < 2147483648 then some (.sl id n 0 new.length false, [], [(id, .row n new)]) else none
      | .sl b sz i k full => match look hp b with
        | some (.row _ l) => if sz = n ∧ k + new.length < 2147483648 then
            if full then (match new with | [] => some (s, [], []) | _ => some (.sl id n 0 (((l.drop i).take k) ++ new).length false, [], [(id, .row n (((l.drop i).take k) ++ new))]))
            else if i = 0 then some (.sl id n 0 ((l.take k) ++ new).length false, [b], [(id, .row n ((l.take k) ++ new))])
            else none
          else none
        | _ => none
      | _ => none
    else none

def isStrT (P : Program) (t : TypeId) : Bool :=
  match P.underlying t with
  | some .string => true
  | _ => false
/-- A string that is appended: the type of the row's elements is kept in mind. -/
def tyAp (P : Program) (t u : TypeId) (s : AV) : Option (Option Nat × AV) :=
  if isStrT P u then (elemT P t).bind fun e => match s with
    | .p (.lit (.slice none 0 0)) => some (some e, s)
    | .tsl e' b z i n => if e' = e then some (some e, .sl b z i n false) else none
    | _ => some (none, s)
  else some (none, s)
def reTy (te : Option Nat) (a : AV) : AV :=
  match te, a with
  | some e, .sl b z i n false => .tsl e b z i n
  | _, a => a
/-! ### Maps -/
def okSk : SK → PV → Bool
  | .int k, .lit (.int k' _) => decide (k = k')
  | .bool, .lit (.bool _) => true
  | .str, .lit (.string _) => true
  | _, _ => false
def okSks : List SK → List PV → Bool
  | [], [] => true
  | c :: r, x :: l => okSk c x && okSks r l
  | _, _ => false
def okK : KT → PV → Bool
  | .one c, x => okSk c x
  | .many cs, .agg l => okSks cs l
  | .many _, _ => false
def canonSk : SK → PV → PV
  | .int k, .lit (.int _ n) => .lit (.int k n)
  | .int k, _ => .lit (.int k 0)
  | .bool, .lit (.bool b) => .lit (.bool b)
  | .bool, _ => .lit (.bool false)
  | .str, .lit (.string s) => .lit (.string s)
  | .str, _ => .lit (.string .empty)
def canonSks : List SK → List PV → List PV
  | [], _ => []
  | c :: r, [] => canonSk c (.lit undef) :: canonSks r []
  | c :: r, x :: l => canonSk c x :: canonSks r l
/-- What is known of a value by its kind alone. -/
def canonK : KT → PV → PV
  | .one c, x => canonSk c x
  | .many cs, .agg l => .agg (canonSks cs l)
  | .many cs, _ => .agg (canonSks cs [])
def skT (P : Program) (t : TypeId) : Option SK :=
  match P.underlying t with
  | some (.int k) => some (.int k)
  | some .bool => some .bool
  | some .string => some .str
  | _ => none
def kFields (P : Program) : Nat → List Field → Option (List SK)
  | _, [] => some []
  | off, fd :: r => if fd.name ≠ "_" ∧ fd.offset = off then (skT P fd.type).bind fun c => (kFields P (off + 1) r).map (c :: ·) else none
def kTy (P : Program) (t : TypeId) : Option KT :=
  match P.underlying t with
  | some (.struct fs) => if P.stoodInHeld t then none else (kFields P 0 fs.toList).map .many
  | _ => (skT P t).map .one
/-- A map's keys and elements, and the zero of these. -/
def mapT (P : Program) (t : TypeId) : Option (KT × KT × PV) :=
  match P.underlying t with
  | some (.map k e) => (kTy P k).bind fun a => (kTy P e).bind fun b => (zeroT P e).bind fun z => if okK b z = true then some (a, b, z) else none
  | _ => none
def eqS : PV → PV → Bool
  | .lit (.int _ a), .lit (.int _ b) => a == b
  | .lit (.bool a), .lit (.bool b) => a == b
  | .lit (.string a), .lit (.string b) => a == b
  | _, _ => false
def eqSs : List PV → List PV → Bool
  | x :: xs, y :: ys => eqS x y && eqSs xs ys
  | _, _ => true
def eqK : PV → PV → Bool
  | .agg xs, .agg ys => eqSs xs ys
  | x, y => eqS x y
/-- The element of a key. -/
def mfind (k : PV) : List (PV × PV) → Option PV
  | [] => none
  | (a, v) :: r => bif eqK k a then some v else mfind k r
def mput (k v : PV) : List (PV × PV) → List (PV × PV)
  | [] => [(k, v)]
  | (a, x) :: r => bif eqK k a then (k, v) :: r else (a, x) :: mput k v r
def resM (ok : Bool) (v : PV) (b : Bool) : AV := if ok then .tup [.p v, .p (.lit (.bool b))] else .p v
def lookupM (P : Program) (hp : HP) (t : TypeId) (x i : AV) (ok : Bool) : Option AV :=
  (mapT P t).bind fun m => (pureAV hp i).bind fun k => if okK m.1 k = true then
    (match x with
    | .mp b => match look hp b with
      | some (.map kc vc l) => if kc = m.1 ∧ vc = m.2.1 then some (resM ok (canonK m.2.1 ((mfind k l).getD m.2.2)) (mfind k l).isSome) else none
      | _ => none
    | .p (.lit (.map none)) => some (resM ok m.2.2 false)
    | _ => none)
  else none
def updateM (P : Program) (hp : HP) (t : TypeId) (x i v : AV) : Option HP :=
  (mapT P t).bind fun m => (pureAV hp i).bind fun k => (pureAV hp v).bind fun v => if okK m.1 k = true ∧ okK m.2.1 v = true then
    (match x with
    | .mp b => match look hp b with
      | some (.map kc vc l) => if kc = m.1 ∧ vc = m.2.1 then some ((b, .map kc vc (mput k v l)) :: del hp b) else none
      | _ => none
    | _ => none)
  else none
/-! ### Operations -/
def minMax (mx : Bool) : List AV → Option AV
  | [] => none
  | [x] => some x
  | .p (.lit (.int k a)) :: .p (.lit (.int k' b)) :: r => if k = k' then (match r with
      | [] => some (.p (.lit (.int k (if mx then (if b > a then b else a) else (if b < a then b else a)))))
      | .p (.lit (.int k'' c)) :: [] => if k = k'' then
          some (.p (.lit (.int k (if mx then (if c > (if b > a then b else a) then c else (if b > a then b else a)) else (if c < (if b < a then b else a) then c else (if b < a then b else a))))))
          else none
      | _ => none) else none
  | _ => none
def pickAV (c : Bool) (a b : Option AV) : Option AV :=
  match a.bind asB, b.bind asB with
  | some x, some y => some (.p (.lit (.bool (cond c x y))))
  | _, _ => cond c a b
def resAV (id : Nat) (l : List PV) : AV × HP :=
  match l with
  | [x] => mat id x
  | l => let y := mats id l; (.tup y.1, y.2)
/-- The calls of functions that are told by their data. -/
def callPV (E : Env) (cl : FuncId → List PV → R) (hp : HP) (id : Nat) (g : FuncId) (args : List AV) : Option (AV × HP × List Nat) :=
  (E.sig g).bind fun m => (pureAVs hp args).bind fun xs =>
    if xs.length = m.1.length then
      ((match E.prim g with
        | some h => h (coerces m.1 xs)
        | none => cl g (coerces m.1 xs))).map fun rs => let y := resAV id rs; (y.1, y.2, if m.2 then [] else rowsIns args)
    else none
def val (x : Option AV) : Option (AV × HP × List Nat) := x.map fun a => (a, [], [])
/-- A struct whose first field is a pointer to its own type, as strings.Builder. -/
def selfPtr (P : Program) (t : TypeId) : Bool :=
  match P.underlying t with
  | some (.struct fs) => match fs[0]? with
    | some f => match P.underlying f.type with
      | some (.pointer t') => decide (t' = t)
      | _ => false
    | none => false
  | _ => false
/-- The cells of a new variable. -/
def alloced (P : Program) (t : TypeId) (id : Nat) (z : PV) : List AV :=
  match z with
  | .agg [.lit (.pointer none), .lit (.slice none 0 0)] => if selfPtr P t then [.son id t, .p (.lit (.slice none 0 0))] else [.p (.lit (.pointer none)), .p (.lit (.slice none 0 0))]
  | z => cellsAV (.p z)
/-- Operations that write nothing that is there. -/
def opA (E : Env) (cl : FuncId → List PV → R) (tm : TM) (hp : HP) (id : Nat) (o : Oper) : Option (AV × HP × List Nat) :=
  match o.op with
  | .move x | .assign x => val (ev tm x)
  | .pick c a b => val (((ev tm c).bind asB).bind fun c => pickAV c (ev tm a) (ev tm b))
  | .alloc t => (zeroT E.P t).map fun z => (.ptr id 0 0 0, [(id, .vars (alloced E.P t id z))], [])
  | .box _ x => (ev tm x).bind fun x => if (cellsAV x).all isCell = true then some (.ptr id 0 0 0, [(id, .vars (cellsAV x))], []) else none
  | .build t ps => val ((evParts tm ps.toList).bind fun ps => build E.P t ps)
  | .buildSlice t n ps => (evParts tm ps.toList).bind fun ps => buildSlice E.P hp id t n ps
  | .load t a => val ((ev tm a).bind fun a => load E.P hp t a)
  | .nilCheck x => val ((ev tm x).bind fun x => match x with
      | .ptr b sz i j => some (.ptr b sz i j)
      | _ => none)
  | .binOp op t x y _ => val ((ev tm x).bind fun a => (ev tm y).bind fun b => bin E.P op t x y a b)
  | .unOp op _ x => val ((ev tm x).bind (un op))
  | .convert s d x => val ((ev tm x).bind fun x => match E.P.underlying s, E.P.underlying d, x with
      | some (.int _), some (.int k), .p (.lit (.int _ n)) => some (.p (.lit (.int k (k.wrap n))))
      | some .string, some .string, .p (.lit (.string s)) => some (.p (.lit (.string s)))
      | some .string, some (.slice e), .p (.lit (.string s)) => if isU8 E.P e = true then some (.p (.sl 1 (bytesPV s))) else none
      | _, _, _ => none)
  | .range t x => (ev tm x).bind fun x => match E.P.underlying t, x with
      | some .string, .p (.lit (.string s)) => some (.ptr id 0 0 0, [(id, .iter s 0)], [])
      | _, _ => none
  | .makeInterface t x => val ((ev tm x).bind fun x => match E.P.underlying t with
      | some (.interface _) => none
      | some _ => some (.iface t x)
      | none => none)
  | .makeFunc f first cap => val (if first.size = 0 then (evs tm cap.toList).map fun c => .fn f c else none)
  | .makeSlice t l c => (ev tm l).bind fun l => (ev tm c).bind fun c => (makeSlice E.P id t l c).map fun x => (x.1, x.2, [])
  | .slice t x lo hi mx => val ((ev tm x).bind fun x => slice E.P tm t x lo hi mx)
  | .fieldAddr s x f => val ((ev tm x).bind fun x => fieldAddr E.P s f x)
  | .field s x f => val ((ev tm x).bind fun x => field E.P s f x)
  | .indexAddr t x i => val ((ev tm x).bind fun x => (ev tm i).bind fun i => indexAddr E.P t x i)
  | .index t x i => val ((ev tm x).bind fun x => (ev tm i).bind fun i => index E.P t x i)
  | .extract t i => val ((ev tm t).bind fun x => match x with
      | .tup l => l[i]?
      | _ => none)
  | .makeMap t none => (mapT E.P t).map fun m => (.mp id, [(id, .map m.1 m.2.1 [])], [])
  | .lookup t x i ok => val ((ev tm x).bind fun x => (ev tm i).bind fun i => lookupM E.P hp t x i ok)
  | .call c => (evs tm c.args.toList).bind fun args => match c.callee with
      | .builtin .len => val (match c.argTypes[0]?, args with
        | some t, [x] => (lenAV E.P t x).map fun (n : Nat) => AV.p (.lit (.int .i64 (n : Int)))
        | _, _ => none)
      | .builtin .max => val (minMax true args)
      | .builtin .min => val (minMax false args)
      | .value f => match ev tm f with
        | some (.fn (.func g) []) => callPV E cl hp id g args
        | _ => none
      | _ => none
  | _ => none

/-- Operations that write. The last argument of the calls: what goes on behind. -/
def isAppend : Oper → Bool
  | { op := .call { callee := .builtin .append, .. }, .. } => true
  | { op := .store .., .. } => true
  | { op := .mapUpdate .., .. } => true
  | { op := .insert .., .. } => true
  | _ => false
def putO (d : Option Tmp) (v : AV) (tm : TM) : TM :=
  match d with
  | some d => (d, v) :: tm
  | none => tm
def idOf (fb : Nat) : Option Tmp → Nat
  | some d => fb + 64 * d
  | none => fb
def addBlks (st : St) (d : Option Tmp) (v : AV) (nb : HP) : Option St :=
  if fresh nb st.hp = true then some ⟨putO d v st.tm, st.up, nb ++ st.hp⟩ else none
def opW (E : Env) (fb : Nat) (o : Oper) (st : St) : Option St :=
  match o.op with
  | .store t a x => (ev st.tm a).bind fun a => (ev st.tm x).bind fun x => (store E.P st.hp t a x).map fun hp => ⟨putO o.dst (.p (.lit undef)) st.tm, st.up, hp⟩
  | .mapUpdate t m k v | .insert t m k v => (ev st.tm m).bind fun m => (ev st.tm k).bind fun k => (ev st.tm v).bind fun v => (updateM E.P st.hp t m k v).map fun hp => ⟨putO o.dst (.p (.lit undef)) st.tm, st.up, hp⟩
  | .call { callee := .builtin .append, args, argTypes } => (evs st.tm args.toList).bind fun l => match l, argTypes[0]?, argTypes[1]? with
      | [s, x], some t, some u => (tyAp E.P t u s).bind fun q => (append E.P st.hp (idOf fb o.dst) t u q.2 x).bind fun y => addBlks (kills y.2.1 st) o.dst (reTy q.1 y.1) y.2.2
      | _, _, _ => none
  | _ => none
/-! ### Operations whose conditions are told apart: what must be so, and what they then give -/
/-- Cells whose kind is known by their type. -/
inductive CK where
  | int (k : IntKind)
  | bool
  | str
  | sl (sz : Nat)
def cellAt (e : PV) (j : Nat) : PV := (cellsOf e).getD j (.lit undef)
def nthP (l : List PV) (i : Nat) : PV := l.getD i (.lit undef)
def getI : PV → Int
  | .lit (.int _ n) => n
  | _ => 0
def getB : PV → Bool
  | .lit (.bool b) => b
  | _ => false
def getS : PV → ByteArray
  | .lit (.string s) => s
  | _ => .empty
def getL : PV → List PV
  | .sl _ l => l
  | _ => []
def canon : CK → PV → PV
  | .int k, x => .lit (.int k (getI x))
  | .bool, x => .lit (.bool (getB x))
  | .str, x => .lit (.string (getS x))
  | .sl sz, x => .sl sz (getL x)
def okC : CK → PV → Bool
  | .int k, .lit (.int k' _) => decide (k = k')
  | .bool, .lit (.bool _) => true
  | .str, .lit (.string _) => true
  | .sl sz, .sl sz' _ => decide (sz = sz')
  | _, _ => false
def canons : List CK → PV → Nat → List PV
  | [], _, _ => []
  | c :: r, e, j => canon c (cellAt e j) :: canons r e (j + 1)
def okCs : List CK → PV → Nat → Bool
  | [], _, _ => true
  | [c], e, j => okC c (cellAt e j)
  | c :: r, e, j => okC c (cellAt e j) && okCs r e (j + 1)
def ckT (P : Program) (t : TypeId) : Option CK :=
  match P.underlying t with
  | some (.int k) => some (.int k)
  | some .bool => some .bool
  | some .string => some .str
  | some (.slice e) => (sizeT P e).map .sl
  | _ => none
def cksF (f : TypeId → Option (List CK)) : List Field → Option (List CK)
  | [] => some []
  | fd :: r => (f fd.type).bind fun a => (cksF f r).map (a ++ ·)
def cksT (P : Program) : Nat → TypeId → Option (List CK)
  | 0, _ => none
  | d + 1, t => match P.underlying t with
    | some (.struct fs) => cksF (cksT P d) fs.toList
    | some (.array m e) => (cksT P d e).map fun c => (List.replicate m c).flatten
    | _ => (ckT P t).map fun c => [c]
def loadS (P : Program) (t : TypeId) (e : PV) (j : Nat) : Option (Bool × PV) :=
  (isAggT P t).bind fun g => if g then (sizeT P t).bind fun n => (cksT P 20 t).bind fun cs => if cs.length = n ∧ 0 < n then some (okCs cs e j, .agg (canons cs e j)) else none
    else (ckT P t).map fun c => (okC c (cellAt e j), canon c (cellAt e j))
def boundS (tm : TM) (d y : Nat) : Option Operand → Option (Bool × Nat)
  | none => some (true, d)
  | some o => ((ev tm o).bind asI).map fun (i : IntKind × Int) => (leI 0 i.2 && leI i.2 y, i.2.toNat)
def sliceS (P : Program) (tm : TM) (t : TypeId) (x : AV) (lo hi mx : Option Operand) : Option (Bool × AV) :=
  if mx.isSome && !hi.isSome then none else
  match P.underlying t, x with
  | some .string, .p (.lit (.string s)) => if mx.isSome then none else
    (boundS tm s.size s.size hi).bind fun h => (boundS tm 0 h.2 lo).map fun l => (h.1 && l.1, .p (.lit (.string (s.extract l.2 h.2))))
  | some (.slice e), .p (.sl sz l) => (sizeT P e).bind fun n => if sz ≠ n then none else
    match mx with
    | none => (boundS tm l.length l.length hi).bind fun h => (boundS tm 0 h.2 lo).map fun k => (h.1 && k.1, .p (.sl sz ((l.take h.2).drop k.2)))
    | some _ => none
  | some (.slice e), .sl b sz i n full => (sizeT P e).bind fun s => if sz ≠ s then none else
    match mx with
    | none => if full && hi.isSome then none else (boundS tm n n hi).bind fun h => (boundS tm 0 h.2 lo).map fun k => (h.1 && k.1, .sl b sz (i + k.2) (h.2 - k.2) full)
    | some _ => (boundS tm n n mx).bind fun m => (boundS tm m.2 m.2 hi).bind fun h => (boundS tm 0 h.2 lo).map fun k => (m.1 && h.1 && k.1 && decide (h.2 = m.2), .sl b sz (i + k.2) (h.2 - k.2) true)
  | _, _ => none
def binS (op : BinOp) (x y : AV) : Option (Bool × AV) :=
  match op, x, y with
  | .add, .p (.lit (.string a)), .p (.lit (.string b)) => some (decide (a.size + b.size ≤ 9223372036854775807), .p (.lit (.string (a ++ b))))
  | .quo, .p (.lit (.int k a)), .p (.lit (.int k' b)) => if k = k' then some (!decide (b = 0), .p (.lit (.int k (k.wrap (a.tdiv b))))) else none
  | .rem, .p (.lit (.int k a)), .p (.lit (.int k' b)) => if k = k' then some (!decide (b = 0), .p (.lit (.int k (a.tmod b)))) else none
  | .shl, .p (.lit (.int k a)), .p (.lit (.int _ b)) => some (leI 0 b, .p (.lit (.int k (k.wrap (a * 2 ^ (min b.toNat k.bits))))))
  | .shr, .p (.lit (.int k a)), .p (.lit (.int _ b)) => some (leI 0 b, .p (.lit (.int k (a.fdiv (2 ^ (min b.toNat k.bits))))))
  | _, _, _ => none
def indexAddrS (P : Program) (t : TypeId) (x ix : AV) : Option (Bool × AV) :=
  (elemT P t).bind fun e => (sizeT P e).bind fun n => (asI ix).bind fun i =>
    match x with
    | .p (.sl sz l) => if sz = n ∧ 0 < n then some (leI 0 i.2 && ltI i.2 l.length, .eptr sz l i.2.toNat 0) else none
    | .sl b sz i0 len _ => if sz = n ∧ 0 < n then some (leI 0 i.2 && ltI i.2 len, .ptr b sz (i0 + i.2.toNat) 0) else none
    | _ => none
def indexS (P : Program) (t : TypeId) (x ix : AV) : Option (Bool × AV) :=
  (asI ix).bind fun i => match P.underlying t, x with
    | some .string, .p (.lit (.string s)) => some (leI 0 i.2 && decide (i.2.toNat < s.size), .p (.lit (.int .u8 ((s.data.getD i.2.toNat 0).toNat : Int))))
    | _, _ => none
def makeSliceS (P : Program) (id : Nat) (t : TypeId) (len cap : AV) : Option (Bool × AV × HP) :=
  (elemT P t).bind fun e => (sizeT P e).bind fun n => (zeroT P e).bind fun z => ((P.info? e).map (·.bytes)).bind fun by_ => (asI len).bind fun l => (asI cap).bind fun c =>
    if 0 < n ∧ by_ ≤ 65536 ∧ (cellsOf z).length = n ∧ (cellsOf z).all isCellPV = true then
      some (leI 0 l.2 && leI l.2 c.2 && leI c.2 2147483648, .sl id n 0 (List.replicate l.2.toNat z).length false, [(id, .row n (List.replicate l.2.toNat z))])
    else none
def val2 (x : Option (Bool × AV)) : Option (Bool × AV × HP × List Nat) := x.map fun y => (y.1, y.2, [], [])
def soft (E : Env) (tm : TM) (hp : HP) (id : Nat) (o : Oper) : Option (Bool × AV × HP × List Nat) :=
  match o.op with
  | .load t a => (ev tm a).bind fun a => match a with
    | .ptr b _ i j => match look hp b with
      | some (.row _ l) => val2 ((loadS E.P t (nthP l i) j).map fun y => (y.1, .p y.2))
      | _ => none
    | .eptr _ l i j => val2 ((loadS E.P t (nthP l i) j).map fun y => (y.1, .p y.2))
    | _ => none
  | .indexAddr t x i => val2 ((ev tm x).bind fun x => (ev tm i).bind fun i => indexAddrS E.P t x i)
  | .index t x i => val2 ((ev tm x).bind fun x => (ev tm i).bind fun i => indexS E.P t x i)
  | .slice t x lo hi mx => val2 ((ev tm x).bind fun x => sliceS E.P tm t x lo hi mx)
  | .binOp op _ x y _ => val2 ((ev tm x).bind fun a => (ev tm y).bind fun b => binS op a b)
  | .makeSlice t l c => (ev tm l).bind fun l => (ev tm c).bind fun c => (makeSliceS E.P id t l c).map fun x => (x.1, x.2.1, x.2.2, [])
  | _ => none
def appendS (P : Program) (hp : HP) (id : Nat) (t u : TypeId) (s x : AV) : Option (Bool × AV × List Nat × HP) :=
  (elemT P t).bind fun e => (appU P u).bind fun _ => (sizeT P e).bind fun n => ((P.info? e).map (·.bytes)).bind fun by_ => (zeroT P e).bind fun z => (appended hp n x).bind fun new =>
    if 0 < n ∧ by_ ≤ 4096 ∧ (cellsOf z).length = n then
      match s with
      | .p (.lit (.slice none 0 0)) => some (decide (new.length < 2147483648), .sl id n 0 new.length false, [], [(id, .row n new)])
      | .sl b sz i k full => match look hp b with
        | some (.row _ l) => if sz = n ∧ full = false ∧ i = 0 then
            some (decide (k + new.length < 2147483648), .sl id n 0 ((l.take k) ++ new).length false, [b], [(id, .row n ((l.take k) ++ new))])
          else none
        | _ => none
      | _ => none
    else none
def storeS (P : Program) (hp : HP) (t : TypeId) (a : AV) (x : AV) : Option (Bool × HP) :=
  (sizeT P t).bind fun n =>
  if (cellsAV x).length = n ∧ (cellsAV x).all isCell = true then
    match a with
    | .ptr b _ i j => match look hp b with
      | some (.row sz l) => (if rowsIns (cellsAV x) = [] then pureAVs hp (cellsAV x) else none).bind fun xs => if 0 < sz then some (decide (i < l.length) && decide (j + n ≤ (cellsOf (nthP l i)).length), (b, .row sz (l.set i (setPV (nthP l i) j xs))) :: del hp b) else none
      | _ => none
    | _ => none
  else none
def softW (E : Env) (fb : Nat) (o : Oper) (st : St) : Option (Bool × St) :=
  match o.op with
  | .store t a x => (ev st.tm a).bind fun a => (ev st.tm x).bind fun x => (storeS E.P st.hp t a x).map fun y => (y.1, ⟨putO o.dst (.p (.lit undef)) st.tm, st.up, y.2⟩)
  | .call { callee := .builtin .append, args, argTypes } => (evs st.tm args.toList).bind fun l => match l, argTypes[0]?, argTypes[1]? with
      | [s, x], some t, some u => (tyAp E.P t u s).bind fun q => (appendS E.P st.hp (idOf fb o.dst) t u q.2 x).bind fun y => (addBlks (kills y.2.2.1 st) o.dst (reTy q.1 y.2.1) y.2.2.2).map fun st' => (y.1, st')
      | _, _, _ => none
  | _ => none
/-- An operation that is a call of a function that is walked in place: the function, its arguments. -/
def inPlace (E : Env) (tm : TM) (o : Oper) : Option (FuncId × List AV) :=
  match o.op with
  | .call { callee := .value f, args, .. } => (evs tm args.toList).bind fun l => match ev tm f with
      | some (.fn (.func g) cap) => if cap.isEmpty && (E.sig g).isSome then none else some (g, l ++ cap)
      | _ => none
  | _ => none
abbrev Run := FuncId → List AV → HP → List TM → Nat → (List AV → HP → List TM → R) → R
def runIn (E : Env) (rn : Run) : Run := fun g args hp up fb K => match E.ipk g with
  | some h => h args hp up K
  | none => rn g args hp up fb K
def resTup : List AV → AV
  | [x] => x
  | l => .tup l
/-- A call of a function that is told by a Lean function, what goes on behind it handed in: its data, the rows that are given away. -/
def pkOf (E : Env) (tm : TM) (hp : HP) (o : Oper) : Option (FuncId × (List PV → (List PV → R) → R) × List PV × List Nat) :=
  match o.op with
  | .call c => match c.callee with
    | .value f => match ev tm f with
      | some (.fn (.func g) []) => (E.pk g).bind fun h => (E.sig g).bind fun m => (evs tm c.args.toList).bind fun args => (pureAVs hp args).bind fun xs =>
          some (g, h, coerces m.1 xs, if m.2 then [] else rowsIns args)
      | _ => none
    | _ => none
  | _ => none
/-- The next sign of a string that is ranged over. -/
def nextOf (tm : TM) (hp : HP) (o : Oper) : Option (Nat × ByteArray × Nat) :=
  match o.op with
  | .next it true => (ev tm it).bind fun a => match a with
    | .ptr b _ _ 0 => match look hp b with
      | some (.iter s pos) => some (b, s, pos)
      | _ => none
    | _ => none
  | _ => none
/-- Where the numbers of a callee's blocks begin: behind all that are taken. -/
def maxId : HP → Nat
  | [] => 0
  | (b, _) :: r => Nat.max b (maxId r)
def nextFb (n : Nat) (hp : HP) : Nat := bif Nat.blt (maxId hp) n then n else (maxId hp / 65536 + 1) * 65536
def step (E : Env) (cl : FuncId → List PV → R) (rn : Run) (fb nt : Nat) (o : Oper) (st : St) (K : St → R) : R :=
  match inPlace E st.tm o with
  | some (g, args) => runIn E rn g args st.hp (st.tm :: st.up) (nextFb (fb + 64 * (nt + 1)) st.hp) fun rs hp up => match up with
    | tm :: up => K ⟨putO o.dst (resTup rs) tm, up, hp⟩
    | [] => none
  | none =>
    if isAppend o then (match softW E fb o st with
      | some y => cond y.1 (K y.2) none
      | none => (opW E fb o st).bind K)
    else match nextOf st.tm st.hp o with
    | some (b, s, pos) => cond (decide (pos < s.size))
        (K ⟨putO o.dst (.tup [.p (.lit (.bool true)), .p (.lit (.int .i64 (pos : Int))), .p (.lit (.int .i32 (Utf8.decode s pos).1))]) st.tm, st.up, (b, .iter s (pos + (Utf8.decode s pos).2)) :: del st.hp b⟩)
        (K ⟨putO o.dst (.tup [.p (.lit (.bool false))]) st.tm, st.up, st.hp⟩)
    | none => match pkOf E st.tm st.hp o with
      | some y => y.2.1 y.2.2.1 fun rs => (addBlks (kills y.2.2.2 st) o.dst (resAV (idOf fb o.dst) rs).1 (resAV (idOf fb o.dst) rs).2).bind K
      | none => match soft E st.tm st.hp (idOf fb o.dst) o with
        | some y => cond y.1 ((addBlks (kills y.2.2.2 st) o.dst y.2.1 y.2.2.1).bind K) none
        | none => (opA E cl st.tm st.hp (idOf fb o.dst) o).bind fun y => (addBlks (kills y.2.2 st) o.dst y.1 y.2.1).bind K
def branch (want b : Bool) (x y : R) : R :=
  match want with
  | true => cond b x y
  | false => cond b y x
def opsK (E : Env) (cl : FuncId → List PV → R) (rn : Run) (fb nt : Nat) (ops : Array Oper) : List Oper → St → (St → R) → R
  | [], st, K => K st
  | o :: r, st, K =>
    match o.guard with
    | none => step E cl rn fb nt o st fun st => opsK E cl rn fb nt ops r st K
    | some (j, want) =>
      match (ops[j]?).bind (·.dst) with
      | none => none
      | some d =>
        match look st.tm d with
        | some (.p (.lit (.bool b))) =>
          branch want b (step E cl rn fb nt o ⟨(d, .p (.lit (.bool want))) :: st.tm, st.up, st.hp⟩ fun st => opsK E cl rn fb nt ops r st K)
            (opsK E cl rn fb nt ops r ⟨putO o.dst (.p (.lit undef)) ((d, .p (.lit (.bool !want))) :: st.tm), st.up, st.hp⟩ K)
        | some (.p (.lit (.tuple _))) => opsK E cl rn fb nt ops r ⟨putO o.dst (.p (.lit undef)) st.tm, st.up, st.hp⟩ K
        | _ => none

/-! ### Regions whose order is drawn -/
def afters (o : Oper) : List Nat := (o.after.toList.filter (Region.binds .any)).map (·.on)
def maskOf (acc : List Nat) : List Nat → Nat
  | [] => 0
  | j :: r => (1 <<< j) ||| (acc.getD j 0 ||| maskOf acc r)
/-- For each operation: all that must come ahead of it, as bits. -/
def ancs : List Oper → List Nat → Option (List Nat)
  | [], acc => some acc
  | o :: r, acc => if (afters o).all (· < acc.length) = true then ancs r (acc ++ [maskOf acc (afters o)]) else none
def cutAt (m : List Nat) (c : Nat) : Bool := (m.drop c).all fun a => a &&& (2 ^ c - 1) == 2 ^ c - 1
def splitSegs (m : List Nat) : Nat → List Oper → List (Nat × Oper) → List (List (Nat × Oper))
  | _, [], cur => [cur]
  | c, o :: r, cur => if cutAt m c then cur :: splitSegs m (c + 1) r [(c, o)] else splitSegs m (c + 1) r (cur ++ [(c, o)])
/-- What an operation of a segment reads is there before it; no slot is written twice. -/
def readOK (ops : Array Oper) (m : List Nat) (s : List (Nat × Oper)) (x : Nat × Oper) : Bool :=
  s.all fun y => match y.2.dst with
    | none => true
    | some d => (if (x.2.looksAt ops).contains d then decide (y.1 < x.1) && (m.getD x.1 0).testBit y.1 else true) && (if x.2.dst = some d then x.1 == y.1 else true)
def segsOK (ops : Array Oper) (m : List Nat) : Nat → List (List (Nat × Oper)) → Bool
  | _, [] => true
  | c, s :: r => cutAt m (c + s.length) && s.all (readOK ops m s) && segsOK ops m (c + s.length) r
def segsOf (ops : Array Oper) : Option (List (List (Nat × Oper))) :=
  (ancs ops.toList []).bind fun m => if segsOK ops m 0 (splitSegs m 0 ops.toList []) = true then some (splitSegs m 0 ops.toList []) else none
/-- An operation of a segment: it writes nothing. -/
def freeOp (E : Env) (cl : FuncId → List PV → R) (fb : Nat) (o : Oper) (st : St) (K : St → R) : R :=
  match pkOf E st.tm st.hp o with
  | some y => y.2.1 y.2.2.1 fun rs => match y.2.2.2 with
    | [] => (addBlks st o.dst (resAV (idOf fb o.dst) rs).1 (resAV (idOf fb o.dst) rs).2).bind K
    | _ => none
  | none => match soft E st.tm st.hp (idOf fb o.dst) o with
    | some y => cond y.1 (match y.2.2.2 with
      | [] => (addBlks st o.dst y.2.1 y.2.2.1).bind K
      | _ => none) none
    | none => (opA E cl st.tm st.hp (idOf fb o.dst) o).bind fun y => match y.2.2 with
      | [] => (addBlks st o.dst y.1 y.2.1).bind K
      | _ => none
/-- Operations of a segment: in whatever order they come, they write nothing. -/
def freeK (E : Env) (cl : FuncId → List PV → R) (fb : Nat) (ops : Array Oper) : List (Nat × Oper) → St → (St → R) → R
  | [], st, K => K st
  | (_, o) :: r, st, K =>
    match o.guard with
    | none => freeOp E cl fb o st fun st => freeK E cl fb ops r st K
    | some (j, want) =>
      match (ops[j]?).bind (·.dst) with
      | none => none
      | some d =>
        match look st.tm d with
        | some (.p (.lit (.bool b))) =>
          branch want b (freeOp E cl fb o ⟨(d, .p (.lit (.bool want))) :: st.tm, st.up, st.hp⟩ fun st => freeK E cl fb ops r st K)
            (freeK E cl fb ops r ⟨putO o.dst (.p (.lit undef)) ((d, .p (.lit (.bool !want))) :: st.tm), st.up, st.hp⟩ K)
        | some (.p (.lit (.tuple _))) => freeK E cl fb ops r ⟨putO o.dst (.p (.lit undef)) st.tm, st.up, st.hp⟩ K
        | _ => none
def segK (E : Env) (cl : FuncId → List PV → R) (rn : Run) (fb nt : Nat) (ops : Array Oper) : List (List (Nat × Oper)) → St → (St → R) → R
  | [], st, K => K st
  | s :: r, st, K => match s with
    | [(_, o)] => opsK E cl rn fb nt ops [o] st fun st => segK E cl rn fb nt ops r st K
    | s => freeK E cl fb ops s st fun st => segK E cl rn fb nt ops r st K
/-! ### Code -/
/-- Blocks that an earlier round of a region made are no more when it begins again. -/
def staleD (fb : Nat) : List Oper → List Nat
  | [] => []
  | o :: r => match o.dst with
    | some d => if isAppend o then staleD fb r else (fb + 64 * d) :: staleD fb r
    | none => staleD fb r
def stale (l : List Nat) : HP → List Nat
  | [] => []
  | (b, _) :: r => if l.any (fun x => decide (x ≤ b) && decide (b < x + 32)) then b :: stale l r else stale l r
def firstReg : Code → Option Nat
  | .region id _ _ => some id
  | .seq a b => match firstReg a with
    | some x => some x
    | none => firstReg b
  | .block _ c => firstReg c
  | .loop c => firstReg c
  | .cond _ a b => match firstReg a with
    | some x => some x
    | none => firstReg b
  | _ => none
/-- A row gets another number. -/
def renameRow (b id : Nat) (st : St) : Option St :=
  if b = id then some st else
  match look st.hp b with
  | some (.row s l) => let st' := kill b st
    if (look st'.hp id).isNone then some ⟨st'.tm, st'.up, (id, .row s l) :: st'.hp⟩ else none
  | _ => none
def growSlot (fb s sz : Nat) (st : St) : Option St :=
  match look st.tm s with
  | some (.p (.lit (.slice none 0 0))) =>
    if (look st.hp (fb + 64 * s + 32)).isNone then some ⟨(s, .sl (fb + 64 * s + 32) sz 0 0 false) :: st.tm, st.up, (fb + 64 * s + 32, .row sz []) :: st.hp⟩ else none
  | some (.sl b z i n f) => (renameRow b (fb + 64 * s + 32) st).map fun st => ⟨(s, .sl (fb + 64 * s + 32) z i n f) :: st.tm, st.up, st.hp⟩
  | _ => none
def slOf : AV → Option (Option Nat × Nat × Nat × Nat × Nat × Bool)
  | .sl b z i n f => some (none, b, z, i, n, f)
  | .tsl e b z i n => some (some e, b, z, i, n, false)
  | _ => none
def mkS (te : Option Nat) (b z i n : Nat) (f : Bool) : AV :=
  match te with
  | some e => .tsl e b z i n
  | none => .sl b z i n f
def teOf (sz : Nat) : Option Nat := if sz < 65536 then none else some (sz / 65536)
def growCell (fb s j sz : Nat) (st : St) : Option St :=
  match look st.tm s with
  | some (.ptr v _ _ _) => match look st.hp v with
    | some (.vars l) => match l[j]? with
      | some (.p (.lit (.slice none 0 0))) =>
        if (look st.hp (fb + 64 * s + 33 + j)).isNone then some ⟨st.tm, st.up, (v, .vars (l.set j (mkS (teOf sz) (fb + 64 * s + 33 + j) (sz % 65536) 0 0 false))) :: (fb + 64 * s + 33 + j, .row (sz % 65536) []) :: del st.hp v⟩ else none
      | some (.son _ _) => some st
      | some x => match slOf x with
        | some (te, b, z, i, n, f) => if b = v then none else (renameRow b (fb + 64 * s + 33 + j) st).bind fun st => match look st.hp v with
          | some (.vars l) => some ⟨st.tm, st.up, (v, .vars (l.set j (mkS te (fb + 64 * s + 33 + j) z i n f))) :: del st.hp v⟩
          | _ => none
        | none => none
      | none => none
    | _ => none
  | _ => none
def grows (fb : Nat) : List (Nat × Nat) → St → Option St
  | [], st => some st
  | (s, sz) :: r, st => (growSlot fb s sz st).bind (grows fb r)
def growCells (fb : Nat) : List (Nat × Nat × Nat) → St → Option St
  | [], st => some st
  | (s, j, sz) :: r, st => (growCell fb s j sz st).bind (growCells fb r)
def keepT (tm : TM) : List Nat → Option TM
  | [] => some []
  | s :: r => (look tm s).bind fun a => (keepT tm r).map ((s, a) :: ·)
def idsT : TM → List Nat
  | [] => []
  | (_, a) :: r => ids a ++ idsT r
def gather (hp : HP) : Nat → List Nat → HP → Option HP
  | 0, _, _ => none
  | _ + 1, [], acc => some acc.reverse
  | n + 1, b :: r, acc => match look acc b with
    | some _ => gather hp n r acc
    | none => match look hp b with
      | some k => gather hp n (idsBlk k ++ r) ((b, k) :: acc)
      | none => none
def cleanA (hp : HP) (a : AV) : AV := if (ids a).all (fun b => (look hp b).isSome) then a else .dead
def cleanT (hp : HP) : TM → TM
  | [] => []
  | (s, a) :: r => (s, cleanA hp a) :: cleanT hp r
def cleanB (hp : HP) : Blk → Blk
  | .row sz l => .row sz l
  | .iter s p => .iter s p
  | .map kc vc l => .map kc vc l
  | .vars l => .vars (l.map (cleanA hp))
def cleanH (hp : HP) : HP → HP
  | [] => []
  | (b, k) :: r => (b, cleanB hp k) :: cleanH hp r
def below (fb : Nat) : HP → HP
  | [] => []
  | (b, k) :: r => if b < fb then (b, k) :: below fb r else below fb r
def restr (fb : Nat) (l : List Nat) (st : St) : Option St :=
  (keepT st.tm l).bind fun tm => (gather st.hp 64 (idsT tm) []).map fun hp =>
    ⟨cleanT (hp ++ below fb st.hp) tm, st.up.map (cleanT (hp ++ below fb st.hp)), cleanH (hp ++ below fb st.hp) (hp ++ below fb st.hp)⟩
def masked (m : Option Mask) (fb : Nat) (st : St) : Option St :=
  match m with
  | none => some st
  | some m => (grows fb m.grow st).bind fun st => (growCells fb m.cells st).bind fun st => restr fb m.keep st
/-- Rounds of a loop; f, fb, c: which loop it is. -/
def loopK (f fb : Nat) (c : Code) (mk : St → Option St) (body : St → (Ex → St → R) → R) : Nat → St → (Ex → St → R) → R
  | 0, _, _ => none
  | n + 1, st, K => body st fun e st => match e with
    | .normal => (mk st).bind fun st => loopK f fb c mk body n st K
    | e => K e st
def code (E : Env) (cl : FuncId → List PV → R) (rn : Run) (f : FuncId) (fb nt n : Nat) : Code → St → (Ex → St → R) → R
  | .skip, st, K => K .normal st
  | .region _ ops false, st, K => opsK E cl rn fb nt ops ops.toList (kills (stale (staleD fb ops.toList) st.hp) st) (K .normal)
  | .region _ ops true, st, K => (segsOf ops).bind fun s => segK E cl rn fb nt ops s (kills (stale (staleD fb ops.toList) st.hp) st) (K .normal)
  | .seq a b, st, K => code E cl rn f fb nt n a st fun e st => match e with
    | .normal => code E cl rn f fb nt n b st K
    | e => K e st
  | .cond c a b, st, K => match (ev st.tm c).bind asB with
    | some x => cond x (code E cl rn f fb nt n a st K) (code E cl rn f fb nt n b st K)
    | none => none
  | .block id c, st, K => code E cl rn f fb nt n c st fun e st => match e with
    | .exit id' => if id' = id then K .normal st else K e st
    | e => K e st
  | .loop c, st, K => (masked ((firstReg c).bind (E.mask f)) fb st).bind fun st =>
      loopK f fb c (masked ((firstReg c).bind (E.mask f)) fb) (fun st K => code E cl rn f fb nt n c st K) n st K
  | .exit id, st, K => K (.exit id) st
  | .ret, st, K => K .ret st
  | _, _, _ => none
def argTM : Nat → List AV → TM
  | _, [] => []
  | j, a :: r => (j, a) :: argTM (j + 1) r
def resultsAV (P : Program) (st : St) : List ResultVar → Option (List AV)
  | [] => some []
  | .tmp t :: r => (look st.tm t).bind fun a => (resultsAV P st r).map (a :: ·)
  | .cell t ty :: r => (look st.tm t).bind fun a => (load P st.hp ty a).bind fun x => (resultsAV P st r).map (x :: ·)
/-- Results whose slices hold no slices. -/
def flatC : PV → Bool
  | .sl _ l => l.all fun e => (cellsOf e).all isLit
  | .ifc => true
  | x => isLit x
def flatR : List PV → Bool
  | [] => true
  | x :: r => (cellsOf x).all flatC && flatR r
def endR (fl : Bool) (hp : HP) (rs : List AV) : R :=
  (pureRs hp rs).bind fun y => cond (!fl || flatR y.1) (some y.1) none
def isFlat (E : Env) (g : FuncId) : Bool :=
  match E.sig g with
  | some m => m.2
  | none => false
/-- A call, walked in place, with n rounds of each loop, k calls deep. -/
def runAV (E : Env) (n : Nat) : Nat → Run
  | 0, _, _, _, _, _, _ => none
  | k + 1, g, args, hp, up, fb, K =>
    match E.P.funcs[g]? with
    | none => none
    | some fn => match fn.body with
      | none => none
      | some c =>
        if E.okf g = true ∧ args.length ≤ fn.ntmps then
          code E (fun g xs => runAV E n k g (xs.map avP) [] [] 0 fun rs hp _ => endR (isFlat E g) hp rs) (runAV E n k) g fb fn.ntmps n c ⟨argTM 0 args, up, hp⟩ fun e st => match e with
            | .exit _ => none
            | _ => (resultsAV E.P st fn.results.toList).bind fun rs => K rs st.hp st.up
        else none
/-- What goes on behind a function that is told by its data. -/
def kM (E : Env) (g : FuncId) : List AV → HP → List TM → R := fun rs hp _ => endR (isFlat E g) hp rs
/-- A call of a function that is told by its data. -/
def runPV (E : Env) (n k : Nat) (g : FuncId) (xs : List PV) : R := runAV E n k g (xs.map avP) [] [] 0 (kM E g)
/-! ### Loops by name -/
def subAt : Code → List Nat → Code
  | c, [] => c
  | .seq a b, d :: p => match d with
    | 0 => subAt a p
    | _ => subAt b p
  | .cond _ a b, d :: p => match d with
    | 0 => subAt a p
    | _ => subAt b p
  | .block _ c, _ :: p => subAt c p
  | .loop c, _ :: p => subAt c p
  | c, _ => c
def loopBody : Code → Code
  | .loop c => c
  | c => c
def bodyF (E : Env) (g : FuncId) : Code := ((E.P.funcs[g]?).bind (·.body)).getD .skip
def ntF (E : Env) (g : FuncId) : Nat := ((E.P.funcs[g]?).map (·.ntmps)).getD 0
def resF (E : Env) (g : FuncId) : List ResultVar := ((E.P.funcs[g]?).map (·.results.toList)).getD []
def clAt (E : Env) (n k : Nat) : FuncId → List PV → R := fun g xs => runAV E n k g (xs.map avP) [] [] 0 fun rs hp _ => endR (isFlat E g) hp rs
/-- What goes on behind a place in the code; q: the rounds that are left to the loops around it. -/
def contAt (E : Env) (n k : Nat) (g fb : Nat) : Code → List Nat → List Nat → (Ex → St → R) → (Ex → St → R)
  | .seq a b, d :: p, q, K => match d with
    | 0 => contAt E n k g fb a p q fun e st => match e with
      | .normal => code E (clAt E n k) (runAV E n k) g fb (ntF E g) n b st K
      | e => K e st
    | _ => contAt E n k g fb b p q K
  | .cond _ a b, d :: p, q, K => match d with
    | 0 => contAt E n k g fb a p q K
    | _ => contAt E n k g fb b p q K
  | .block id c, _ :: p, q, K => contAt E n k g fb c p q fun e st => match e with
    | .exit id' => if id' = id then K .normal st else K e st
    | e => K e st
  | .loop c, _ :: p, m :: q, K => contAt E n k g fb c p q fun e st => match e with
    | .normal => (masked ((firstReg c).bind (E.mask g)) fb st).bind fun st =>
      loopK g fb c (masked ((firstReg c).bind (E.mask g)) fb) (fun st K => code E (clAt E n k) (runAV E n k) g fb (ntF E g) n c st K) m st K
    | e => K e st
  | _, _, _, K => K
def topK (E : Env) (g : FuncId) (K : List AV → HP → List TM → R) : Ex → St → R := fun e st => match e with
  | .exit _ => none
  | _ => (resultsAV E.P st (resF E g)).bind fun rs => K rs st.hp st.up
/-- A loop of a function with m rounds left, and all behind it. -/
def Lp (E : Env) (n k g fb : Nat) (p q : List Nat) (m : Nat) (st : St) (K : List AV → HP → List TM → R) : R :=
  loopK g fb (loopBody (subAt (bodyF E g) p)) (masked ((firstReg (loopBody (subAt (bodyF E g) p))).bind (E.mask g)) fb) (fun st K => code E (clAt E n k) (runAV E n k) g fb (ntF E g) n (loopBody (subAt (bodyF E g) p)) st K) m st (contAt E n k g fb (bodyF E g) p q (topK E g K))
end Go.Proofs.YtalfnpdgajfkiaaDoor.Ax
