/- The abstract interpreter: values, heaps, operations, code. Conditions: none (definitions and their plain laws). -/
import Derived.Orders
import Derived.LoopN
import Derived.Tactics
import Derived.Laws.Sem
import Derived.Laws.World
import Derived.Laws.AppendOwn
import Derived.Below
set_option linter.unusedVariables false
namespace Go.AI

/-! ### 1. Values -/
/-- Abstract values: `v` a value without addresses; `sl` a slice that nobody writes (its elements' cells; `full`: its capacity is its length); `pt` a pointer into cells that nobody writes;
`ms`, `mp`, `mm`: a slice, a pointer, a map of the call's own heap (block, version ..); `ag` a struct or an array; `tu` several results; `fn` a function with what it captured. -/
inductive AV where
  | v (x : Value)
  | sl (full : Bool) (n : Nat) (cs : List AV)
  | pt (cs : List AV) (off : Nat)
  | ms (b ver off n sz : Nat)
  | mp (b ver off : Nat)
  | mm (b : Nat)
  | ag (cs : List AV)
  | tu (vs : List AV)
  | fn (f : FuncId) (caps : List AV)

/-- A block of the own heap. -/
inductive AB where
  | cells (live : Bool) (ver : Nat) (cs : List AV)
  | map (es : List (AV × AV))
abbrev Heap := List AB
abbrev G := Nat → Option AV
abbrev Env := List (Nat × AV)
abbrev Cl := FuncId → List AV → Heap → Option (AV × Heap)

def obind {α β : Type} (x : Option α) (f : α → Option β) : Option β := match x with | some a => f a | none => none
theorem obind_some {α β : Type} (a : α) (f : α → Option β) : obind (some a) f = f a := rfl
theorem obind_none {α β : Type} (f : α → Option β) : obind none f = none := rfl
theorem obind_eq {α β : Type} {x : Option α} {f : α → Option β} {r : β} (h : obind x f = some r) : ∃ a, x = some a ∧ f a = some r := by
  cases x with
  | none => cases h
  | some a => exact ⟨a, rfl, h⟩

def Env.get : Env → G
  | [], _ => none
  | (j, x) :: r, i => if j = i then some x else Env.get r i
def Env.put : Env → Nat → AV → Env
  | [], i, y => [(i, y)]
  | (j, x) :: r, i, y => if j = i then (i, y) :: r else if i < j then (i, y) :: (j, x) :: r else (j, x) :: Env.put r i y
def Env.keep (ks : List Nat) : Env → Env
  | [] => []
  | (j, x) :: r => if ks.contains j then (j, x) :: Env.keep ks r else Env.keep ks r
def putA (e : Env) (d : Option Nat) (x : AV) : Env := match d with | some i => e.put i x | none => e
def Env.ofList : Nat → List AV → Env
  | _, [] => []
  | i, x :: r => (i, x) :: Env.ofList (i + 1) r

mutual
/-- Closed: no reference into the own heap, no mark `full` outside a slice. -/
def AV.good : AV → Bool
  | .v _ => true
  | .sl full _ _ => !full
  | .pt _ _ => true
  | .ms .. => false
  | .mp .. => false
  | .mm _ => false
  | .ag cs => goodL cs
  | .tu vs => goodL vs
  | .fn _ cs => goodL cs
def goodL : List AV → Bool
  | [] => true
  | x :: r => x.good && goodL r
end
/-- Scalars: nothing that leads to memory. -/
def AV.isV : AV → Bool
  | .v _ => true
  | _ => false
def AV.scalar1 : AV → Bool
  | .v _ => true
  | .ag cs => cs.all AV.isV
  | _ => false
def AV.scalar : AV → Bool
  | .tu vs => vs.all AV.scalar1
  | x => x.scalar1

def ofCell : Value → AV
  | .slice none 0 0 => .sl true 0 []
  | x => .v x
def ofVal : Value → AV
  | .agg cs => .ag (cs.toList.map ofCell)
  | .tuple vs => .tu (vs.toList.map ofCell)
  | x => ofCell x
def cstB : Value → Bool
  | .agg cs => cs.toList.all Value.oneCell'
  | .tuple vs => vs.toList.all Value.oneCell'
  | _ => true
def aev (g : G) : Operand → Option AV
  | .tmp t => g t
  | .const x => if cstB x then some (ofVal x) else none
  | .func f => some (.fn f [])
  | .global _ => none
def aevs (g : G) : List Operand → Option (List AV)
  | [] => some []
  | o :: r => obind (aev g o) fun x => obind (aevs g r) fun xs => some (x :: xs)
def flat : AV → List AV
  | .ag cs => cs
  | x => [x]
/-- What may stand in one cell. -/
def AV.cellB : AV → Bool
  | .ag _ => false
  | .tu _ => false
  | _ => true

/-! ### 2. Types -/
def aggT (P : Program) (t : TypeId) : Option Bool :=
  match P.underlying t with
  | some (.struct _) => some true
  | some (.array _ _) => some true
  | some _ => some false
  | none => none
def zeroT (P : Program) (t : TypeId) : Option AV := obind (P.info? t) fun i => obind i.zero fun x => if cstB x then some (ofVal x) else none

/-! ### 3. Memory -/
/-- The cells of a slice with its length. -/
def slc (H : Heap) : AV → Option (Nat × List AV)
  | .sl _ n cs => some (n, cs)
  | .ms b ver off n sz =>
    match H[b]? with
    | some (.cells _ ver' cs) => if ver' = ver then if off + n * sz ≤ cs.length then some (n, (cs.drop off).take (n * sz)) else none else none
    | _ => none
  | _ => none
/-- A reference that is up to date. -/
def refA (H : Heap) : AV → Option AV
  | .ms b ver off n sz =>
    match H[b]? with
    | some (.cells _ ver' _) => if ver' = ver then some (.ms b ver off n sz) else none
    | _ => none
  | .mp b ver off =>
    match H[b]? with
    | some (.cells _ ver' _) => if ver' = ver then some (.mp b ver off) else none
    | _ => none
  | x => some x
/-- The cells behind a pointer, and the place among them. -/
def cellsAt (H : Heap) : AV → Option (List AV × Nat)
  | .pt cs off => some (cs, off)
  | .mp b ver off =>
    match H[b]? with
    | some (.cells _ ver' cs) => if ver' = ver then some (cs, off) else none
    | _ => none
  | _ => none
def partA (P : Program) (t : TypeId) (cs : List AV) (off : Nat) : Option AV :=
  match aggT P t with
  | some true => if off + P.cellsOf t ≤ cs.length then some (.ag ((cs.drop off).take (P.cellsOf t))) else none
  | some false => cs[off]?
  | none => none
def splice (cs : List AV) (off : Nat) : List AV → List AV
  | [y] => cs.set off y
  | ys => cs.take off ++ ys ++ cs.drop (off + ys.length)
/-- Cells that are stored by a new variable: a nil slice gets an empty block of its own. -/
def virt : List AV → Heap → List AV × Heap
  | [], H => ([], H)
  | .sl true 0 [] :: r, H => let q := virt r (H ++ [.cells true 0 []]); (.ms H.length 0 0 0 0 :: q.1, q.2)
  | x :: r, H => let q := virt r H; (x :: q.1, q.2)
def newVarA (cs : List AV) (H : Heap) : AV × Heap :=
  let q := virt cs H
  (.mp q.2.length 0 0, q.2 ++ [.cells true 0 q.1])

def AB.freeze : AB → AB
  | .cells _ ver cs => .cells false ver cs
  | x => x
def markA (H : Heap) : List Nat → Heap
  | [] => H
  | b :: r => markA (match H[b]? with | some x => H.set b x.freeze | none => H) r

def mapC (f : AV → Option (AV × List Nat)) : List AV → Option (List AV × List Nat)
  | [] => some ([], [])
  | x :: r => obind (f x) fun y => obind (mapC f r) fun q => some (y.1 :: q.1, y.2 ++ q.2)
/-- A closed copy, and the blocks that were read for it. -/
def closeA : Nat → Heap → AV → Option (AV × List Nat)
  | 0, _, _ => none
  | k + 1, H, x =>
    if x.good then some (x, []) else
    match x with
    | .sl _ n cs => some (.sl false n cs, [])
    | .ag cs => obind (mapC (closeA k H) cs) fun q => some (.ag q.1, q.2)
    | .tu cs => obind (mapC (closeA k H) cs) fun q => some (.tu q.1, q.2)
    | .ms b ver off n sz =>
      match H[b]? with
      | some (.cells _ ver' cs) => if ver' = ver then if off + n * sz ≤ cs.length then obind (mapC (closeA k H) ((cs.drop off).take (n * sz))) fun q => some (.sl false n q.1, b :: q.2) else none else none
      | _ => none
    | .mp b ver off =>
      match H[b]? with
      | some (.cells _ ver' cs) => if ver' = ver then obind (mapC (closeA k H) cs) fun q => some (.pt q.1 off, b :: q.2) else none
      | _ => none
    | _ => none
def depthA : Nat := 40

/-! ### 4. Operations on values -/
def acmp (op : BinOp) (a b : Int) : Option Bool :=
  match op with
  | .eql => some (a == b)
  | .neq => some (a != b)
  | .lss => some (decide (a < b))
  | .leq => some (decide (a ≤ b))
  | .gtr => some (decide (a > b))
  | .geq => some (decide (a ≥ b))
  | _ => none
def aint (op : BinOp) (k : IntKind) (a b : Int) : Option Value :=
  match op with
  | .add => some (.int k (k.wrap (a + b)))
  | .sub => some (.int k (k.wrap (a - b)))
  | .mul => some (.int k (k.wrap (a * b)))
  | .quo => if b = 0 then none else some (.int k (k.wrap (a.tdiv b)))
  | .rem => if b = 0 then none else some (.int k (a.tmod b))
  | .and => some (.int k (k.wrap (BitVec.ofInt k.bits a &&& BitVec.ofInt k.bits b).toNat))
  | .or => some (.int k (k.wrap (BitVec.ofInt k.bits a ||| BitVec.ofInt k.bits b).toNat))
  | .xor => some (.int k (k.wrap (BitVec.ofInt k.bits a ^^^ BitVec.ofInt k.bits b).toNat))
  | .andNot => some (.int k (k.wrap (BitVec.ofInt k.bits a &&& ~~~(BitVec.ofInt k.bits b)).toNat))
  | op => obind (acmp op a b) fun t => some (.bool t)
def ashift (op : BinOp) (k : IntKind) (a b : Int) : Option Value :=
  if b < 0 then none else
  match op with
  | .shl => some (.int k (k.wrap (a * 2 ^ (min b.toNat k.bits))))
  | .shr => some (.int k (a.fdiv (2 ^ (min b.toNat k.bits))))
  | _ => none
def astr (op : BinOp) (a b : ByteArray) : Option Value :=
  match op with
  | .add => if a.size + b.size ≤ 4611686018427387904 then some (.string (a ++ b)) else none
  | .eql => some (.bool (a.toList == b.toList))
  | .neq => some (.bool !(a.toList == b.toList))
  | .lss => some (.bool (Op.bytesLess a.toList b.toList))
  | .leq => some (.bool (Op.bytesLess a.toList b.toList || a.toList == b.toList))
  | .gtr => some (.bool !(Op.bytesLess a.toList b.toList || a.toList == b.toList))
  | .geq => some (.bool !(Op.bytesLess a.toList b.toList))
  | _ => none
/-- The kind of a type of one plain cell. -/
def basicT (P : Program) (t : TypeId) : Option TypeDesc :=
  match P.underlying t with
  | some (.int k) => some (.int k)
  | some .bool => some .bool
  | some .string => some .string
  | _ => none
def kindsF (P : Program) : Nat → List Field → Option (List TypeDesc)
  | _, [] => some []
  | i, f :: r => if f.offset = i ∧ f.name ≠ "_" then obind (basicT P f.type) fun k => obind (kindsF P (i + 1) r) fun ks => some (k :: ks) else none
/-- The kinds of the cells of a type that is made of whole numbers, bools and strings. -/
def kindsT (P : Program) (t : TypeId) : Option (List TypeDesc) :=
  match P.underlying t with
  | some (.array n e) => if P.cellsOf e = 1 then obind (basicT P e) fun k => some (List.replicate n k) else none
  | some (.struct fs) => if P.stoodInHeld t then none else kindsF P 0 fs.toList
  | _ => none
/-- Are two cells of a plain kind equal? -/
def cellEq : TypeDesc → AV → AV → Option Bool
  | .int _, .v (.int k a), .v (.int k' b) => if k = k' then some (a == b) else none
  | .bool, .v (.bool a), .v (.bool b) => some (a == b)
  | .string, .v (.string a), .v (.string b) => some (a == b)
  | _, _, _ => none
def cellsEq : List TypeDesc → List AV → List AV → Option Bool
  | [], [], [] => some true
  | k :: ks, x :: r, y :: s => obind (cellEq k x y) fun a => obind (cellsEq ks r s) fun b => some (a && b)
  | _, _, _ => none
/-- Go's `==` at a type of plain cells. -/
def aeq (P : Program) (t : TypeId) (x y : AV) : Option Bool :=
  match x, y with
  | .ag a, .ag b => obind (kindsT P t) fun ks => cellsEq ks a b
  | x, y => obind (basicT P t) fun k => cellEq k x y
def isNilA : AV → Option Bool
  | .v (.pointer none) => some true
  | .pt _ _ => some false
  | _ => none
def abin (P : Program) (op : BinOp) (t : TypeId) (x y : AV) : Option AV :=
  match x, y with
  | .v (.int k a), .v (.int k' b) =>
    match op with
    | .shl => obind (ashift .shl k a b) fun r => some (.v r)
    | .shr => obind (ashift .shr k a b) fun r => some (.v r)
    | op => if k = k' then obind (aint op k a b) fun r => some (.v r) else none
  | .v (.string a), .v (.string b) => obind (astr op a b) fun r => some (.v r)
  | .v (.bool a), .v (.bool b) =>
    match P.underlying t with
    | some .bool => match op with
      | .eql => some (.v (.bool (a == b)))
      | .neq => some (.v (.bool !(a == b)))
      | _ => none
    | _ => none
  | .ag a, .ag b =>
    if P.eqGuardType P.depth t then none else
      match op with
      | .eql => obind (aeq P t (.ag a) (.ag b)) fun r => some (.v (.bool r))
      | .neq => obind (aeq P t (.ag a) (.ag b)) fun r => some (.v (.bool !r))
      | _ => none
  | x, .v (.pointer none) =>
    match P.underlying t with
    | some (.pointer _) => match op with
      | .eql => obind (isNilA x) fun r => some (.v (.bool r))
      | .neq => obind (isNilA x) fun r => some (.v (.bool !r))
      | _ => none
    | _ => none
  | _, _ => none
def aun (op : UnOp) (x : AV) : Option AV :=
  match op, x with
  | .neg, .v (.int k n) => some (.v (.int k (k.wrap (0 - n))))
  | .xor, .v (.int k n) => obind (aint .xor k (if k.signed then -1 else k.max) n) fun r => some (.v r)
  | .not, .v (.bool b) => some (.v (.bool !b))
  | _, _ => none
def aconv (P : Program) (src dst : TypeId) (x : AV) : Option AV :=
  match P.underlying src, P.underlying dst, x with
  | some _, some (.int k), .v (.int _ n) => some (.v (.int k (k.wrap n)))
  | some _, some .string, .v (.string s) => some (.v (.string s))
  | _, _, _ => none
def fillA (place : Nat → Option (Nat × Nat)) (cells : List AV) : List (Nat × AV) → Option (List AV)
  | [] => some cells
  | (i, x) :: r => obind (place i) fun p => if (flat x).length = p.2 ∧ p.1 + p.2 ≤ cells.length ∧ (flat x).all AV.cellB then fillA place (splice cells p.1 (flat x)) r else none
/-- The places of a struct's fields, and how many cells each takes. -/
def placesT (P : Program) (t : TypeId) : Option (List (Nat × Nat)) :=
  match P.underlying t with
  | some (.struct fs) => if fs.toList.all fun f => (P.info? f.type).isSome then some (fs.toList.map fun f => (f.offset, P.cellsOf f.type)) else none
  | _ => none
/-- The cells of an array's element. -/
def elemT (P : Program) (t : TypeId) : Option Nat :=
  match P.underlying t with
  | some (.array _ e) => if 0 < P.cellsOf e then some (P.cellsOf e) else none
  | _ => none
def abuild (P : Program) (t : TypeId) (parts : List (Nat × AV)) : Option AV :=
  obind (zeroT P t) fun z =>
  match z, placesT P t, elemT P t with
  | .ag zs, some fs, _ => obind (fillA (fun i => fs[i]?) zs parts) fun cs => some (.ag cs)
  | .ag zs, none, some e => obind (fillA (fun i => some (i * e, e)) zs parts) fun cs => some (.ag cs)
  | _, _, _ => none
def repl (n : Nat) (z : List AV) : List AV := match n with | 0 => [] | n + 1 => z ++ repl n z
/-- A literal slice: closed parts only. -/
def abuildSlice (P : Program) (t : TypeId) (len : Nat) (parts : List (Nat × AV)) : Option AV :=
  match P.underlying t with
  | some (.slice e) =>
    if len * P.cellsOf e ≤ 16777216 ∧ 0 < P.cellsOf e then
      obind (zeroT P e) fun z => if (flat z).length = P.cellsOf e ∧ (flat z).all AV.cellB then obind (fillA (fun i => some (i * P.cellsOf e, P.cellsOf e)) (repl len (flat z)) parts) fun cs =>
        obind (mapC (closeA depthA []) cs) fun q => some (.sl true len q.1)
        else none
    else none
  | _ => none
def fieldA (P : Program) (t : TypeId) (x : AV) (f : Nat) : Option AV :=
  match P.underlying t, x with
  | some (.struct fs), .ag cs => obind fs[f]? fun fd => partA P fd.type cs fd.offset
  | _, _ => none
def fieldAddrA (P : Program) (t : TypeId) (x : AV) (f : Nat) : Option AV :=
  match P.underlying t with
  | some (.struct fs) => obind fs[f]? fun fd => if 0 < P.cellsOf fd.type then
    match x with
    | .mp b ver off => some (.mp b ver (off + fd.offset))
    | .pt cs off => some (.pt cs (off + fd.offset))
    | _ => none
    else none
  | _ => none
def indexA (P : Program) (t : TypeId) (x i : AV) : Option AV :=
  match P.underlying t, x, i with
  | some (.array n e), .ag cs, .v (.int _ j) => if 0 ≤ j ∧ j < n then partA P e cs (j.toNat * P.cellsOf e) else none
  | some .string, .v (.string s), .v (.int _ j) => if 0 ≤ j then match s[j.toNat]? with | some b => some (.v (.int .u8 b.toNat)) | none => none else none
  | _, _, _ => none
def indexAddrA (P : Program) (t : TypeId) (x i : AV) : Option AV :=
  match P.underlying t, x, i with
  | some (.slice e), .ms b ver off n sz, .v (.int _ j) => if 0 ≤ j ∧ j < n ∧ sz = P.cellsOf e then some (.mp b ver (off + j.toNat * sz)) else none
  | some (.slice e), .sl _ n cs, .v (.int _ j) => if 0 ≤ j ∧ j < n ∧ 0 < P.cellsOf e then some (.pt cs (j.toNat * P.cellsOf e)) else none
  | some (.array n e), .mp b ver off, .v (.int _ j) => if 0 ≤ j ∧ j < n ∧ 0 < P.cellsOf e then some (.mp b ver (off + j.toNat * P.cellsOf e)) else none
  | some (.array n e), .pt cs off, .v (.int _ j) => if 0 ≤ j ∧ j < n ∧ 0 < P.cellsOf e then some (.pt cs (off + j.toNat * P.cellsOf e)) else none
  | _, _, _ => none
def boundA (d : Nat) : Option AV → Option Nat
  | none => some d
  | some (.v (.int _ j)) => if 0 ≤ j then some j.toNat else none
  | _ => none
def sliceA (P : Program) (t : TypeId) (x : AV) (lo hi : Option AV) : Option AV :=
  match P.underlying t, x with
  | some .string, .v (.string s) => obind (boundA s.size hi) fun h => obind (boundA 0 lo) fun l => if l ≤ h ∧ h ≤ s.size then some (.v (.string (s.extract l h))) else none
  | some (.slice e), .ms b ver off n sz => obind (boundA n hi) fun h => obind (boundA 0 lo) fun l =>
    if l ≤ h ∧ h ≤ n ∧ (n = 0 ∨ sz = P.cellsOf e) ∧ 0 < P.cellsOf e then some (.ms b ver (off + l * sz) (h - l) sz) else none
  | some (.slice e), .sl _ n cs => obind (boundA n hi) fun h => obind (boundA 0 lo) fun l =>
    if l ≤ h ∧ h ≤ n ∧ cs.length = n * P.cellsOf e ∧ 0 < P.cellsOf e then some (.sl false (h - l) ((cs.drop (l * P.cellsOf e)).take ((h - l) * P.cellsOf e))) else none
  | some (.array n e), .pt cs off => obind (boundA n hi) fun h => obind (boundA 0 lo) fun l =>
    if l ≤ h ∧ h ≤ n ∧ off + n * P.cellsOf e ≤ cs.length ∧ 0 < P.cellsOf e then some (.sl false (h - l) ((cs.drop (off + l * P.cellsOf e)).take ((h - l) * P.cellsOf e))) else none
  | _, _ => none
/-- A part of an array of the own heap. -/
def sliceArrA (P : Program) (t : TypeId) (x : AV) (lo hi : Option AV) (H : Heap) : Option AV :=
  match P.underlying t, x with
  | some (.array n e), .mp b ver off => obind (boundA n hi) fun h => obind (boundA 0 lo) fun l =>
    obind (cellsAt H (.mp b ver off)) fun q =>
    if l ≤ h ∧ h ≤ n ∧ 0 < n ∧ off + n * P.cellsOf e ≤ q.1.length ∧ 0 < P.cellsOf e then some (.ms b ver (off + l * P.cellsOf e) (h - l) (P.cellsOf e)) else none
  | _, _ => sliceA P t x lo hi
def extractA (x : AV) (i : Nat) : Option AV := match x with | .tu vs => vs[i]? | _ => none
def pickA (c a b : AV) : Option AV := match c with | .v (.bool t) => some (if t then a else b) | _ => none
def nilCheckA : AV → Option AV
  | .mp b ver off => some (.mp b ver off)
  | .pt cs off => some (.pt cs off)
  | .fn f cs => some (.fn f cs)
  | _ => none

/-! ### 5. Operations on the own heap -/
def loadA (P : Program) (t : TypeId) (x : AV) (H : Heap) : Option AV := obind (cellsAt H x) fun q => partA P t q.1 q.2
def storeCellsA (b ver off : Nat) (ys : List AV) (H : Heap) : Option Heap :=
  match H[b]? with
  | some (.cells true ver' cs) => if ver' = ver ∧ off + ys.length ≤ cs.length ∧ ys.all AV.cellB then some (H.set b (.cells true ver (splice cs off ys))) else none
  | _ => none
def storeA (P : Program) (t : TypeId) (x y : AV) (H : Heap) : Option Heap :=
  match x with
  | .mp b ver off => if (flat y).length = P.cellsOf t then storeCellsA b ver off (flat y) H else none
  | _ => none
def makeSliceA (P : Program) (t : TypeId) (len cap : AV) (H : Heap) : Option (AV × Heap) :=
  match P.underlying t, len, cap with
  | some (.slice e), .v (.int _ l), .v (.int _ c) =>
    if 0 ≤ l ∧ l ≤ c ∧ c ≤ 281474976710656 ∧ P.bytesOf e * c ≤ 281474976710656 ∧ 0 < P.cellsOf e then
      obind (zeroT P e) fun z => if (flat z).length = P.cellsOf e ∧ (flat z).all AV.cellB then
        some (.ms H.length 0 0 l.toNat (P.cellsOf e), H ++ [.cells true 0 (repl l.toNat (flat z))]) else none
    else none
  | _, _, _ => none
/-- The bytes of a string as cells. -/
def bytesA (s : ByteArray) : List AV := s.data.toList.map fun b => .v (.int .u8 b.toNat)
def sourceA (H : Heap) : AV → Option (Nat × List AV)
  | .v (.string s) => some (s.size, bytesA s)
  | x => slc H x
def appendA (P : Program) (t : TypeId) (s x : AV) (H : Heap) : Option (AV × Heap) :=
  match P.underlying t with
  | some (.slice e) =>
    let sz := P.cellsOf e
    obind (slc H s) fun q1 => obind (sourceA H x) fun q2 =>
    obind (zeroT P e) fun z => if (q1.1 + q2.1) * P.bytesOf e ≤ 70368744177664 ∧ q1.1 + q2.1 ≤ 70368744177664 ∧ 0 < sz ∧ 0 < P.bytesOf e ∧ q1.2.length = q1.1 * sz ∧ q2.2.length = q2.1 * sz ∧ (flat z).length = sz ∧ (flat z).all AV.cellB then
      match s with
      | .ms b ver off n sz' =>
        match H[b]? with
        | some (.cells true _ _) => if sz' = 0 ∨ sz' = sz then some (.ms b (ver + 1) 0 (q1.1 + q2.1) sz, H.set b (.cells true (ver + 1) (q1.2 ++ q2.2))) else none
        | _ => none
      | .sl true n _ => if n = 0 ∨ 0 < q2.1 then some (.ms H.length 0 0 (q1.1 + q2.1) sz, H ++ [.cells true 0 (q1.2 ++ q2.2)]) else none
      | _ => none
    else none
  | _ => none
def copyA (P : Program) (t : TypeId) (d x : AV) (H : Heap) : Option (AV × Heap) :=
  match P.underlying t, d with
  | some (.slice e), .ms b ver off n sz =>
    obind (sourceA H x) fun q =>
    if sz = P.cellsOf e ∧ q.2.length = q.1 * sz ∧ 0 < P.cellsOf e then
      obind (storeCellsA b ver off (q.2.take (min q.1 n * sz)) H) fun H' => some (.v (.int .i64 (min q.1 n : Nat)), H')
    else none
  | _, _ => none
def findA (P : Program) (t : TypeId) (k : AV) : List (AV × AV) → Option (Option AV)
  | [] => some none
  | (k', x) :: r => obind (aeq P t k k') fun b => if b then some (some x) else findA P t k r
def updA (P : Program) (t : TypeId) (k x : AV) : List (AV × AV) → Option (List (AV × AV))
  | [] => some [(k, x)]
  | (k', x') :: r => obind (aeq P t k k') fun b => if b then some ((k, x) :: r) else obind (updA P t k x r) fun r' => some ((k', x') :: r')
/-- A key that a map of this type takes. -/
def keyOk (P : Program) (t : TypeId) (k : AV) : Bool := match aeq P t k k with | some true => true | _ => false
def lenA (P : Program) (t : TypeId) (x : AV) (H : Heap) : Option AV :=
  match P.underlying t, x with
  | some .string, .v (.string s) => some (.v (.int .i64 s.size))
  | some (.slice _), .sl _ n _ => some (.v (.int .i64 n))
  | some (.slice _), .ms _ _ _ n _ => some (.v (.int .i64 n))
  | some (.map _ _), .mm b => match H[b]? with | some (.map es) => some (.v (.int .i64 es.length)) | _ => none
  | _, _ => none
def lookupA (P : Program) (t : TypeId) (m k : AV) (ok : Bool) (H : Heap) : Option AV :=
  match P.underlying t, m with
  | some (.map kt et), .mm b =>
    match H[b]? with
    | some (.map es) =>
      if keyOk P kt k then
        obind (findA P kt k es) fun r =>
        match r with
        | some x => some (if ok then .tu [x, .v (.bool true)] else x)
        | none => obind (zeroT P et) fun z => some (if ok then .tu [z, .v (.bool false)] else z)
      else none
    | _ => none
  | _, _ => none
def mapUpdateA (P : Program) (t : TypeId) (m k x : AV) (H : Heap) : Option Heap :=
  match P.underlying t, m with
  | some (.map kt _), .mm b =>
    match H[b]? with
    | some (.map es) => if keyOk P kt k then obind (updA P kt k x es) fun es' => some (H.set b (.map es')) else none
    | _ => none
  | _, _ => none
def max2A : AV → AV → Option AV
  | .v (.int k x), .v (.int k' y) => some (.v (.int k (if y > x then y else x)))
  | _, _ => none
def min2A : AV → AV → Option AV
  | .v (.int k x), .v (.int k' y) => some (.v (.int k (if y < x then y else x)))
  | _, _ => none

/-! ### 6. Calls -/
/-- What is known of a block: the slots that live at its loop's head; those that live behind it; the slots to close at the head; how many blocks of the own heap stay at the head; the slots to close behind it. -/
abbrev Ann := List Nat × List Nat × List Nat × Option Nat × List Nat
structure Cfg where
  P : Program
  shared : FuncId → Bool
  ov : FuncId → Option (List AV → Heap → Option (AV × Heap))
  ann : FuncId → Nat → Option Ann
  pr : FuncId → Nat → Option (List Nat)

def closeL (H : Heap) (xs : List AV) : Option (List AV × List Nat) := mapC (closeA depthA H) xs
def callA (c : Cfg) (C : Cl) (f : FuncId) (args : List AV) (H : Heap) : Option (AV × Heap) :=
  if c.shared f then C f args H
  else obind (closeL H args) fun q => obind (C f q.1 []) fun r =>
    match q.2 with
    | [] => some (r.1, H)
    | bs => if r.1.scalar then some (r.1, H) else some (r.1, markA H bs)
/-- The second argument of an append is no number. -/
def noInt (P : Program) (u : TypeId) : Bool := match P.underlying u with | some (.int _) => false | some _ => true | none => false
def builtinA (c : Cfg) (b : Builtin) (argTypes : Array TypeId) (args : List AV) (H : Heap) : Option (AV × Heap) :=
  match b, argTypes[0]?, args with
  | .len, some t, [x] => obind (refA H x) fun x => obind (lenA c.P t x H) fun r => some (r, H)
  | .append, some t, [s, x] => match argTypes[1]? with | some u => if noInt c.P u then appendA c.P t s x H else none | none => none
  | .copy, some t, [d, x] => copyA c.P t d x H
  | .max, _, [x, y] => obind (max2A x y) fun r => some (r, H)
  | .min, _, [x, y] => obind (min2A x y) fun r => some (r, H)
  | _, _, _ => none
def callOpA (c : Cfg) (C : Cl) (k : Call) (g : G) (H : Heap) : Option (AV × Heap) :=
  obind (aevs g k.args.toList) fun args =>
  match k.callee with
  | .builtin b => builtinA c b k.argTypes args H
  | .value f => obind (aev g f) fun x => match x with
    | .fn f caps => callA c C f (args ++ caps) H
    | _ => none
  | .invoke _ _ => none
def evP (g : G) : List (Nat × Operand) → Option (List (Nat × AV))
  | [] => some []
  | (i, o) :: r => obind (aev g o) fun x => obind (evP g r) fun xs => some ((i, x) :: xs)
def aevO (g : G) : Option Operand → Option (Option AV)
  | none => some none
  | some o => obind (aev g o) fun x => some (some x)

/-- A variable that starts as a nil slice gets an empty block of its own. -/
def assignA (H : Heap) (a : AV) : Option (AV × Heap) :=
  match a with
  | .sl true 0 [] => some (.ms H.length 0 0 0 0, H ++ [.cells true 0 []])
  | a => some (a, H)
/-- One operation: its value, and the heap behind it. -/
def aop (c : Cfg) (C : Cl) (o : Op) (g : G) (H : Heap) : Option (AV × Heap) :=
  match o with
  | .move x => obind (aev g x) fun a => some (a, H)
  | .assign x => obind (aev g x) (assignA H)
  | .pick t x y => obind (aev g t) fun b => obind (aev g x) fun a => obind (aev g y) fun d => obind (pickA b a d) fun r => some (r, H)
  | .alloc t => obind (zeroT c.P t) fun z => if (flat z).all AV.cellB then some (newVarA (flat z) H) else none
  | .box t x => obind (aev g x) fun a => if (flat a).all AV.cellB then some (newVarA (flat a) H) else none
  | .build t ps => obind (evP g ps.toList) fun qs => obind (abuild c.P t qs) fun r => some (r, H)
  | .buildSlice t n ps => obind (evP g ps.toList) fun qs => obind (abuildSlice c.P t n qs) fun r => some (r, H)
  | .load t x => obind (aev g x) fun a => obind (loadA c.P t a H) fun r => some (r, H)
  | .store t x y => obind (aev g x) fun a => obind (aev g y) fun b => if 0 < c.P.cellsOf t then obind (storeA c.P t a b H) fun H' => some (.tu [], H') else none
  | .nilCheck x => obind (aev g x) fun a => obind (refA H a) fun a => obind (nilCheckA a) fun r => some (r, H)
  | .binOp op t x y _ => obind (aev g x) fun a => obind (aev g y) fun b => obind (abin c.P op t a b) fun r => some (r, H)
  | .unOp op _ x => obind (aev g x) fun a => obind (aun op a) fun r => some (r, H)
  | .convert s d x => obind (aev g x) fun a => obind (aconv c.P s d a) fun r => some (r, H)
  | .makeFunc f fs cs => match f, fs.toList with
    | .func f, [] => obind (aevs g cs.toList) fun xs => some (.fn f xs, H)
    | _, _ => none
  | .makeMap t r => match c.P.underlying t, r with
    | some (.map _ _), none => some (.mm H.length, H ++ [.map []])
    | _, _ => none
  | .makeSlice t l k => obind (aev g l) fun a => obind (aev g k) fun b => makeSliceA c.P t a b H
  | .slice t x l h none => obind (aev g x) fun a => obind (aevO g l) fun lo => obind (aevO g h) fun hi => obind (refA H a) fun a => obind (sliceArrA c.P t a lo hi H) fun r => some (r, H)
  | .fieldAddr t x f => obind (aev g x) fun a => obind (refA H a) fun a => obind (fieldAddrA c.P t a f) fun r => some (r, H)
  | .field t x f => obind (aev g x) fun a => obind (fieldA c.P t a f) fun r => some (r, H)
  | .indexAddr t x i => obind (aev g x) fun a => obind (refA H a) fun a => obind (aev g i) fun b => obind (indexAddrA c.P t a b) fun r => some (r, H)
  | .index t x i => obind (aev g x) fun a => obind (aev g i) fun b => obind (indexA c.P t a b) fun r => some (r, H)
  | .lookup t m k ok => obind (aev g m) fun a => obind (aev g k) fun b => obind (lookupA c.P t a b ok H) fun r => some (r, H)
  | .mapUpdate t m k x => obind (aev g m) fun a => obind (aev g k) fun b => obind (aev g x) fun y => obind (mapUpdateA c.P t a b y H) fun H' => some (.tu [], H')
  | .insert t m k x => obind (aev g m) fun a => obind (aev g k) fun b => obind (aev g x) fun y => obind (mapUpdateA c.P t a b y H) fun H' => some (.tu [], H')
  | .extract x i => obind (aev g x) fun a => obind (extractA a i) fun r => some (r, H)
  | .call k => callOpA c C k g H
  | _ => none

/-- Does the operation's guard let it through? -/
def wantA (ops : Array Oper) (o : Oper) (g : G) : Option Bool :=
  match o.guard with
  | none => some true
  | some (j, want) =>
    match (ops[j]?).bind (·.dst) with
    | none => none
    | some d =>
      match g d with
      | some (.v (.bool b)) => some (b == want)
      | some (.tu []) => some false
      | _ => none
def aops (c : Cfg) (C : Cl) (ops : Array Oper) : List Oper → Env → Heap → Option (Env × Heap)
  | [], e, H => some (e, H)
  | o :: r, e, H => obind (wantA ops o e.get) fun t =>
    if t then obind (aop c C o.op e.get H) fun q => aops c C ops r (putA e o.dst q.1) q.2
    else aops c C ops r (putA e o.dst (.tu [])) H

inductive Ex where
  | normal
  | exit (id : Nat)
  | ret
abbrev St := Env × Heap
abbrev Lp := (St → Option (Ex × St)) → St → Option (Ex × St)
def iterN : Nat → Lp
  | 0, _, _ => none
  | n + 1, f, s => obind (f s) fun r => match r.1 with | .normal => iterN n f r.2 | _ => some r

mutual
def AV.under (m : Nat) : AV → Bool
  | .ms b .. => decide (b < m)
  | .mp b .. => decide (b < m)
  | .mm b => decide (b < m)
  | .ag cs => underL m cs
  | .tu cs => underL m cs
  | .fn _ cs => underL m cs
  | _ => true
def underL (m : Nat) : List AV → Bool
  | [] => true
  | x :: r => x.under m && underL m r
end
def AB.under (m : Nat) : AB → Bool
  | .cells _ _ cs => underL m cs
  | .map es => es.all fun p => p.1.under m && p.2.under m
def closeSlots : List Nat → St → Option St
  | [], s => some s
  | t :: r, s => obind (s.1.get t) fun x => obind (closeA depthA s.2 x) fun q => closeSlots r (s.1.put t q.1, markA s.2 q.2)
def truncA (m : Nat) (s : St) : Option St :=
  if (s.1.all fun p => p.2.under m) && (s.2.take m).all (AB.under m) then some (s.1, s.2.take m) else none
/-- At a loop's head. -/
def headA (a : Option Ann) (s : St) : Option St :=
  match a with
  | none => some s
  | some (inn, _, cl, tr, _) =>
    obind (closeSlots cl (s.1.keep inn, s.2)) fun s' => match tr with | none => some s' | some m => truncA m s'
def tailA (a : Option Ann) (e : Env) (H : Heap) : Option St :=
  match a with
  | none => some (e, H)
  | some (_, out, _, _, cl) => closeSlots cl (e.keep out, H)
/-- What is kept on the way out of a block, out of the function. -/
def exitA (a : Option Ann) (e : Env) : Env :=
  match a with
  | none => e
  | some (_, out, _) => e.keep out
/-- Behind a region: the slots that are kept. -/
def pruneA (p : Option (List Nat)) (e : Env) : Env :=
  match p with
  | none => e
  | some ks => e.keep ks
def retB : Nat := 999999
def acond (x : Option AV) (a b : Option (Ex × St)) : Option (Ex × St) :=
  match x with
  | some (.v (.bool t)) => if t then a else b
  | _ => none
/-- At the end of a round. -/
def endA (a : Option Ann) (r : Ex × St) : Option (Ex × St) :=
  match r.1 with
  | .normal => obind (headA a r.2) fun s => some (.normal, s)
  | _ => some r
def blockA (id : Nat) (a : Option Ann) (r : Option (Ex × St)) : Option (Ex × St) :=
  obind r fun r =>
    match r.1 with
    | .normal => obind (tailA a r.2.1 r.2.2) fun s => some (.normal, s)
    | .exit j => if j = id then obind (tailA a r.2.1 r.2.2) fun s => some (.normal, s) else some r
    | .ret => some r

def arun (c : Cfg) (f : FuncId) (lp : Lp) (C : Cl) : Nat → Code → Env → Heap → Option (Ex × St)
  | _, .skip, e, H => some (.normal, e, H)
  | _, .region id ops _, e, H => obind (aops c C ops ops.toList e H) fun s => some (.normal, pruneA (c.pr f id) s.1, s.2)
  | k, .seq a b, e, H => obind (arun c f lp C k a e H) fun r => match r.1 with | .normal => arun c f lp C k b r.2.1 r.2.2 | _ => some r
  | k, .cond x a b, e, H => acond (aev e.get x) (arun c f lp C k a e H) (arun c f lp C k b e H)
  | _, .block id a, e, H => blockA id (c.ann f id) (arun c f lp C id a e H)
  | k, .loop a, e, H => obind (headA (c.ann f k) (e, H)) (lp (fun s => obind (arun c f lp C k a s.1 s.2) (endA (c.ann f k))))
  | _, .exit id, e, H => some (.exit id, exitA (c.ann f id) e, H)
  | _, .ret, e, H => some (.ret, exitA (c.ann f retB) e, H)
  | _, .label _, e, H => some (.normal, e, H)
  | _, _, _, _ => none

/-! ### 7. Functions -/
def resA (P : Program) (H : Heap) (g : G) : List ResultVar → Option (List AV)
  | [] => some []
  | .tmp t :: r => obind (g t) fun x => obind (resA P H g r) fun xs => some (x :: xs)
  | .cell a t :: r => obind (g a) fun p => obind (loadA P t p H) fun x => obind (resA P H g r) fun xs => some (x :: xs)
def tupA : List AV → AV
  | [x] => x
  | xs => .tu xs
def bodyA (c : Cfg) (lp : Lp) (C : Cl) (f : FuncId) (args : List AV) (H : Heap) : Option (AV × Heap) :=
  match c.P.funcs[f]? with
  | some fn =>
    match fn.body with
    | some code => obind (arun c f lp C 0 code (Env.ofList 0 args) H) fun r =>
      match r.1 with
      | .exit _ => none
      | _ => obind (resA c.P r.2.2 r.2.1.get fn.results.toList) fun xs => some (tupA xs, r.2.2)
    | none => none
  | none => none
def stepA (c : Cfg) (lp : Lp) (C : Cl) : Cl := fun f args H =>
  match c.ov f with
  | some g => g args H
  | none => if c.shared f then bodyA c lp C f args H else
    match H with
    | [] => obind (bodyA c lp C f args []) fun r => obind (closeA depthA r.2 r.1) fun q => some (q.1, [])
    | _ => none
def acallN (c : Cfg) : Nat → Cl
  | 0 => fun _ _ _ => none
  | n + 1 => stepA c (iterN n) (acallN c n)
end Go.AI
