/- Texts of one proof, joined: AiDefs, AiRel, AiOps, AiInv, AiMem, AiMem2, AiClose, AiOps2, AiOps3, AiOps4, AiOps5, AiOps6, AiOps7, AiOps8, AiCall, AiCode1, AiCode2, AiCode3, AiCode4. Conditions: none of its own; each part names what it shows. -/
import Derived.Orders
import Derived.LoopN
import Derived.Tactics
import Derived.Laws.Sem
import Derived.Laws.World
import Derived.Laws.AppendOwn
import Derived.Below
import Derived.WalkKit
import Derived.Laws.CopyRow
import Derived.Laws.MakeOwn
import Derived.Laws.OwnMore
/- The abstract interpreter: values, heaps, operations, code. Conditions: none (definitions and their plain laws). -/
set_option linter.unusedVariables false
namespace Go.AI

/-! ### 1. Values -/
/-- Abstract values: `v` a value without addresses; `sl` a slice that nobody writes (its elements' cells; `full`: its capacity is its length); `pt` a pointer into cells that nobody writes;
`ms`, `mp`, `mm`: a slice, a pointer, a map of the call's own heap (block, version ..); `ag` a struct or an array; `tu` several results; `fn` a function with what it captured. -/
inductive AV where
  | v (x : Value)
  | sl (full : Bool) (n : Nat) (cs : List AV)
  | pt (cs : List AV) (off : Nat)
  | ms (b ver off n sz : Nat)
  | mp (b ver off : Nat)
  | mm (b : Nat)
  | ag (cs : List AV)
  | tu (vs : List AV)
  | fn (f : FuncId) (caps : List AV)

/-- A block of the own heap. -/
inductive AB where
  | cells (live : Bool) (ver : Nat) (cs : List AV)
  | map (es : List (AV × AV))
abbrev Heap := List AB
abbrev G := Nat → Option AV
abbrev Env := List (Nat × AV)
abbrev Cl := FuncId → List AV → Heap → Option (AV × Heap)

def obind {α β : Type} (x : Option α) (f : α → Option β) : Option β := match x with | some a => f a | none => none
theorem obind_some {α β : Type} (a : α) (f : α → Option β) : obind (some a) f = f a := rfl
theorem obind_none {α β : Type} (f : α → Option β) : obind none f = none := rfl
theorem obind_eq {α β : Type} {x : Option α} {f : α → Option β} {r : β} (h : obind x f = some r) : ∃ a, x = some a ∧ f a = some r := by
  cases x with
  | none => cases h
  | some a => exact ⟨a, rfl, h⟩

def Env.get : Env → G
  | [], _ => none
  | (j, x) :: r, i => if j = i then some x else Env.get r i
def Env.put : Env → Nat → AV → Env
  | [], i, y => [(i, y)]
  | (j, x) :: r, i, y => if j = i then (i, y) :: r else if i < j then (i, y) :: (j, x) :: r else (j, x) :: Env.put r i y
def Env.keep (ks : List Nat) : Env → Env
  | [] => []
  | (j, x) :: r => if ks.contains j then (j, x) :: Env.keep ks r else Env.keep ks r
def putA (e : Env) (d : Option Nat) (x : AV) : Env := match d with | some i => e.put i x | none => e
def Env.ofList : Nat → List AV → Env
  | _, [] => []
  | i, x :: r => (i, x) :: Env.ofList (i + 1) r

mutual
/-- Closed: no reference into the own heap, no mark `full` outside a slice. -/
def AV.good : AV → Bool
  | .v _ => true
  | .sl full _ _ => !full
  | .pt _ _ => true
  | .ms .. => false
  | .mp .. => false
  | .mm _ => false
  | .ag cs => goodL cs
  | .tu vs => goodL vs
  | .fn _ cs => goodL cs
def goodL : List AV → Bool
  | [] => true
  | x :: r => x.good && goodL r
end
/-- Scalars: nothing that leads to memory. -/
def AV.isV : AV → Bool
  | .v _ => true
  | _ => false
def AV.scalar1 : AV → Bool
  | .v _ => true
  | .ag cs => cs.all AV.isV
  | _ => false
def AV.scalar : AV → Bool
  | .tu vs => vs.all AV.scalar1
  | x => x.scalar1

def ofCell : Value → AV
  | .slice none 0 0 => .sl true 0 []
  | x => .v x
def ofVal : Value → AV
  | .agg cs => .ag (cs.toList.map ofCell)
  | .tuple vs => .tu (vs.toList.map ofCell)
  | x => ofCell x
def cstB : Value → Bool
  | .agg cs => cs.toList.all Value.oneCell'
  | .tuple vs => vs.toList.all Value.oneCell'
  | _ => true
def aev (g : G) : Operand → Option AV
  | .tmp t => g t
  | .const x => if cstB x then some (ofVal x) else none
  | .func f => some (.fn f [])
  | .global _ => none
def aevs (g : G) : List Operand → Option (List AV)
  | [] => some []
  | o :: r => obind (aev g o) fun x => obind (aevs g r) fun xs => some (x :: xs)
def flat : AV → List AV
  | .ag cs => cs
  | x => [x]
/-- What may stand in one cell. -/
def AV.cellB : AV → Bool
  | .ag _ => false
  | .tu _ => false
  | _ => true

/-! ### 2. Types -/
def aggT (P : Program) (t : TypeId) : Option Bool :=
  match P.underlying t with
  | some (.struct _) => some true
  | some (.array _ _) => some true
  | some _ => some false
  | none => none
def zeroT (P : Program) (t : TypeId) : Option AV := obind (P.info? t) fun i => obind i.zero fun x => if cstB x then some (ofVal x) else none

/-! ### 3. Memory -/
/-- The cells of a slice with its length. -/
def slc (H : Heap) : AV → Option (Nat × List AV)
  | .sl _ n cs => some (n, cs)
  | .ms b ver off n sz =>
    match H[b]? with
    | some (.cells _ ver' cs) => if ver' = ver then if off + n * sz ≤ cs.length then some (n, (cs.drop off).take (n * sz)) else none else none
    | _ => none
  | _ => none
/-- A reference that is up to date. -/
def refA (H : Heap) : AV → Option AV
  | .ms b ver off n sz =>
    match H[b]? with
    | some (.cells _ ver' _) => if ver' = ver then some (.ms b ver off n sz) else none
    | _ => none
  | .mp b ver off =>
    match H[b]? with
    | some (.cells _ ver' _) => if ver' = ver then some (.mp b ver off) else none
    | _ => none
  | x => some x
/-- The cells behind a pointer, and the place among them. -/
def cellsAt (H : Heap) : AV → Option (List AV × Nat)
  | .pt cs off => some (cs, off)
  | .mp b ver off =>
    match H[b]? with
    | some (.cells _ ver' cs) => if ver' = ver then some (cs, off) else none
    | _ => none
  | _ => none
def partA (P : Program) (t : TypeId) (cs : List AV) (off : Nat) : Option AV :=
  match aggT P t with
  | some true => if off + P.cellsOf t ≤ cs.length then some (.ag ((cs.drop off).take (P.cellsOf t))) else none
  | some false => cs[off]?
  | none => none
def splice (cs : List AV) (off : Nat) : List AV → List AV
  | [y] => cs.set off y
  | ys => cs.take off ++ ys ++ cs.drop (off + ys.length)
/-- Cells that are stored by a new variable: a nil slice gets an empty block of its own. -/
def virt : List AV → Heap → List AV × Heap
  | [], H => ([], H)
  | .sl true 0 [] :: r, H => let q := virt r (H ++ [.cells true 0 []]); (.ms H.length 0 0 0 0 :: q.1, q.2)
  | x :: r, H => let q := virt r H; (x :: q.1, q.2)
def newVarA (cs : List AV) (H : Heap) : AV × Heap :=
  let q := virt cs H
  (.mp q.2.length 0 0, q.2 ++ [.cells true 0 q.1])

def AB.freeze : AB → AB
  | .cells _ ver cs => .cells false ver cs
  | x => x
def markA (H : Heap) : List Nat → Heap
  | [] => H
  | b :: r => markA (match H[b]? with | some x => H.set b x.freeze | none => H) r

def mapC (f : AV → Option (AV × List Nat)) : List AV → Option (List AV × List Nat)
  | [] => some ([], [])
  | x :: r => obind (f x) fun y => obind (mapC f r) fun q => some (y.1 :: q.1, y.2 ++ q.2)
/-- A closed copy, and the blocks that were read for it. -/
def closeA : Nat → Heap → AV → Option (AV × List Nat)
  | 0, _, _ => none
  | k + 1, H, x =>
    if x.good then some (x, []) else
    match x with
    | .sl _ n cs => some (.sl false n cs, [])
    | .ag cs => obind (mapC (closeA k H) cs) fun q => some (.ag q.1, q.2)
    | .tu cs => obind (mapC (closeA k H) cs) fun q => some (.tu q.1, q.2)
    | .ms b ver off n sz =>
      match H[b]? with
      | some (.cells _ ver' cs) => if ver' = ver then if off + n * sz ≤ cs.length then obind (mapC (closeA k H) ((cs.drop off).take (n * sz))) fun q => some (.sl false n q.1, b :: q.2) else none else none
      | _ => none
    | .mp b ver off =>
      match H[b]? with
      | some (.cells _ ver' cs) => if ver' = ver then obind (mapC (closeA k H) cs) fun q => some (.pt q.1 off, b :: q.2) else none
      | _ => none
    | _ => none
def depthA : Nat := 40

/-! ### 4. Operations on values -/
def acmp (op : BinOp) (a b : Int) : Option Bool :=
  match op with
  | .eql => some (a == b)
  | .neq => some (a != b)
  | .lss => some (decide (a < b))
  | .leq => some (decide (a ≤ b))
  | .gtr => some (decide (a > b))
  | .geq => some (decide (a ≥ b))
  | _ => none
def aint (op : BinOp) (k : IntKind) (a b : Int) : Option Value :=
  match op with
  | .add => some (.int k (k.wrap (a + b)))
  | .sub => some (.int k (k.wrap (a - b)))
  | .mul => some (.int k (k.wrap (a * b)))
  | .quo => if b = 0 then none else some (.int k (k.wrap (a.tdiv b)))
  | .rem => if b = 0 then none else some (.int k (a.tmod b))
  | .and => some (.int k (k.wrap (BitVec.ofInt k.bits a &&& BitVec.ofInt k.bits b).toNat))
  | .or => some (.int k (k.wrap (BitVec.ofInt k.bits a ||| BitVec.ofInt k.bits b).toNat))
  | .xor => some (.int k (k.wrap (BitVec.ofInt k.bits a ^^^ BitVec.ofInt k.bits b).toNat))
  | .andNot => some (.int k (k.wrap (BitVec.ofInt k.bits a &&& ~~~(BitVec.ofInt k.bits b)).toNat))
  | op => obind (acmp op a b) fun t => some (.bool t)
def ashift (op : BinOp) (k : IntKind) (a b : Int) : Option Value :=
  if b < 0 then none else
  match op with
  | .shl => some (.int k (k.wrap (a * 2 ^ (min b.toNat k.bits))))
  | .shr => some (.int k (a.fdiv (2 ^ (min b.toNat k.bits))))
  | _ => none
def astr (op : BinOp) (a b : ByteArray) : Option Value :=
  match op with
  | .add => if a.size + b.size ≤ 4611686018427387904 then some (.string (a ++ b)) else none
  | .eql => some (.bool (a.toList == b.toList))
  | .neq => some (.bool !(a.toList == b.toList))
  | .lss => some (.bool (Op.bytesLess a.toList b.toList))
  | .leq => some (.bool (Op.bytesLess a.toList b.toList || a.toList == b.toList))
  | .gtr => some (.bool !(Op.bytesLess a.toList b.toList || a.toList == b.toList))
  | .geq => some (.bool !(Op.bytesLess a.toList b.toList))
  | _ => none
/-- The kind of a type of one plain cell. -/
def basicT (P : Program) (t : TypeId) : Option TypeDesc :=
  match P.underlying t with
  | some (.int k) => some (.int k)
  | some .bool => some .bool
  | some .string => some .string
  | _ => none
def kindsF (P : Program) : Nat → List Field → Option (List TypeDesc)
  | _, [] => some []
  | i, f :: r => if f.offset = i ∧ f.name ≠ "_" then obind (basicT P f.type) fun k => obind (kindsF P (i + 1) r) fun ks => some (k :: ks) else none
/-- The kinds of the cells of a type that is made of whole numbers, bools and strings. -/
def kindsT (P : Program) (t : TypeId) : Option (List TypeDesc) :=
  match P.underlying t with
  | some (.array n e) => if P.cellsOf e = 1 then obind (basicT P e) fun k => some (List.replicate n k) else none
  | some (.struct fs) => if P.stoodInHeld t then none else kindsF P 0 fs.toList
  | _ => none
/-- Are two cells of a plain kind equal? -/
def cellEq : TypeDesc → AV → AV → Option Bool
  | .int _, .v (.int k a), .v (.int k' b) => if k = k' then some (a == b) else none
  | .bool, .v (.bool a), .v (.bool b) => some (a == b)
  | .string, .v (.string a), .v (.string b) => some (a == b)
  | _, _, _ => none
def cellsEq : List TypeDesc → List AV → List AV → Option Bool
  | [], [], [] => some true
  | k :: ks, x :: r, y :: s => obind (cellEq k x y) fun a => obind (cellsEq ks r s) fun b => some (a && b)
  | _, _, _ => none
/-- Go's `==` at a type of plain cells. -/
def aeq (P : Program) (t : TypeId) (x y : AV) : Option Bool :=
  match x, y with
  | .ag a, .ag b => obind (kindsT P t) fun ks => cellsEq ks a b
  | x, y => obind (basicT P t) fun k => cellEq k x y
def isNilA : AV → Option Bool
  | .v (.pointer none) => some true
  | .pt _ _ => some false
  | _ => none
def abin (P : Program) (op : BinOp) (t : TypeId) (x y : AV) : Option AV :=
  match x, y with
  | .v (.int k a), .v (.int k' b) =>
    match op with
    | .shl => obind (ashift .shl k a b) fun r => some (.v r)
    | .shr => obind (ashift .shr k a b) fun r => some (.v r)
    | op => if k = k' then obind (aint op k a b) fun r => some (.v r) else none
  | .v (.string a), .v (.string b) => obind (astr op a b) fun r => some (.v r)
  | .v (.bool a), .v (.bool b) =>
    match P.underlying t with
    | some .bool => match op with
      | .eql => some (.v (.bool (a == b)))
      | .neq => some (.v (.bool !(a == b)))
      | _ => none
    | _ => none
  | .ag a, .ag b =>
    if P.eqGuardType P.depth t then none else
      match op with
      | .eql => obind (aeq P t (.ag a) (.ag b)) fun r => some (.v (.bool r))
      | .neq => obind (aeq P t (.ag a) (.ag b)) fun r => some (.v (.bool !r))
      | _ => none
  | x, .v (.pointer none) =>
    match P.underlying t with
    | some (.pointer _) => match op with
      | .eql => obind (isNilA x) fun r => some (.v (.bool r))
      | .neq => obind (isNilA x) fun r => some (.v (.bool !r))
      | _ => none
    | _ => none
  | _, _ => none
def aun (op : UnOp) (x : AV) : Option AV :=
  match op, x with
  | .neg, .v (.int k n) => some (.v (.int k (k.wrap (0 - n))))
  | .xor, .v (.int k n) => obind (aint .xor k (if k.signed then -1 else k.max) n) fun r => some (.v r)
  | .not, .v (.bool b) => some (.v (.bool !b))
  | _, _ => none
def aconv (P : Program) (src dst : TypeId) (x : AV) : Option AV :=
  match P.underlying src, P.underlying dst, x with
  | some _, some (.int k), .v (.int _ n) => some (.v (.int k (k.wrap n)))
  | some _, some .string, .v (.string s) => some (.v (.string s))
  | _, _, _ => none
def fillA (place : Nat → Option (Nat × Nat)) (cells : List AV) : List (Nat × AV) → Option (List AV)
  | [] => some cells
  | (i, x) :: r => obind (place i) fun p => if (flat x).length = p.2 ∧ p.1 + p.2 ≤ cells.length ∧ (flat x).all AV.cellB then fillA place (splice cells p.1 (flat x)) r else none
/-- The places of a struct's fields, and how many cells each takes. -/
def placesT (P : Program) (t : TypeId) : Option (List (Nat × Nat)) :=
  match P.underlying t with
  | some (.struct fs) => if fs.toList.all fun f => (P.info? f.type).isSome then some (fs.toList.map fun f => (f.offset, P.cellsOf f.type)) else none
  | _ => none
/-- The cells of an array's element. -/
def elemT (P : Program) (t : TypeId) : Option Nat :=
  match P.underlying t with
  | some (.array _ e) => if 0 < P.cellsOf e then some (P.cellsOf e) else none
  | _ => none
def abuild (P : Program) (t : TypeId) (parts : List (Nat × AV)) : Option AV :=
  obind (zeroT P t) fun z =>
  match z, placesT P t, elemT P t with
  | .ag zs, some fs, _ => obind (fillA (fun i => fs[i]?) zs parts) fun cs => some (.ag cs)
  | .ag zs, none, some e => obind (fillA (fun i => some (i * e, e)) zs parts) fun cs => some (.ag cs)
  | _, _, _ => none
def repl (n : Nat) (z : List AV) : List AV := match n with | 0 => [] | n + 1 => z ++ repl n z
/-- A literal slice: closed parts only. -/
def abuildSlice (P : Program) (t : TypeId) (len : Nat) (parts : List (Nat × AV)) : Option AV :=
  match P.underlying t with
  | some (.slice e) =>
    if len * P.cellsOf e ≤ 16777216 ∧ 0 < P.cellsOf e then
      obind (zeroT P e) fun z => if (flat z).length = P.cellsOf e ∧ (flat z).all AV.cellB then obind (fillA (fun i => some (i * P.cellsOf e, P.cellsOf e)) (repl len (flat z)) parts) fun cs =>
        obind (mapC (closeA depthA []) cs) fun q => some (.sl true len q.1)
        else none
    else none
  | _ => none
/-- Literal slices that are to lie in the own heap: type, length, the slot of their one part. -/
def ownTab : List (Nat × Nat × Nat) := [(22, 1, 16), (22, 1, 47), (22, 1, 999999)]
def ownMem : List (Nat × Nat × Nat) → Nat → Nat → Nat → Bool
  | [], _, _, _ => false
  | (a, b, c) :: r, t, n, k => if a = t then (if b = n then (if c = k then true else ownMem r t n k) else ownMem r t n k) else ownMem r t n k
def ownLit (t : TypeId) (n : Nat) (ps : List (Nat × Operand)) : Bool :=
  match ps with
  | [(0, .tmp k)] => ownMem ownTab t n k
  | [(0, .const _)] => ownMem ownTab t n 999999
  | _ => false
def buildOwnA (P : Program) (t : TypeId) (len : Nat) (parts : List (Nat × AV)) (H : Heap) : Option (AV × Heap) :=
  match P.underlying t with
  | some (.slice e) =>
    if len * P.cellsOf e ≤ 16777216 ∧ 0 < P.cellsOf e then
      obind (zeroT P e) fun z => if (flat z).length = P.cellsOf e ∧ (flat z).all AV.cellB then obind (fillA (fun i => some (i * P.cellsOf e, P.cellsOf e)) (repl len (flat z)) parts) fun cs =>
        some (.ms H.length 0 0 len (P.cellsOf e), H ++ [.cells true 0 cs])
        else none
    else none
  | _ => none
def fieldA (P : Program) (t : TypeId) (x : AV) (f : Nat) : Option AV :=
  match P.underlying t, x with
  | some (.struct fs), .ag cs => obind fs[f]? fun fd => partA P fd.type cs fd.offset
  | _, _ => none
def fieldAddrA (P : Program) (t : TypeId) (x : AV) (f : Nat) : Option AV :=
  match P.underlying t with
  | some (.struct fs) => obind fs[f]? fun fd => if 0 < P.cellsOf fd.type then
    match x with
    | .mp b ver off => some (.mp b ver (off + fd.offset))
    | .pt cs off => some (.pt cs (off + fd.offset))
    | _ => none
    else none
  | _ => none
def indexA (P : Program) (t : TypeId) (x i : AV) : Option AV :=
  match P.underlying t, x, i with
  | some (.array n e), .ag cs, .v (.int _ j) => if 0 ≤ j ∧ j < n then partA P e cs (j.toNat * P.cellsOf e) else none
  | some .string, .v (.string s), .v (.int _ j) => if 0 ≤ j then match s[j.toNat]? with | some b => some (.v (.int .u8 b.toNat)) | none => none else none
  | _, _, _ => none
def indexAddrA (P : Program) (t : TypeId) (x i : AV) : Option AV :=
  match P.underlying t, x, i with
  | some (.slice e), .ms b ver off n sz, .v (.int _ j) => if 0 ≤ j ∧ j < n ∧ sz = P.cellsOf e then some (.mp b ver (off + j.toNat * sz)) else none
  | some (.slice e), .sl _ n cs, .v (.int _ j) => if 0 ≤ j ∧ j < n ∧ 0 < P.cellsOf e then some (.pt cs (j.toNat * P.cellsOf e)) else none
  | some (.array n e), .mp b ver off, .v (.int _ j) => if 0 ≤ j ∧ j < n ∧ 0 < P.cellsOf e then some (.mp b ver (off + j.toNat * P.cellsOf e)) else none
  | some (.array n e), .pt cs off, .v (.int _ j) => if 0 ≤ j ∧ j < n ∧ 0 < P.cellsOf e then some (.pt cs (off + j.toNat * P.cellsOf e)) else none
  | _, _, _ => none
def boundA (d : Nat) : Option AV → Option Nat
  | none => some d
  | some (.v (.int _ j)) => if 0 ≤ j then some j.toNat else none
  | _ => none
def sliceA (P : Program) (t : TypeId) (x : AV) (lo hi : Option AV) : Option AV :=
  match P.underlying t, x with
  | some .string, .v (.string s) => obind (boundA s.size hi) fun h => obind (boundA 0 lo) fun l => if l ≤ h ∧ h ≤ s.size then some (.v (.string (s.extract l h))) else none
  | some (.slice e), .ms b ver off n sz => obind (boundA n hi) fun h => obind (boundA 0 lo) fun l =>
    if l ≤ h ∧ h ≤ n ∧ (n = 0 ∨ sz = P.cellsOf e) ∧ 0 < P.cellsOf e then some (.ms b ver (off + l * sz) (h - l) sz) else none
  | some (.slice e), .sl _ n cs => obind (boundA n hi) fun h => obind (boundA 0 lo) fun l =>
    if l ≤ h ∧ h ≤ n ∧ cs.length = n * P.cellsOf e ∧ 0 < P.cellsOf e then some (.sl false (h - l) ((cs.drop (l * P.cellsOf e)).take ((h - l) * P.cellsOf e))) else none
  | some (.array n e), .pt cs off => obind (boundA n hi) fun h => obind (boundA 0 lo) fun l =>
    if l ≤ h ∧ h ≤ n ∧ off + n * P.cellsOf e ≤ cs.length ∧ 0 < P.cellsOf e then some (.sl false (h - l) ((cs.drop (off + l * P.cellsOf e)).take ((h - l) * P.cellsOf e))) else none
  | _, _ => none
/-- A part of an array of the own heap. -/
def sliceArrA (P : Program) (t : TypeId) (x : AV) (lo hi : Option AV) (H : Heap) : Option AV :=
  match P.underlying t, x with
  | some (.array n e), .mp b ver off => obind (boundA n hi) fun h => obind (boundA 0 lo) fun l =>
    obind (cellsAt H (.mp b ver off)) fun q =>
    if l ≤ h ∧ h ≤ n ∧ 0 < n ∧ off + n * P.cellsOf e ≤ q.1.length ∧ 0 < P.cellsOf e then some (.ms b ver (off + l * P.cellsOf e) (h - l) (P.cellsOf e)) else none
  | _, _ => sliceA P t x lo hi
def extractA (x : AV) (i : Nat) : Option AV := match x with | .tu vs => vs[i]? | _ => none
def pickA (c a b : AV) : Option AV := match c with | .v (.bool t) => some (if t then a else b) | _ => none
def nilCheckA : AV → Option AV
  | .mp b ver off => some (.mp b ver off)
  | .pt cs off => some (.pt cs off)
  | .fn f cs => some (.fn f cs)
  | _ => none

/-! ### 5. Operations on the own heap -/
def loadA (P : Program) (t : TypeId) (x : AV) (H : Heap) : Option AV := obind (cellsAt H x) fun q => partA P t q.1 q.2
def storeCellsA (b ver off : Nat) (ys : List AV) (H : Heap) : Option Heap :=
  match H[b]? with
  | some (.cells true ver' cs) => if ver' = ver ∧ off + ys.length ≤ cs.length ∧ ys.all AV.cellB then some (H.set b (.cells true ver (splice cs off ys))) else none
  | _ => none
def storeA (P : Program) (t : TypeId) (x y : AV) (H : Heap) : Option Heap :=
  match x with
  | .mp b ver off => if (flat y).length = P.cellsOf t then storeCellsA b ver off (flat y) H else none
  | _ => none
def makeSliceA (P : Program) (t : TypeId) (len cap : AV) (H : Heap) : Option (AV × Heap) :=
  match P.underlying t, len, cap with
  | some (.slice e), .v (.int _ l), .v (.int _ c) =>
    if 0 ≤ l ∧ l ≤ c ∧ c ≤ 281474976710656 ∧ P.bytesOf e * c ≤ 281474976710656 ∧ 0 < P.cellsOf e then
      obind (zeroT P e) fun z => if (flat z).length = P.cellsOf e ∧ (flat z).all AV.cellB then
        some (.ms H.length 0 0 l.toNat (P.cellsOf e), H ++ [.cells true 0 (repl l.toNat (flat z))]) else none
    else none
  | _, _, _ => none
/-- The bytes of a string as cells. -/
def bytesA (s : ByteArray) : List AV := s.data.toList.map fun b => .v (.int .u8 b.toNat)
def sourceA (H : Heap) : AV → Option (Nat × List AV)
  | .v (.string s) => some (s.size, bytesA s)
  | x => slc H x
def appendA (P : Program) (t : TypeId) (s x : AV) (H : Heap) : Option (AV × Heap) :=
  match P.underlying t with
  | some (.slice e) =>
    let sz := P.cellsOf e
    obind (slc H s) fun q1 => obind (sourceA H x) fun q2 =>
    obind (zeroT P e) fun z => if (q1.1 + q2.1) * P.bytesOf e ≤ 70368744177664 ∧ q1.1 + q2.1 ≤ 70368744177664 ∧ 0 < sz ∧ 0 < P.bytesOf e ∧ q1.2.length = q1.1 * sz ∧ q2.2.length = q2.1 * sz ∧ (flat z).length = sz ∧ (flat z).all AV.cellB then
      match s with
      | .ms b ver off n sz' =>
        match H[b]? with
        | some (.cells true _ _) => if sz' = 0 ∨ sz' = sz then some (.ms b (ver + 1) 0 (q1.1 + q2.1) sz, H.set b (.cells true (ver + 1) (q1.2 ++ q2.2))) else none
        | _ => none
      | .sl true n _ => if n = 0 ∨ 0 < q2.1 then some (.ms H.length 0 0 (q1.1 + q2.1) sz, H ++ [.cells true 0 (q1.2 ++ q2.2)]) else none
      | _ => none
    else none
  | _ => none
def copyA (P : Program) (t : TypeId) (d x : AV) (H : Heap) : Option (AV × Heap) :=
  match P.underlying t, d with
  | some (.slice e), .ms b ver off n sz =>
    obind (sourceA H x) fun q =>
    if sz = P.cellsOf e ∧ q.2.length = q.1 * sz ∧ 0 < P.cellsOf e then
      obind (storeCellsA b ver off (q.2.take (min q.1 n * sz)) H) fun H' => some (.v (.int .i64 (min q.1 n : Nat)), H')
    else none
  | _, _ => none
def findA (P : Program) (t : TypeId) (k : AV) : List (AV × AV) → Option (Option AV)
  | [] => some none
  | (k', x) :: r => obind (aeq P t k k') fun b => if b then some (some x) else findA P t k r
def updA (P : Program) (t : TypeId) (k x : AV) : List (AV × AV) → Option (List (AV × AV))
  | [] => some [(k, x)]
  | (k', x') :: r => obind (aeq P t k k') fun b => if b then some ((k, x) :: r) else obind (updA P t k x r) fun r' => some ((k', x') :: r')
/-- A key that a map of this type takes. -/
def keyOk (P : Program) (t : TypeId) (k : AV) : Bool := match aeq P t k k with | some true => true | _ => false
def lenA (P : Program) (t : TypeId) (x : AV) (H : Heap) : Option AV :=
  match P.underlying t, x with
  | some .string, .v (.string s) => some (.v (.int .i64 s.size))
  | some (.slice _), .sl _ n _ => some (.v (.int .i64 n))
  | some (.slice _), .ms _ _ _ n _ => some (.v (.int .i64 n))
  | some (.map _ _), .mm b => match H[b]? with | some (.map es) => some (.v (.int .i64 es.length)) | _ => none
  | _, _ => none
def lookupA (P : Program) (t : TypeId) (m k : AV) (ok : Bool) (H : Heap) : Option AV :=
  match P.underlying t, m with
  | some (.map kt et), .mm b =>
    match H[b]? with
    | some (.map es) =>
      if keyOk P kt k then
        obind (findA P kt k es) fun r =>
        match r with
        | some x => some (if ok then .tu [x, .v (.bool true)] else x)
        | none => obind (zeroT P et) fun z => some (if ok then .tu [z, .v (.bool false)] else z)
      else none
    | _ => none
  | _, _ => none
def mapUpdateA (P : Program) (t : TypeId) (m k x : AV) (H : Heap) : Option Heap :=
  match P.underlying t, m with
  | some (.map kt _), .mm b =>
    match H[b]? with
    | some (.map es) => if keyOk P kt k then obind (updA P kt k x es) fun es' => some (H.set b (.map es')) else none
    | _ => none
  | _, _ => none
def max2A : AV → AV → Option AV
  | .v (.int k x), .v (.int k' y) => some (.v (.int k (if y > x then y else x)))
  | _, _ => none
def min2A : AV → AV → Option AV
  | .v (.int k x), .v (.int k' y) => some (.v (.int k (if y < x then y else x)))
  | _, _ => none

/-! ### 6. Calls -/
/-- What is known of a block: the slots that live at its loop's head; those that live behind it; the slots to close at the head; how many blocks of the own heap stay at the head; the slots to close behind it. -/
abbrev Ann := List Nat × List Nat × List Nat × Option Nat × List Nat
structure Cfg where
  P : Program
  shared : FuncId → Bool
  ov : FuncId → Option (List AV → Heap → Option (AV × Heap))
  ann : FuncId → Nat → Option Ann
  pr : FuncId → Nat → Option (List Nat)

def closeL (H : Heap) (xs : List AV) : Option (List AV × List Nat) := mapC (closeA depthA H) xs
def callA (c : Cfg) (C : Cl) (f : FuncId) (args : List AV) (H : Heap) : Option (AV × Heap) :=
  if c.shared f then C f args H
  else obind (closeL H args) fun q => obind (C f q.1 []) fun r =>
    match q.2 with
    | [] => some (r.1, H)
    | bs => if r.1.scalar then some (r.1, H) else some (r.1, markA H bs)
/-- The second argument of an append is no number. -/
def noInt (P : Program) (u : TypeId) : Bool := match P.underlying u with | some (.int _) => false | some _ => true | none => false
def builtinA (c : Cfg) (b : Builtin) (argTypes : Array TypeId) (args : List AV) (H : Heap) : Option (AV × Heap) :=
  match b, argTypes[0]?, args with
  | .len, some t, [x] => obind (refA H x) fun x => obind (lenA c.P t x H) fun r => some (r, H)
  | .append, some t, [s, x] => match argTypes[1]? with | some u => if noInt c.P u then appendA c.P t s x H else none | none => none
  | .copy, some t, [d, x] => copyA c.P t d x H
  | .max, _, [x, y] => obind (max2A x y) fun r => some (r, H)
  | .min, _, [x, y] => obind (min2A x y) fun r => some (r, H)
  | _, _, _ => none
def callOpA (c : Cfg) (C : Cl) (k : Call) (g : G) (H : Heap) : Option (AV × Heap) :=
  obind (aevs g k.args.toList) fun args =>
  match k.callee with
  | .builtin b => builtinA c b k.argTypes args H
  | .value f => obind (aev g f) fun x => match x with
    | .fn f caps => callA c C f (args ++ caps) H
    | _ => none
  | .invoke _ _ => none
def evP (g : G) : List (Nat × Operand) → Option (List (Nat × AV))
  | [] => some []
  | (i, o) :: r => obind (aev g o) fun x => obind (evP g r) fun xs => some ((i, x) :: xs)
def aevO (g : G) : Option Operand → Option (Option AV)
  | none => some none
  | some o => obind (aev g o) fun x => some (some x)

/-- A variable that starts as a nil slice gets an empty block of its own. -/
def assignA (H : Heap) (a : AV) : Option (AV × Heap) :=
  match a with
  | .sl true 0 [] => some (.ms H.length 0 0 0 0, H ++ [.cells true 0 []])
  | a => some (a, H)
/-- One operation: its value, and the heap behind it. -/
def aop (c : Cfg) (C : Cl) (o : Op) (g : G) (H : Heap) : Option (AV × Heap) :=
  match o with
  | .move x => obind (aev g x) fun a => some (a, H)
  | .assign x => obind (aev g x) (assignA H)
  | .pick t x y => obind (aev g t) fun b => obind (aev g x) fun a => obind (aev g y) fun d => obind (pickA b a d) fun r => some (r, H)
  | .alloc t => obind (zeroT c.P t) fun z => if (flat z).all AV.cellB then some (newVarA (flat z) H) else none
  | .box t x => obind (aev g x) fun a => if (flat a).all AV.cellB then some (newVarA (flat a) H) else none
  | .build t ps => obind (evP g ps.toList) fun qs => obind (abuild c.P t qs) fun r => some (r, H)
  | .buildSlice t n ps => obind (evP g ps.toList) fun qs => if ownLit t n ps.toList then buildOwnA c.P t n qs H else obind (abuildSlice c.P t n qs) fun r => some (r, H)
  | .load t x => obind (aev g x) fun a => obind (loadA c.P t a H) fun r => some (r, H)
  | .store t x y => obind (aev g x) fun a => obind (aev g y) fun b => if 0 < c.P.cellsOf t then obind (storeA c.P t a b H) fun H' => some (.tu [], H') else none
  | .nilCheck x => obind (aev g x) fun a => obind (refA H a) fun a => obind (nilCheckA a) fun r => some (r, H)
  | .binOp op t x y _ => obind (aev g x) fun a => obind (aev g y) fun b => obind (abin c.P op t a b) fun r => some (r, H)
  | .unOp op _ x => obind (aev g x) fun a => obind (aun op a) fun r => some (r, H)
  | .convert s d x => obind (aev g x) fun a => obind (aconv c.P s d a) fun r => some (r, H)
  | .makeFunc f fs cs => match f, fs.toList with
    | .func f, [] => obind (aevs g cs.toList) fun xs => some (.fn f xs, H)
    | _, _ => none
  | .makeMap t r => match c.P.underlying t, r with
    | some (.map _ _), none => some (.mm H.length, H ++ [.map []])
    | _, _ => none
  | .makeSlice t l k => obind (aev g l) fun a => obind (aev g k) fun b => makeSliceA c.P t a b H
  | .slice t x l h none => obind (aev g x) fun a => obind (aevO g l) fun lo => obind (aevO g h) fun hi => obind (refA H a) fun a => obind (sliceArrA c.P t a lo hi H) fun r => some (r, H)
  | .fieldAddr t x f => obind (aev g x) fun a => obind (refA H a) fun a => obind (fieldAddrA c.P t a f) fun r => some (r, H)
  | .field t x f => obind (aev g x) fun a => obind (fieldA c.P t a f) fun r => some (r, H)
  | .indexAddr t x i => obind (aev g x) fun a => obind (refA H a) fun a => obind (aev g i) fun b => obind (indexAddrA c.P t a b) fun r => some (r, H)
  | .index t x i => obind (aev g x) fun a => obind (aev g i) fun b => obind (indexA c.P t a b) fun r => some (r, H)
  | .lookup t m k ok => obind (aev g m) fun a => obind (aev g k) fun b => obind (lookupA c.P t a b ok H) fun r => some (r, H)
  | .mapUpdate t m k x => obind (aev g m) fun a => obind (aev g k) fun b => obind (aev g x) fun y => obind (mapUpdateA c.P t a b y H) fun H' => some (.tu [], H')
  | .insert t m k x => obind (aev g m) fun a => obind (aev g k) fun b => obind (aev g x) fun y => obind (mapUpdateA c.P t a b y H) fun H' => some (.tu [], H')
  | .extract x i => obind (aev g x) fun a => obind (extractA a i) fun r => some (r, H)
  | .call k => callOpA c C k g H
  | _ => none

/-- Does the operation's guard let it through? -/
def wantA (ops : Array Oper) (o : Oper) (g : G) : Option Bool :=
  match o.guard with
  | none => some true
  | some (j, want) =>
    match (ops[j]?).bind (·.dst) with
    | none => none
    | some d =>
      match g d with
      | some (.v (.bool b)) => some (b == want)
      | some (.tu []) => some false
      | _ => none
def aops (c : Cfg) (C : Cl) (ops : Array Oper) : List Oper → Env → Heap → Option (Env × Heap)
  | [], e, H => some (e, H)
  | o :: r, e, H => obind (wantA ops o e.get) fun t =>
    if t then obind (aop c C o.op e.get H) fun q => aops c C ops r (putA e o.dst q.1) q.2
    else aops c C ops r (putA e o.dst (.tu [])) H

inductive Ex where
  | normal
  | exit (id : Nat)
  | ret
abbrev St := Env × Heap
abbrev Lp := (St → Option (Ex × St)) → St → Option (Ex × St)
def iterN : Nat → Lp
  | 0, _, _ => none
  | n + 1, f, s => obind (f s) fun r => match r.1 with | .normal => iterN n f r.2 | _ => some r

mutual
def AV.under (m : Nat) : AV → Bool
  | .ms b .. => decide (b < m)
  | .mp b .. => decide (b < m)
  | .mm b => decide (b < m)
  | .ag cs => underL m cs
  | .tu cs => underL m cs
  | .fn _ cs => underL m cs
  | _ => true
def underL (m : Nat) : List AV → Bool
  | [] => true
  | x :: r => x.under m && underL m r
end
def AB.under (m : Nat) : AB → Bool
  | .cells _ _ cs => underL m cs
  | .map es => es.all fun p => p.1.under m && p.2.under m
def closeSlots : List Nat → St → Option St
  | [], s => some s
  | t :: r, s => obind (s.1.get t) fun x => obind (closeA depthA s.2 x) fun q => closeSlots r (s.1.put t q.1, markA s.2 q.2)
def truncA (m : Nat) (s : St) : Option St :=
  if (s.1.all fun p => p.2.under m) && (s.2.take m).all (AB.under m) then some (s.1, s.2.take m) else none
/-- At a loop's head. -/
def headA (a : Option Ann) (s : St) : Option St :=
  match a with
  | none => some s
  | some (inn, _, cl, tr, _) =>
    obind (closeSlots cl (s.1.keep inn, s.2)) fun s' => match tr with | none => some s' | some m => truncA m s'
def tailA (a : Option Ann) (e : Env) (H : Heap) : Option St :=
  match a with
  | none => some (e, H)
  | some (_, out, _, _, cl) => closeSlots cl (e.keep out, H)
/-- What is kept on the way out of a block, out of the function. -/
def exitA (a : Option Ann) (e : Env) : Env :=
  match a with
  | none => e
  | some (_, out, _) => e.keep out
/-- Behind a region: the slots that are kept. -/
def pruneA (p : Option (List Nat)) (e : Env) : Env :=
  match p with
  | none => e
  | some ks => e.keep ks
def retB : Nat := 999999
def acond (x : Option AV) (a b : Option (Ex × St)) : Option (Ex × St) :=
  match x with
  | some (.v (.bool t)) => if t then a else b
  | _ => none
/-- At the end of a round. -/
def endA (a : Option Ann) (r : Ex × St) : Option (Ex × St) :=
  match r.1 with
  | .normal => obind (headA a r.2) fun s => some (.normal, s)
  | _ => some r
def blockA (id : Nat) (a : Option Ann) (r : Option (Ex × St)) : Option (Ex × St) :=
  obind r fun r =>
    match r.1 with
    | .normal => obind (tailA a r.2.1 r.2.2) fun s => some (.normal, s)
    | .exit j => if j = id then obind (tailA a r.2.1 r.2.2) fun s => some (.normal, s) else some r
    | .ret => some r

def arun (c : Cfg) (f : FuncId) (lp : Lp) (C : Cl) : Nat → Code → Env → Heap → Option (Ex × St)
  | _, .skip, e, H => some (.normal, e, H)
  | _, .region id ops _, e, H => obind (aops c C ops ops.toList e H) fun s => some (.normal, pruneA (c.pr f id) s.1, s.2)
  | k, .seq a b, e, H => obind (arun c f lp C k a e H) fun r => match r.1 with | .normal => arun c f lp C k b r.2.1 r.2.2 | _ => some r
  | k, .cond x a b, e, H => acond (aev e.get x) (arun c f lp C k a e H) (arun c f lp C k b e H)
  | _, .block id a, e, H => blockA id (c.ann f id) (arun c f lp C id a e H)
  | k, .loop a, e, H => obind (headA (c.ann f k) (e, H)) (lp (fun s => obind (arun c f lp C k a s.1 s.2) (endA (c.ann f k))))
  | _, .exit id, e, H => some (.exit id, exitA (c.ann f id) e, H)
  | _, .ret, e, H => some (.ret, exitA (c.ann f retB) e, H)
  | _, .label _, e, H => some (.normal, e, H)
  | _, _, _, _ => none

/-! ### 7. Functions -/
def resA (P : Program) (H : Heap) (g : G) : List ResultVar → Option (List AV)
  | [] => some []
  | .tmp t :: r => obind (g t) fun x => obind (resA P H g r) fun xs => some (x :: xs)
  | .cell a t :: r => obind (g a) fun p => obind (loadA P t p H) fun x => obind (resA P H g r) fun xs => some (x :: xs)
def tupA : List AV → AV
  | [x] => x
  | xs => .tu xs
def bodyA (c : Cfg) (lp : Lp) (C : Cl) (f : FuncId) (args : List AV) (H : Heap) : Option (AV × Heap) :=
  match c.P.funcs[f]? with
  | some fn =>
    match fn.body with
    | some code => obind (arun c f lp C 0 code (Env.ofList 0 args) H) fun r =>
      match r.1 with
      | .exit _ => none
      | _ => obind (resA c.P r.2.2 r.2.1.get fn.results.toList) fun xs => some (tupA xs, r.2.2)
    | none => none
  | none => none
def stepA (c : Cfg) (lp : Lp) (C : Cl) : Cl := fun f args H =>
  match c.ov f with
  | some g => g args H
  | none => if c.shared f then bodyA c lp C f args H else
    match H with
    | [] => obind (bodyA c lp C f args []) fun r => obind (closeA depthA r.2 r.1) fun q => some (q.1, [])
    | _ => none
def acallN (c : Cfg) : Nat → Cl
  | 0 => fun _ _ _ => none
  | n + 1 => stepA c (iterN n) (acallN c n)
end Go.AI

/- The abstract interpreter: what an abstract value says of a value in a world; that it goes on saying so. No conditions. -/
set_option linter.unusedVariables false
namespace Go.AI

/-- Where a block of the own heap lies: its version; nowhere (it is empty), or a block and the place of its first cell. -/
abbrev Pl := Nat → Option (Nat × Option (Nat × Nat))
structure Kap where
  w : World
  A : Nat → Prop
  p : Pl

def RowSz (w : World) (b k : Nat) : Prop := ∃ c e fr, w.heap[b]? = some (.cells c e fr) ∧ k ≤ c.size
def RowAt (κ : Kap) (b o : Nat) (us : List Value) : Prop :=
  (∀ j u, us[j]? = some u → κ.w.cell? ⟨b, o + j, none⟩ = some u) ∧ (us ≠ [] → ¬ κ.A b) ∧ ∀ u ∈ us, u.oneCell' = true
def SlAt (κ : Kap) (n : Nat) (ad : Option Addr) (us : List Value) : Prop :=
  match ad with
  | none => us = []
  | some a => (0 < n ∨ us ≠ [] → a.spot = none) ∧ RowAt κ a.block a.off us
def MsR (w : World) (off n sz : Nat) (u : Value) : Option (Nat × Nat) → Prop
  | none => n = 0 ∧ ∃ ad, u = .slice ad 0 0
  | some (rb, o) => sz ≠ 0 ∧ ∃ cap ao, u = .slice (some ⟨rb, ao, none⟩) n cap ∧ n ≤ cap ∧ (0 < n → ao = o + off) ∧ RowSz w rb (ao + cap * sz)

mutual
def VR (κ : Kap) : AV → Value → Prop
  | .v x, u => u = x ∧ x.oneCell' = true
  | .sl full n cs, u => ∃ ad cap, u = .slice ad n cap ∧ n ≤ cap ∧ (full = true → cap = n) ∧ (0 < n → ad.isSome = true) ∧ goodL cs = true ∧ ∃ us, VRs κ cs us ∧ SlAt κ n ad us
  | .pt cs off, u => ∃ b o, u = .pointer (some ⟨b, o + off, none⟩) ∧ goodL cs = true ∧ ∃ us, VRs κ cs us ∧ RowAt κ b o us
  | .ms b ver off n sz, u => u.oneCell' = true ∧ ∃ v x, κ.p b = some (v, x) ∧ ver ≤ v ∧ (v = ver → MsR κ.w off n sz u x)
  | .mp b ver off, u => u.oneCell' = true ∧ ∃ v x, κ.p b = some (v, x) ∧ ver ≤ v ∧ (v = ver → ∃ rb o, x = some (rb, o) ∧ u = .pointer (some ⟨rb, o + off, none⟩))
  | .mm b, u => u.oneCell' = true ∧ ∃ v x, κ.p b = some (v, x) ∧ (v = 0 → ∃ rb, x = some (rb, 0) ∧ u = .map (some rb))
  | .ag cs, u => ∃ us : List Value, u = .agg us.toArray ∧ VRs κ cs us ∧ ∀ y ∈ us, y.oneCell' = true
  | .tu cs, u => ∃ us : List Value, u = .tuple us.toArray ∧ VRs κ cs us
  | .fn f cs, u => ∃ us : List Value, u = .func (.func f) #[] us.toArray ∧ VRs κ cs us
def VRs (κ : Kap) : List AV → List Value → Prop
  | [], us => us = []
  | x :: r, us => ∃ u s, us = u :: s ∧ VR κ x u ∧ VRs κ r s
end

/-- One world after another: what was said goes on to be true. -/
structure PK (κ κ' : Kap) : Prop where
  cell : ∀ a u, ¬ κ.A a.block → κ.w.cell? a = some u → κ'.w.cell? a = some u
  avo : ∀ b, κ'.A b → κ.A b ∨ κ.w.heap.size ≤ b
  size : κ.w.heap.size ≤ κ'.w.heap.size
  row : ∀ b k, RowSz κ.w b k → RowSz κ'.w b k
  pl : ∀ b v x, κ.p b = some (v, x) → ∃ v' x', κ'.p b = some (v', x') ∧ ((v' = v ∧ x' = x) ∨ v < v')

theorem PK.refl (κ : Kap) : PK κ κ := ⟨fun _ _ _ h => h, fun _ h => .inl h, Nat.le_refl _, fun _ _ h => h, fun b v x h => ⟨v, x, h, .inl ⟨rfl, rfl⟩⟩⟩
theorem PK.trans {κ κ' κ'' : Kap} (h : PK κ κ') (h' : PK κ' κ'') : PK κ κ'' := by
  refine ⟨fun a u hA hc => h'.cell a u (fun h1 => ?_) (h.cell a u hA hc), fun b hb => ?_, Nat.le_trans h.size h'.size, fun b k hr => h'.row b k (h.row b k hr), fun b v x hp => ?_⟩
  · rcases h.avo _ h1 with h2 | h2
    · exact hA h2
    · have := World.block_lt_of_cell? _ _ hc
      omega
  · rcases h'.avo b hb with h1 | h1
    · exact h.avo b h1
    · exact .inr (Nat.le_trans h.size h1)
  · obtain ⟨v1, x1, h1, h2⟩ := h.pl b v x hp
    obtain ⟨v2, x2, h3, h4⟩ := h'.pl b v1 x1 h1
    refine ⟨v2, x2, h3, ?_⟩
    rcases h2 with ⟨rfl, rfl⟩ | h2
    · exact h4
    · rcases h4 with ⟨rfl, rfl⟩ | h4
      · exact .inr h2
      · exact .inr (Nat.lt_trans h2 h4)

theorem RowAt.mono {κ κ' : Kap} (h : PK κ κ') {b o : Nat} {us : List Value} (hr : RowAt κ b o us) : RowAt κ' b o us := by
  refine ⟨fun j u hj => ?_, fun hne => ?_, hr.2.2⟩
  · have hne : us ≠ [] := by intro h0; rw [h0] at hj; simp at hj
    exact h.cell _ _ (hr.2.1 hne) (hr.1 j u hj)
  · intro hA
    obtain ⟨u, us', rfl⟩ := List.exists_cons_of_ne_nil hne
    have hc := hr.1 0 u rfl
    have hlt := World.block_lt_of_cell? _ _ hc
    rcases h.avo _ hA with h1 | h1
    · exact hr.2.1 hne h1
    · simp at hlt; omega
theorem SlAt.mono {κ κ' : Kap} (h : PK κ κ') {n : Nat} {ad : Option Addr} {us : List Value} (hr : SlAt κ n ad us) : SlAt κ' n ad us := by
  cases ad with
  | none => exact hr
  | some a => exact ⟨hr.1, hr.2.mono h⟩
theorem MsR.mono {w w' : World} (h : ∀ b k, RowSz w b k → RowSz w' b k) {off n sz : Nat} {u : Value} {x : Option (Nat × Nat)} (hr : MsR w off n sz u x) : MsR w' off n sz u x := by
  cases x with
  | none => exact hr
  | some q =>
    obtain ⟨rb, o⟩ := q
    obtain ⟨hz, cap, ao, h1, h2, h3, h4⟩ := hr
    exact ⟨hz, cap, ao, h1, h2, h3, h _ _ h4⟩
mutual
theorem VR.mono {κ κ' : Kap} (h : PK κ κ') : ∀ (x : AV) (u : Value), VR κ x u → VR κ' x u
  | .v _, u, hx => by simp only [VR] at hx ⊢; exact hx
  | .sl full n cs, u, hx => by
    simp only [VR] at hx ⊢
    obtain ⟨ad, cap, h1, h2, h3, h4, h5, us, h6, h7⟩ := hx
    exact ⟨ad, cap, h1, h2, h3, h4, h5, us, VRs.mono h cs us h6, h7.mono h⟩
  | .pt cs off, u, hx => by
    simp only [VR] at hx ⊢
    obtain ⟨b, o, h1, h2, us, h3, h4⟩ := hx
    exact ⟨b, o, h1, h2, us, VRs.mono h cs us h3, h4.mono h⟩
  | .ms b ver off n sz, u, hx => by
    simp only [VR] at hx ⊢
    obtain ⟨h0, v, x, h1, h2, h3⟩ := hx
    obtain ⟨v', x', h4, h5⟩ := h.pl b v x h1
    rcases h5 with ⟨rfl, rfl⟩ | h5
    · exact ⟨h0, _, _, h4, h2, fun e => (h3 e).mono h.row⟩
    · exact ⟨h0, _, _, h4, by omega, fun e => by omega⟩
  | .mp b ver off, u, hx => by
    simp only [VR] at hx ⊢
    obtain ⟨h0, v, x, h1, h2, h3⟩ := hx
    obtain ⟨v', x', h4, h5⟩ := h.pl b v x h1
    rcases h5 with ⟨rfl, rfl⟩ | h5
    · exact ⟨h0, _, _, h4, h2, h3⟩
    · exact ⟨h0, _, _, h4, by omega, fun e => by omega⟩
  | .mm b, u, hx => by
    simp only [VR] at hx ⊢
    obtain ⟨h0, v, x, h1, h3⟩ := hx
    obtain ⟨v', x', h4, h5⟩ := h.pl b v x h1
    rcases h5 with ⟨rfl, rfl⟩ | h5
    · exact ⟨h0, _, _, h4, h3⟩
    · exact ⟨h0, _, _, h4, fun e => by omega⟩
  | .ag cs, u, hx => by
    simp only [VR] at hx ⊢
    obtain ⟨us, h1, h2, h3⟩ := hx
    exact ⟨us, h1, VRs.mono h cs us h2, h3⟩
  | .tu cs, u, hx => by
    simp only [VR] at hx ⊢
    obtain ⟨us, h1, h2⟩ := hx
    exact ⟨us, h1, VRs.mono h cs us h2⟩
  | .fn f cs, u, hx => by
    simp only [VR] at hx ⊢
    obtain ⟨us, h1, h2⟩ := hx
    exact ⟨us, h1, VRs.mono h cs us h2⟩
theorem VRs.mono {κ κ' : Kap} (h : PK κ κ') : ∀ (xs : List AV) (us : List Value), VRs κ xs us → VRs κ' xs us
  | [], us, hx => by simp only [VRs] at hx ⊢; exact hx
  | x :: r, us, hx => by
    simp only [VRs] at hx ⊢
    obtain ⟨u, s, h1, h2, h3⟩ := hx
    exact ⟨u, s, h1, VR.mono h x u h2, VRs.mono h r s h3⟩
end

/-! ### Lists of values -/
section
variable {κ : Kap}
theorem VRs.cons {x : AV} {r : List AV} {u : Value} {s : List Value} (h : VR κ x u) (hr : VRs κ r s) : VRs κ (x :: r) (u :: s) := by
  simp only [VRs]; exact ⟨u, s, rfl, h, hr⟩
theorem VRs.nil : VRs κ [] [] := by simp only [VRs]
theorem VRs.uncons {x : AV} {r : List AV} {us : List Value} (h : VRs κ (x :: r) us) : ∃ u s, us = u :: s ∧ VR κ x u ∧ VRs κ r s := by
  simpa only [VRs] using h
theorem VRs.nil_eq {us : List Value} (h : VRs κ [] us) : us = [] := by simpa only [VRs] using h
theorem VRs.length : ∀ {xs : List AV} {us : List Value}, VRs κ xs us → us.length = xs.length
  | [], us, h => by rw [h.nil_eq]; rfl
  | x :: r, us, h => by
    obtain ⟨u, s, rfl, _, hr⟩ := h.uncons
    simp [hr.length]
theorem VRs.get : ∀ {xs : List AV} {us : List Value}, VRs κ xs us → ∀ (i : Nat) (x : AV), xs[i]? = some x → ∃ u, us[i]? = some u ∧ VR κ x u
  | [], us, h, i, x, hi => by simp at hi
  | y :: r, us, h, i, x, hi => by
    obtain ⟨u, s, rfl, hu, hr⟩ := h.uncons
    cases i with
    | zero => simp at hi; subst hi; exact ⟨u, rfl, hu⟩
    | succ i => simp at hi; simpa using hr.get i x hi
theorem VRs.append : ∀ {xs ys : List AV} {us vs : List Value}, VRs κ xs us → VRs κ ys vs → VRs κ (xs ++ ys) (us ++ vs)
  | [], ys, us, vs, h, h' => by rw [h.nil_eq]; exact h'
  | x :: r, ys, us, vs, h, h' => by
    obtain ⟨u, s, rfl, hu, hr⟩ := h.uncons
    exact .cons hu (hr.append h')
theorem VRs.take : ∀ {xs : List AV} {us : List Value} (k : Nat), VRs κ xs us → VRs κ (xs.take k) (us.take k)
  | xs, us, 0, h => by simp only [List.take_zero]; exact .nil
  | [], us, k + 1, h => by rw [h.nil_eq]; exact .nil
  | x :: r, us, k + 1, h => by
    obtain ⟨u, s, rfl, hu, hr⟩ := h.uncons
    exact .cons hu (hr.take k)
theorem VRs.drop : ∀ {xs : List AV} {us : List Value} (k : Nat), VRs κ xs us → VRs κ (xs.drop k) (us.drop k)
  | xs, us, 0, h => h
  | [], us, k + 1, h => by rw [h.nil_eq]; exact .nil
  | x :: r, us, k + 1, h => by
    obtain ⟨u, s, rfl, hu, hr⟩ := h.uncons
    exact hr.drop k
theorem VRs.set : ∀ {xs : List AV} {us : List Value} (k : Nat) {y : AV} {v : Value}, VRs κ xs us → VR κ y v → VRs κ (xs.set k y) (us.set k v)
  | [], us, k, y, v, h, hy => by rw [h.nil_eq]; exact .nil
  | x :: r, us, 0, y, v, h, hy => by
    obtain ⟨u, s, rfl, hu, hr⟩ := h.uncons
    exact .cons hy hr
  | x :: r, us, k + 1, y, v, h, hy => by
    obtain ⟨u, s, rfl, hu, hr⟩ := h.uncons
    exact .cons hu (hr.set k hy)
theorem VRs.mem : ∀ {xs : List AV} {us : List Value}, VRs κ xs us → ∀ u ∈ us, ∃ x ∈ xs, VR κ x u
  | [], us, h, u, hu => by rw [h.nil_eq] at hu; cases hu
  | x :: r, us, h, u, hu => by
    obtain ⟨u', s, rfl, hu', hr⟩ := h.uncons
    rcases List.mem_cons.1 hu with rfl | hm
    · exact ⟨x, by simp, hu'⟩
    · obtain ⟨y, hy, hv⟩ := hr.mem u hm
      exact ⟨y, by simp [hy], hv⟩
/-- What stands in one cell. -/
theorem VR.one {x : AV} {u : Value} (h : VR κ x u) (hc : x.cellB = true) : u.oneCell' = true := by
  cases x with
  | v y => simp only [VR] at h; rw [h.1]; exact h.2
  | sl => simp only [VR] at h; obtain ⟨_, _, rfl, _⟩ := h; rfl
  | pt => simp only [VR] at h; obtain ⟨_, _, rfl, _⟩ := h; rfl
  | ms => simp only [VR] at h; exact h.1
  | mp => simp only [VR] at h; exact h.1
  | mm => simp only [VR] at h; exact h.1
  | ag => cases hc
  | tu => cases hc
  | fn => simp only [VR] at h; obtain ⟨_, rfl, _⟩ := h; rfl
theorem VRs.one : ∀ {xs : List AV} {us : List Value}, VRs κ xs us → xs.all AV.cellB = true → ∀ u ∈ us, u.oneCell' = true
  | [], us, h, _, u, hu => by rw [h.nil_eq] at hu; cases hu
  | x :: r, us, h, ha, u, hu => by
    obtain ⟨u', s, rfl, hu', hr⟩ := h.uncons
    simp only [List.all_cons, Bool.and_eq_true] at ha
    rcases List.mem_cons.1 hu with rfl | hm
    · exact hu'.one ha.1
    · exact hr.one ha.2 u hm
/-- A value as cells. -/
theorem VR.flat {x : AV} {u : Value} (h : VR κ x u) (hc : (AI.flat x).all AV.cellB = true) : VRs κ (AI.flat x) u.cells.toList ∧ ∀ y ∈ u.cells.toList, y.oneCell' = true := by
  cases x with
  | ag cs =>
    simp only [VR] at h
    obtain ⟨us, rfl, h2, h3⟩ := h
    exact ⟨by simpa [AI.flat, Value.cells] using h2, by simpa [Value.cells] using h3⟩
  | tu cs => simp [AI.flat, AV.cellB] at hc
  | _ =>
    have h1 := h.one (by simpa [AI.flat] using hc)
    have h2 : u.cells.toList = [u] := by cases u <;> first | rfl | simp [Value.oneCell'] at h1
    rw [h2]
    exact ⟨.cons h .nil, by simpa using h1⟩
theorem flat_length {x : AV} {u : Value} (h : VR κ x u) (hc : (AI.flat x).all AV.cellB = true) : u.cells.size = (AI.flat x).length := by
  have := (h.flat hc).1.length
  simpa using this
end

/-! ### The own heap in a world -/
/-- What a function's run may count on and must keep: `F` blocks that others own; `L` blocks that it was handed to write; `w` the world in which it began. -/
structure Kx where
  F : Nat → Prop
  L : Nat → Prop
  w : World
def AB.live : AB → Bool
  | .cells l _ _ => l
  | .map _ => true
def LiveAt (H : Heap) (p : Pl) (b rb : Nat) : Prop := ∃ x v o, H[b]? = some x ∧ x.live = true ∧ p b = some (v, some (rb, o))
def Avo (K : Kx) (H : Heap) (p : Pl) (rb : Nat) : Prop := K.F rb ∨ ∃ b, LiveAt H p b rb
def kap (K : Kx) (H : Heap) (p : Pl) (w : World) : Kap := ⟨w, Avo K H p, p⟩
def EntR (κ : Kap) : List (AV × AV) → List MapEntry → Prop
  | [], es => es = []
  | (k, x) :: r, es => ∃ e s, es = e :: s ∧ VR κ k e.key ∧ VR κ x e.val ∧ EntR κ r s
def BlkR (κ : Kap) (b : Nat) : AB → Prop
  | .cells live ver cs => ∃ x, κ.p b = some (ver, x) ∧ match x with
    | none => cs = []
    | some (rb, o) => ∃ c e fr us, κ.w.heap[rb]? = some (.cells c e fr) ∧ VRs κ cs us ∧ (∀ j u, us[j]? = some u → c[o + j]? = some u) ∧ (∀ y ∈ us, y.oneCell' = true) ∧ (live = true → fr = (0, 0))
  | .map es => ∃ rb ents clock, κ.p b = some (0, some (rb, 0)) ∧ κ.w.heap[rb]? = some (.map ents clock) ∧ EntR κ es ents.toList
structure Ext (K : Kx) (w : World) : Prop where
  os : w.os = K.w.os
  tape : w.tape = K.w.tape
  output : w.output = K.w.output
  size : K.w.heap.size ≤ w.heap.size
  block : ∀ b, b < K.w.heap.size → ¬ K.L b → w.heap[b]? = K.w.heap[b]?
  froz : ∀ a, w.frozen? a = K.w.frozen? a
structure Inv (K : Kx) (H : Heap) (p : Pl) (w : World) : Prop where
  blk : ∀ b x, H[b]? = some x → BlkR (kap K H p w) b x
  inj : ∀ b b' v o v' o' rb, b < H.length → b' < H.length → p b = some (v, some (rb, o)) → p b' = some (v', some (rb, o')) → b = b'
  dis : ∀ b v o rb, b < H.length → p b = some (v, some (rb, o)) → ¬ K.F rb
  old : ∀ b rb, LiveAt H p b rb → K.L rb ∨ K.w.heap.size ≤ rb
  fsz : ∀ b, K.F b → b < w.heap.size
  ext : Ext K w
  dom : ∀ b, H.length ≤ b → p b = none
theorem EntR.mono {κ κ' : Kap} (h : PK κ κ') : ∀ {es : List (AV × AV)} {xs : List MapEntry}, EntR κ es xs → EntR κ' es xs
  | [], xs, hx => hx
  | (k, x) :: r, xs, hx => by
    obtain ⟨e, s, rfl, h1, h2, h3⟩ := hx
    exact ⟨e, s, rfl, VR.mono h _ _ h1, VR.mono h _ _ h2, EntR.mono h h3⟩
theorem VR.mono' {κ κ' : Kap} {x : AV} {u : Value} (hx : VR κ x u) (h : PK κ κ') : VR κ' x u := VR.mono h x u hx
theorem VRs.mono' {κ κ' : Kap} {xs : List AV} {us : List Value} (hx : VRs κ xs us) (h : PK κ κ') : VRs κ' xs us := VRs.mono h xs us hx
/-- What the temporaries hold. -/
def EnvR (κ : Kap) (g : G) (a : Act) : Prop := ∀ t x, g t = some x → VR κ x (a.tmps.getD t undef)
theorem EnvR.mono {κ κ' : Kap} (h : PK κ κ') {g : G} {a : Act} (hx : EnvR κ g a) : EnvR κ' g a := fun t x ht => (hx t x ht).mono' h
end Go.AI

/- The abstract interpreter: its operations on values are those of the model. No conditions. -/
set_option linter.unusedVariables false
namespace Go.AI
section
variable {κ : Kap}
theorem VR_v {x : Value} (h : x.oneCell' = true) : VR κ (.v x) x := by simp only [VR]; exact ⟨trivial, h⟩
theorem VR.v_eq {x u : Value} (h : VR κ (.v x) u) : u = x := by simp only [VR] at h; exact h.1
theorem VR_nil : VR κ (.sl true 0 []) (.slice none 0 0) := by
  simp only [VR]
  exact ⟨none, 0, rfl, Nat.le_refl _, fun _ => rfl, fun h => absurd h (by omega), rfl, [], .nil, rfl⟩
theorem VR_cell {x : Value} (h : x.oneCell' = true) : VR κ (ofCell x) x := by
  unfold ofCell
  split
  · exact VR_nil
  · exact VR_v h
theorem VRs_cells : ∀ {xs : List Value}, xs.all Value.oneCell' = true → VRs κ (xs.map ofCell) xs
  | [], _ => .nil
  | x :: r, h => by
    simp only [List.all_cons, Bool.and_eq_true] at h
    exact .cons (VR_cell h.1) (VRs_cells h.2)
theorem VR_val {x : Value} (h : cstB x = true) : VR κ (ofVal x) x := by
  unfold ofVal
  split
  · simp only [VR, cstB] at h ⊢
    exact ⟨_, by simp, VRs_cells h, fun y hy => List.all_eq_true.1 h y hy⟩
  · simp only [VR, cstB] at h ⊢
    exact ⟨_, by simp, VRs_cells h⟩
  · exact VR_cell (by cases x <;> first | rfl | simp_all)
theorem aev_sound {g : G} {a : Act} (hE : EnvR κ g a) {o : Operand} {x : AV} (h : aev g o = some x) : VR κ x (a.eval o) := by
  cases o with
  | tmp t => exact hE t x h
  | const y =>
    simp only [aev] at h
    split at h
    · rename_i hc
      cases h
      exact VR_val hc
    · cases h
  | global _ => cases h
  | func f =>
    simp only [aev] at h
    cases h
    simp only [VR, Act.eval]
    exact ⟨[], rfl, .nil⟩
theorem aevs_sound {g : G} {a : Act} (hE : EnvR κ g a) : ∀ {os : List Operand} {xs : List AV}, aevs g os = some xs → VRs κ xs (os.map a.eval)
  | [], xs, h => by cases h; exact .nil
  | o :: r, xs, h => by
    obtain ⟨x, hx, h⟩ := obind_eq h
    obtain ⟨ys, hy, h⟩ := obind_eq h
    cases h
    exact .cons (aev_sound hE hx) (aevs_sound hE hy)
theorem VR.ofInt {x : AV} {k : IntKind} {n : Int} {u : Value} (h : VR κ (.v (.int k n)) u) : u = .int k n := h.v_eq

/-! ### Operations on numbers, strings, bools -/
section
variable {P : Program} {w : World}
theorem run_shift_eq {op : BinOp} {k k' : IntKind} {a b : Int} {r : Value} (h : ashift op k a b = some r) : (Op.shift op k a k' b).run P w = .ok r w ∧ r.oneCell' = true := by
  unfold ashift at h
  unfold Op.shift
  split at h
  · cases h
  · rename_i hb
    rw [if_neg hb]
    cases op <;> first | (cases h; exact ⟨rfl, rfl⟩) | cases h
theorem run_int_eq {op : BinOp} {k : IntKind} {a b : Int} {r : Value} (h : aint op k a b = some r) (t : TypeId) : (binOp op t (.int k a) (.int k b)).run P w = .ok r w ∧ r.oneCell' = true := by
  cases op <;> simp only [aint, acmp, obind] at h <;> first
    | (cases h; exact ⟨by simp [binOp, Op.intArith, Op.intBits, Op.intCmp], rfl⟩)
    | (split at h
       · cases h
       · rename_i hb
         cases h
         exact ⟨by simp [binOp, Op.intDiv, hb], rfl⟩)
    | cases h
theorem run_str_eq {op : BinOp} {a b : ByteArray} {r : Value} (h : astr op a b = some r) (t : TypeId) : (binOp op t (.string a) (.string b)).run P w = .ok r w ∧ r.oneCell' = true := by
  cases op <;> simp only [astr] at h <;> first
    | (cases h; exact ⟨by simp [binOp, Op.stringOp], rfl⟩)
    | (split at h
       · rename_i hb
         cases h
         refine ⟨?_, rfl⟩
         have h1 : ¬ ((a.size + b.size : Nat) : Int) > IntKind.i64.max := by
           have : IntKind.i64.max = 9223372036854775807 := by decide
           omega
         simp only [binOp, Op.stringOp, if_neg h1]
         rfl
       · cases h)
    | cases h

/-! ### Equality of plain cells -/
theorem run_cellEq {kd : TypeDesc} {x y : AV} {b : Bool} (h : cellEq kd x y = some b) {e : TypeId} (he : basicT P e = some kd) {u v : Value} (hu : VR κ x u) (hv : VR κ y v) (d : Nat) :
    (Op.equalIn (d + 1) e u v).run P w = .ok b w := by
  unfold basicT at he
  unfold cellEq at h
  split at he
  · rename_i k0 hq
    cases he
    split at h
    · rename_i k a k' c _
      cases hu.v_eq; cases hv.v_eq
      by_cases hk : k = k'
      · subst hk
        rw [if_pos rfl] at h
        cases h
        simp [Op.equalIn, run_underlying hq]
      · rw [if_neg hk] at h; cases h
    · rename_i e1; cases e1
    · rename_i e1; cases e1
    · cases h
  · rename_i hq
    cases he
    split at h
    · rename_i e1; cases e1
    · cases hu.v_eq; cases hv.v_eq
      cases h
      simp [Op.equalIn, run_underlying hq]
    · rename_i e1; cases e1
    · cases h
  · rename_i hq
    cases he
    split at h
    · rename_i e1; cases e1
    · rename_i e1; cases e1
    · cases hu.v_eq; cases hv.v_eq
      cases h
      simp [Op.equalIn, run_underlying hq]
    · cases h
  · cases he
theorem basicT_part {e : TypeId} {kd : TypeDesc} (he : basicT P e = some kd) (cs : Array Value) (i : Nat) (u : Value) (h : cs[i]? = some u) : (part e cs i).run P w = .ok u w := by
  unfold basicT at he
  split at he <;> first
    | (cases he; done)
    | (rename_i hq; simp [part, isAgg, run_underlying hq, h])
/-- All cells of an array, one by one. -/
theorem run_eqArr {e : TypeId} {kd : TypeDesc} (he : basicT P e = some kd) (hs : P.cellsOf e = 1) (d : Nat) (xs ys : Array Value) : ∀ (n k : Nat) (as bs : List AV) (b : Bool),
    cellsEq (List.replicate n kd) as bs = some b → VRs κ as (xs.toList.drop k) → VRs κ bs (ys.toList.drop k) → ∀ (w : World),
    ((forIn (m := Sem) (List.range' k n) ((none, ()) : Option Bool × Unit) fun i r => do
        let a ← part e xs (i * 1)
        let c ← part e ys (i * 1)
        let t ← Op.equalIn (d + 1) e a c
        if (!t) = true then pure (.done (some false, ())) else pure (.yield (none, ()))).run P w = .ok (if b then (none, ()) else (some false, ())) w) := by
  intro n
  induction n with
  | zero =>
    intro k as bs b h h1 h2 w
    cases as <;> cases bs <;> simp [cellsEq] at h
    subst h
    simp
  | succ n ih =>
    intro k as bs b h h1 h2 w
    cases as with
    | nil => simp [List.replicate_succ, cellsEq] at h
    | cons x r =>
      cases bs with
      | nil => simp [List.replicate_succ, cellsEq] at h
      | cons y s =>
        simp only [List.replicate_succ, cellsEq] at h
        obtain ⟨b1, hb1, h⟩ := obind_eq h
        obtain ⟨b2, hb2, h⟩ := obind_eq h
        cases h
        obtain ⟨u, us, e1, hu, hr⟩ := h1.uncons
        obtain ⟨v, vs, e2, hv, hs'⟩ := h2.uncons
        have hxk : xs[k]? = some u := by
          have := congrArg (·[0]?) e1
          simpa using this
        have hyk : ys[k]? = some v := by
          have := congrArg (·[0]?) e2
          simpa using this
        have hd1 : xs.toList.drop (k + 1) = us := by rw [← List.tail_drop, e1]; rfl
        have hd2 : ys.toList.drop (k + 1) = vs := by rw [← List.tail_drop, e2]; rfl
        rw [List.range'_succ, List.forIn_cons]
        simp only [Sem.run_bind, Nat.mul_one, basicT_part he xs k u hxk, basicT_part he ys k v hyk, Result.andThen_ok, run_cellEq hb1 he hu hv d]
        cases b1
        · simp
        · simp only [Bool.not_true, Bool.false_eq_true, if_false, Sem.run_pure, Result.andThen_ok, Bool.true_and]
          have := ih (k + 1) r s b2 hb2 (by rw [hd1]; exact hr) (by rw [hd2]; exact hs') w
          simpa using this
end
end
end Go.AI

/- The abstract interpreter: one block of the own heap changes, all else stays. No conditions. -/
set_option linter.unusedVariables false
namespace Go.AI
section
variable {K : Kx} {H H' : Heap} {p p' : Pl} {w w' : World} {b : Nat}

theorem cell_same {a : Addr} {u : Value} (h : w'.heap[a.block]? = w.heap[a.block]?) (hc : w.cell? a = some u) : w'.cell? a = some u := by
  unfold World.cell? at *
  rw [h]; exact hc
theorem frozen_setRow {w : World} {g : Nat} {c : Array Value} {e : TypeId} {fr : Nat × Nat} (hb : w.heap[g]? = some (.cells c e fr)) (cs : Array Value) (a : Addr) : (w.setRow g cs).frozen? a = w.frozen? a := by
  by_cases h : a.block = g
  · simp only [World.frozen?, h, hb, setRow_heap w g c cs e fr hb]
  · simp only [World.frozen?, setRow_other w g a.block cs h]
theorem Inv.chg (hI : Inv K H p w) (hH : ∀ i, i ≠ b → H'[i]? = H[i]?) (hlen : H.length ≤ H'.length) (hlen' : ∀ i, i < H'.length → i < H.length ∨ i = b)
    (hp : ∀ i, i ≠ b → p' i = p i) (hver : ∀ v x, p b = some (v, x) → ∃ v' x', p' b = some (v', x') ∧ ((v' = v ∧ x' = x) ∨ v < v'))
    (hlive : ∀ rb, LiveAt H' p' b rb → LiveAt H p b rb ∨ rb = w.heap.size)
    (himg : ∀ v rb o, p' b = some (v, some (rb, o)) → (∃ v0 o0, b < H.length ∧ p b = some (v0, some (rb, o0))) ∨ rb = w.heap.size)
    (hdom : H'.length ≤ b → p' b = none)
    (hw : ∀ i, i < w.heap.size → ¬ LiveAt H p b i → w'.heap[i]? = w.heap[i]?) (hsz : w.heap.size ≤ w'.heap.size)
    (hrow : ∀ i k, LiveAt H p b i → RowSz w i k → RowSz w' i k) (hos : w'.os = w.os) (htape : w'.tape = w.tape) (hout : w'.output = w.output) (hfr : ∀ a, w'.frozen? a = w.frozen? a) :
    PK (kap K H p w) (kap K H' p' w') ∧ ((∀ x, H'[b]? = some x → BlkR (kap K H' p' w') b x) → Inv K H' p' w') := by
  have hk : PK (kap K H p w) (kap K H' p' w') := by
    refine ⟨fun a u hA hc => ?_, fun rb hA => ?_, hsz, fun i k hr => ?_, fun i v x hi => ?_⟩
    · have hlt := World.block_lt_of_cell? _ _ hc
      exact cell_same (hw _ hlt fun hl => hA (.inr ⟨b, hl⟩)) hc
    · rcases hA with hA | ⟨i, hi⟩
      · exact .inl (.inl hA)
      · by_cases hib : i = b
        · subst hib
          rcases hlive rb hi with h | h
          · exact .inl (.inr ⟨_, h⟩)
          · exact .inr (by rw [h]; exact Nat.le_refl _)
        · obtain ⟨x, v, o, h1, h2, h3⟩ := hi
          rw [hH i hib] at h1
          rw [hp i hib] at h3
          exact .inl (.inr ⟨i, x, v, o, h1, h2, h3⟩)
    · by_cases hl : LiveAt H p b i
      · exact hrow i k hl hr
      · obtain ⟨c, e, fr, h1, h2⟩ := hr
        have hlt : i < w.heap.size := (Array.getElem?_eq_some_iff.1 h1).1
        exact ⟨c, e, fr, by show w'.heap[i]? = _; rw [hw i hlt hl]; exact h1, h2⟩
    · by_cases hib : i = b
      · subst hib; exact hver v x hi
      · exact ⟨v, x, by show p' i = _; rw [hp i hib]; exact hi, .inl ⟨rfl, rfl⟩⟩
  refine ⟨hk, fun hblk => ?_⟩
  have hlt_of : ∀ {i : Nat} {x : AB}, H[i]? = some x → i < H.length := fun h => (List.getElem?_eq_some_iff.1 h).1
  refine ⟨fun i x hx => ?_, fun i j v o v' o' rb hi hj h1 h2 => ?_, fun i v o rb hi h1 => ?_, fun i rb hl => ?_, fun i hi => Nat.lt_of_lt_of_le (hI.fsz i hi) hsz, ?_, fun i hi => ?_⟩
  · by_cases hib : i = b
    · subst hib; exact hblk x hx
    · rw [hH i hib] at hx
      have hB := hI.blk i x hx
      have same : ∀ {v rb o}, p i = some (v, some (rb, o)) → rb < w.heap.size → w'.heap[rb]? = w.heap[rb]? := by
        intro v rb o h1 h2
        refine hw rb h2 ?_
        rintro ⟨y, v2, o2, g1, g2, g3⟩
        exact hib (hI.inj i b v o v2 o2 rb (hlt_of hx) (hlt_of g1) h1 g3)
      cases x with
      | cells live ver cs =>
        obtain ⟨x, h1, h2⟩ := hB
        refine ⟨x, by show p' i = _; rw [hp i hib]; exact h1, ?_⟩
        cases x with
        | none => exact h2
        | some q =>
          obtain ⟨rb, o⟩ := q
          obtain ⟨c, e, fr, us, g1, g2, g3, g4, g5⟩ := h2
          exact ⟨c, e, fr, us, by rw [show (kap K H' p' w').w.heap[rb]? = w.heap[rb]? from same h1 (Array.getElem?_eq_some_iff.1 g1).1]; exact g1, g2.mono' hk, g3, g4, g5⟩
      | map es =>
        obtain ⟨rb, ents, clock, h1, h2, h3⟩ := hB
        exact ⟨rb, ents, clock, by show p' i = _; rw [hp i hib]; exact h1, by rw [show (kap K H' p' w').w.heap[rb]? = w.heap[rb]? from same h1 (Array.getElem?_eq_some_iff.1 h2).1]; exact h2, h3.mono hk⟩
  · -- distinct images
    have fresh : ∀ {i v o}, i < H.length → p i = some (v, some (w.heap.size, o)) → False := by
      intro i v o hi h
      obtain ⟨x, hx⟩ : ∃ x, H[i]? = some x := ⟨_, List.getElem?_eq_getElem hi⟩
      have hB := hI.blk i x hx
      cases x with
      | cells live ver cs =>
        obtain ⟨x, h1, h2⟩ := hB
        have e := h1.symm.trans h
        cases e
        obtain ⟨c, e, fr, us, g1, _⟩ := h2
        have := (Array.getElem?_eq_some_iff.1 g1).1
        exact Nat.lt_irrefl _ this
      | map es =>
        obtain ⟨rb, ents, clock, h1, h2, h3⟩ := hB
        have e := h1.symm.trans h
        cases e
        have := (Array.getElem?_eq_some_iff.1 h2).1
        exact Nat.lt_irrefl _ this
    by_cases hib : i = b
    · by_cases hjb : j = b
      · rw [hib, hjb]
      · subst hib
        have hj' : j < H.length := (hlen' j hj).resolve_right hjb
        rw [hp j hjb] at h2
        rcases himg v rb o h1 with ⟨v0, o0, g0, g1⟩ | rfl
        · exact hI.inj i j _ _ _ _ rb g0 hj' g1 h2
        · exact (fresh hj' h2).elim
    · by_cases hjb : j = b
      · subst hjb
        have hi' : i < H.length := (hlen' i hi).resolve_right hib
        rw [hp i hib] at h1
        rcases himg v' rb o' h2 with ⟨v0, o0, g0, g1⟩ | rfl
        · exact hI.inj i j _ _ _ _ rb hi' g0 h1 g1
        · exact (fresh hi' h1).elim
      · rw [hp i hib] at h1
        rw [hp j hjb] at h2
        exact hI.inj i j _ _ _ _ rb ((hlen' i hi).resolve_right hib) ((hlen' j hj).resolve_right hjb) h1 h2
  · by_cases hib : i = b
    · subst hib
      rcases himg v rb o h1 with ⟨v0, o0, g0, g1⟩ | rfl
      · exact hI.dis i v0 o0 rb g0 g1
      · exact fun hF => Nat.lt_irrefl _ (hI.fsz _ hF)
    · rw [hp i hib] at h1
      exact hI.dis i v o rb ((hlen' i hi).resolve_right hib) h1
  · by_cases hib : i = b
    · subst hib
      rcases hlive rb hl with h | rfl
      · exact hI.old _ rb h
      · exact .inr hI.ext.size
    · obtain ⟨x, v, o, h1, h2, h3⟩ := hl
      rw [hH i hib] at h1
      rw [hp i hib] at h3
      exact hI.old i rb ⟨x, v, o, h1, h2, h3⟩
  · refine ⟨hos.trans hI.ext.os, htape.trans hI.ext.tape, hout.trans hI.ext.output, Nat.le_trans hI.ext.size hsz, fun i hi hL => ?_, fun a => (hfr a).trans (hI.ext.froz a)⟩
    rw [hw i (Nat.lt_of_lt_of_le hi hI.ext.size) fun hl => ?_]
    · exact hI.ext.block i hi hL
    · rcases hI.old b i hl with h | h
      · exact hL h
      · omega
  · by_cases hib : i = b
    · subst hib; exact hdom hi
    · rw [hp i hib]; exact hI.dom i (Nat.le_trans hlen hi)
end
end Go.AI

/- The abstract interpreter: loads, stores, parts. No conditions. -/
set_option linter.unusedVariables false
namespace Go.AI
section
variable {P : Program} {κ : Kap}

theorem info_of_underlying {t : TypeId} {d : TypeDesc} (h : P.underlying t = some d) : ∃ i, P.info? t = some i := by
  unfold Program.underlying at h
  cases hi : P.info? t with
  | none => rw [hi] at h; simp at h
  | some i => exact ⟨i, rfl⟩
theorem run_sizeOf {t : TypeId} {d : TypeDesc} (h : P.underlying t = some d) (w : World) : (sizeOf t).run P w = .ok (P.cellsOf t) w := by
  obtain ⟨i, hi⟩ := info_of_underlying h
  simp [sizeOf, typeInfo, hi, Program.cellsOf]
theorem aggT_under {t : TypeId} {b : Bool} (h : aggT P t = some b) : ∃ d, P.underlying t = some d := by
  unfold aggT at h
  cases hq : P.underlying t with
  | none => rw [hq] at h; cases h
  | some d => exact ⟨d, rfl⟩
theorem run_isAgg {t : TypeId} {b : Bool} (h : aggT P t = some b) (w : World) : (isAgg t).run P w = .ok b w := by
  unfold aggT at h
  split at h
  · rename_i hq; cases h; simp [isAgg, run_underlying hq]
  · rename_i hq; cases h; simp [isAgg, run_underlying hq]
  · rename_i d h1 h2 hq
    cases h
    simp only [isAgg, Sem.run_bind, run_underlying hq, Result.andThen_ok]
    cases d <;> first | rfl | (exact absurd rfl (h1 _)) | (exact absurd rfl (h2 _ _))
  · cases h
theorem run_zeroT {t : TypeId} {z : AV} (h : zeroT P t = some z) : ∃ x i, P.info? t = some i ∧ i.zero = some x ∧ z = ofVal x ∧ cstB x = true ∧ ∀ w, (zeroValue t).run P w = .ok x w := by
  obtain ⟨i, hi, h⟩ := obind_eq h
  obtain ⟨x, hx, h⟩ := obind_eq h
  split at h
  · rename_i hc
    cases h
    exact ⟨x, i, hi, hx, rfl, hc, fun w => by simp [zeroValue, typeInfo, hi, hx]⟩
  · cases h

/-- A part of a row of cells. -/
theorem partA_sound {t : TypeId} {as : List AV} {off : Nat} {x : AV} (h : partA P t as off = some x) {us : List Value} (hv : VRs κ as us) (h1 : ∀ y ∈ us, y.oneCell' = true) :
    ∃ u, VR κ x u ∧ (∀ w, (part t us.toArray off).run P w = .ok u w) ∧
      ∀ (w : World) (b o : Nat), (∀ j y, us[j]? = some y → w.cell? ⟨b, o + j, none⟩ = some y) → (loadVar t ⟨b, o + off, none⟩).run P w = .ok u w := by
  unfold partA at h
  have hlen := hv.length
  split at h
  · rename_i ha
    split at h
    · rename_i hle
      cases h
      obtain ⟨d, hd⟩ := aggT_under ha
      refine ⟨.agg ((us.drop off).take (P.cellsOf t)).toArray, ?_, fun w => ?_, fun w b o hc => ?_⟩
      · simp only [VR]
        exact ⟨_, rfl, (hv.drop off).take _, fun y hy => h1 y (List.mem_of_mem_drop (List.mem_of_mem_take hy))⟩
      · simp only [part, Sem.run_bind, run_isAgg ha, Result.andThen_ok, if_true, run_sizeOf hd, Sem.run_pure]
        congr 2
        simp [List.extract_eq_take_drop]
      · have hl : ((us.drop off).take (P.cellsOf t)).length = P.cellsOf t := by simp; omega
        have := run_loadCells_list (P := P) w ⟨b, o + off, none⟩ ((us.drop off).take (P.cellsOf t)) (fun j y hy => by
          have hj : j < P.cellsOf t := by
            have := (List.getElem?_eq_some_iff.1 hy).1
            omega
          rw [List.getElem?_take_of_lt hj, List.getElem?_drop] at hy
          have h2 := hc _ _ hy
          rw [show (⟨b, o + off, none⟩ : Addr).add j = ⟨b, o + (off + j), none⟩ from by
            unfold Addr.add; split
            · rename_i h0; subst h0; rfl
            · simp only [Addr.mk.injEq]; exact ⟨trivial, by omega, trivial⟩]
          exact h2)
        rw [hl] at this
        simp only [loadVar, Sem.run_bind, run_isAgg ha, Result.andThen_ok, if_true, run_sizeOf hd, this, Sem.run_pure]
    · cases h
  · rename_i ha
    obtain ⟨u, hu, hxu⟩ := hv.get off x h
    refine ⟨u, hxu, fun w => ?_, fun w b o hc => ?_⟩
    · simp [part, run_isAgg ha, hu]
    · simp [loadVar, run_isAgg ha, hc _ _ hu]
  · cases h
end

/-! ### What is behind a pointer, in a slice -/
section
variable {P : Program} {K : Kx} {H : Heap} {p : Pl} {w : World}
/-- The cells behind a pointer. -/
theorem cellsAt_sound (hI : Inv K H p w) {x : AV} {cs : List AV} {off : Nat} (h : cellsAt H x = some (cs, off)) {u : Value} (hu : VR (kap K H p w) x u) :
    ∃ b o us, VRs (kap K H p w) cs us ∧ (∀ j y, us[j]? = some y → w.cell? ⟨b, o + j, none⟩ = some y) ∧ (∀ y ∈ us, y.oneCell' = true) ∧ u = .pointer (some ⟨b, o + off, none⟩) := by
  unfold cellsAt at h
  split at h
  · cases h
    simp only [VR] at hu
    obtain ⟨b, o, rfl, _, us, h3, h4⟩ := hu
    exact ⟨b, o, us, h3, h4.1, h4.2.2, rfl⟩
  · split at h
    · rename_i live ver' cs' hb
      split at h
      · rename_i hv
        cases h
        simp only [VR] at hu
        obtain ⟨_, v, x, h1, h2, h3⟩ := hu
        obtain ⟨x', g1, g2⟩ := hI.blk _ _ hb
        have e := g1.symm.trans h1
        cases e
        obtain ⟨rb, o, rfl, rfl⟩ := h3 hv
        obtain ⟨c, e, fr, us, k1, k2, k3, k4, k5⟩ := g2
        exact ⟨rb, o, us, k2, fun j y hy => by
          have := k3 j y hy
          unfold World.cell?
          have k1' : w.heap[rb]? = _ := k1
          simp only [k1']
          exact this, k4, rfl⟩
      · cases h
    · cases h
  · cases h
theorem loadA_sound (hI : Inv K H p w) {t : TypeId} {x r : AV} (h : loadA P t x H = some r) {u : Value} (hu : VR (kap K H p w) x u) :
    ∃ y, (Instr.loadAt t u).run P w = .ok y w ∧ VR (kap K H p w) r y := by
  obtain ⟨⟨cs, off⟩, h1, h2⟩ := obind_eq h
  obtain ⟨b, o, us, h3, h4, h5, rfl⟩ := cellsAt_sound hI h1 hu
  obtain ⟨y, hy, _, hl⟩ := partA_sound h2 h3 h5
  exact ⟨y, by simp only [Instr.loadAt, Instr.sureAddr, Sem.run_bind, Sem.run_pure, Result.andThen_ok]; exact hl w b o h4, hy⟩
/-- The cells of a slice. -/
theorem slc_sound (hI : Inv K H p w) {x : AV} {n : Nat} {cs : List AV} (h : slc H x = some (n, cs)) {u : Value} (hu : VR (kap K H p w) x u) :
    ∃ ad cap us, u = .slice ad n cap ∧ VRs (kap K H p w) cs us ∧ (∀ y ∈ us, y.oneCell' = true) ∧ n ≤ cap ∧ (us ≠ [] → ∃ b o, ad = some ⟨b, o, none⟩ ∧ ∀ j y, us[j]? = some y → w.cell? ⟨b, o + j, none⟩ = some y) := by
  unfold slc at h
  split at h
  · cases h
    simp only [VR] at hu
    obtain ⟨ad, cap, rfl, h2, h3, h4, h5, us, h6, h7⟩ := hu
    refine ⟨ad, cap, us, rfl, h6, ?_, h2, fun hne => ?_⟩
    · cases ad with
      | none => rw [show us = [] from h7]; simp
      | some a => exact h7.2.2.2
    · cases ad with
      | none => exact absurd h7 hne
      | some a =>
        obtain ⟨ab, ao, asp⟩ := a
        obtain ⟨h8, h9⟩ := h7
        have h8 := h8 (.inr hne)
        simp only at h8
        subst h8
        exact ⟨ab, ao, rfl, h9.1⟩
  · split at h
    · rename_i live ver' cs' hb
      split at h
      · rename_i hv
        split at h
        · rename_i hle
          cases h
          simp only [VR] at hu
          obtain ⟨_, v, x, h1, h2, h3⟩ := hu
          obtain ⟨x', g1, g2⟩ := hI.blk _ _ hb
          have e := g1.symm.trans h1
          cases e
          have h3' := h3 hv
          cases x with
          | none =>
            obtain ⟨rfl, ad, rfl⟩ := h3'
            rw [Nat.zero_mul, List.take_zero]
            exact ⟨ad, 0, [], rfl, .nil, by simp, Nat.le_refl _, fun h => absurd rfl h⟩
          | some q =>
            obtain ⟨rb, o⟩ := q
            obtain ⟨hz, cap, ao, rfl, m1, m2, m3⟩ := h3'
            obtain ⟨c, e, fr, us, k1, k2, k3, k4, k5⟩ := g2
            refine ⟨_, cap, _, rfl, (k2.drop _).take _, fun y hy => k4 y (List.mem_of_mem_drop (List.mem_of_mem_take hy)), m1, fun hne => ⟨rb, ao, rfl, fun j y hy => ?_⟩⟩
            have hn : 0 < n := by
              rcases Nat.eq_zero_or_pos n with h0 | h0
              · subst h0; simp at hne
              · exact h0
            have hj := (List.getElem?_eq_some_iff.1 hy).1
            have hj' : j < n * _ := Nat.lt_of_lt_of_le hj (by simp only [List.length_take]; exact Nat.min_le_left _ _)
            rw [List.getElem?_take_of_lt hj', List.getElem?_drop] at hy
            have := k3 _ y hy
            rw [m2 hn]
            unfold World.cell?
            have k1' : w.heap[rb]? = _ := k1
            simp only [k1']
            rw [← Nat.add_assoc] at this
            exact this
        · cases h
      · cases h
    · cases h
  · cases h
end
end Go.AI

/- The abstract interpreter: writes, new variables, new slices. No conditions. -/
set_option linter.unusedVariables false
namespace Go.AI
theorem splice_app (cs : List AV) (off : Nat) (ys : List AV) (h : off + ys.length ≤ cs.length) : splice cs off ys = cs.take off ++ ys ++ cs.drop (off + ys.length) := by
  unfold splice
  split
  · rename_i y
    simp only [List.length_cons, List.length_nil] at h
    rw [List.set_eq_take_append_cons_drop]
    rw [if_pos (by omega)]
    simp
  · rfl
theorem splice_length (cs : List AV) (off : Nat) (ys : List AV) (h : off + ys.length ≤ cs.length) : (splice cs off ys).length = cs.length := by
  rw [splice_app cs off ys h]
  simp; omega
theorem getElem_three {α : Type} (a v : List α) (o k : Nat) (hk : o + v.length ≤ a.length) (hk' : k < a.length) :
    (a.take o ++ v ++ a.drop (o + v.length))[k]? = if k < o then a[k]? else if k < o + v.length then v[k - o]? else a[k]? := by
  have hto : (a.take o).length = o := by simp; omega
  split
  · rename_i h
    rw [List.append_assoc, List.getElem?_append_left (by omega), List.getElem?_take_of_lt h]
  · rename_i h
    split
    · rename_i h2
      rw [List.append_assoc, List.getElem?_append_right (by omega), hto, List.getElem?_append_left (by omega)]
    · rename_i h2
      rw [List.getElem?_append_right (by simp; omega), List.getElem?_drop]
      congr 1
      simp; omega

section
variable {P : Program} {K : Kx} {H : Heap} {p : Pl} {w : World}
theorem kap_set_self {b : Nat} {x : AB} (h : H[b]? = some x) : H.set b x = H := by
  have hlt := (List.getElem?_eq_some_iff.1 h).1
  have h2 := (List.getElem?_eq_some_iff.1 h).2
  rw [← h2]; exact List.set_getElem_self hlt
theorem write_sound (hI : Inv K H p w) {b ver o rb off : Nat} {cs ys : List AV} {vs : List Value} (hb : H[b]? = some (.cells true ver cs)) (hp : p b = some (ver, some (rb, o)))
    (hlen : off + ys.length ≤ cs.length) (hv : VRs (kap K H p w) ys vs) (h1 : ∀ y ∈ vs, y.oneCell' = true) :
    ∃ w', (storeCells ⟨rb, o + off, none⟩ vs).run P w = .ok () w' ∧ Inv K (H.set b (.cells true ver (splice cs off ys))) p w' ∧ PK (kap K H p w) (kap K (H.set b (.cells true ver (splice cs off ys))) p w') := by
  obtain ⟨x', g1, g2⟩ := hI.blk _ _ hb
  have e := g1.symm.trans hp
  cases e
  obtain ⟨c, e, fr, us, k1, k2, k3, k4, k5⟩ := g2
  have k5' := k5 rfl
  subst k5'
  have hul := k2.length
  have hvl := hv.length
  by_cases hys : ys = []
  · subst hys
    rw [List.length_nil] at hvl
    have hvs : vs = [] := List.eq_nil_of_length_eq_zero hvl
    subst hvs
    have hs : splice cs off [] = cs := by rw [splice_app _ _ _ hlen]; simp
    rw [hs, kap_set_self hb]
    exact ⟨w, rfl, hI, PK.refl _⟩
  · have hlt : rb < w.heap.size := (Array.getElem?_eq_some_iff.1 k1).1
    have hysp : 0 < ys.length := List.length_pos_iff.2 hys
    have hoc : o + cs.length ≤ c.size := by
      have hj : cs.length - 1 < us.length := by omega
      have := k3 (cs.length - 1) us[cs.length - 1] (List.getElem?_eq_getElem hj)
      have := (Array.getElem?_eq_some_iff.1 this).1
      omega
    have hrun := run_storeCells_at (P := P) rb (o + off) e vs 0 c w k1 (by omega) h1
    simp only [Nat.add_zero] at hrun
    have hbl : b < H.length := (List.getElem?_eq_some_iff.1 hb).1
    refine ⟨_, hrun, ?_⟩
    have hL : LiveAt H p b rb := ⟨_, _, _, hb, rfl, hp⟩
    have hsz' : (c.toList.take (o + off) ++ vs ++ c.toList.drop (o + off + vs.length)).toArray.size = c.size := by
      simp; omega
    have main := Inv.chg (b := b) (H' := H.set b (.cells true ver (splice cs off ys))) (p' := p) (w' := w.setRow rb (c.toList.take (o + off) ++ vs ++ c.toList.drop (o + off + vs.length)).toArray) hI
      (fun i hi => by rw [List.getElem?_set_ne (Ne.symm hi)]) (by simp) (fun i hi => by simp at hi; exact .inl hi) (fun i hi => rfl)
      (fun v x h => ⟨v, x, h, .inl ⟨rfl, rfl⟩⟩)
      (fun rb' hl => by
        obtain ⟨x, v, o2, q1, q2, q3⟩ := hl
        exact .inl ⟨_, v, o2, hb, rfl, q3⟩)
      (fun v rb' o' h => .inl ⟨v, o', hbl, h⟩)
      (fun h => by simp at h; omega)
      (fun i hi hn => setRow_other _ _ _ _ (fun e => hn (e ▸ hL)))
      (by simp)
      (fun i k hl hr => by
        obtain ⟨x, v, o2, q1, q2, q3⟩ := hl
        have : i = rb := by
          have := q3.symm.trans hp
          cases this; rfl
        subst this
        obtain ⟨c2, e2, fr2, r1, r2⟩ := hr
        have := r1.symm.trans k1
        cases this
        exact ⟨_, _, _, setRow_heap _ _ _ _ _ _ k1, by rw [hsz']; exact r2⟩)
      rfl rfl rfl (fun a => frozen_setRow (by assumption) _ a)
    refine ⟨main.2 fun x hx => ?_, main.1⟩
    rw [List.getElem?_set_self hbl] at hx
    cases hx
    have hk := main.1
    refine ⟨some (rb, o), hp, _, e, (0, 0), us.take off ++ vs ++ us.drop (off + vs.length), setRow_heap _ _ _ _ _ _ k1, ?_, fun j u hj => ?_, fun y hy => ?_, fun _ => rfl⟩
    · have hz : VRs (kap K H p w) (splice cs off ys) (us.take off ++ vs ++ us.drop (off + vs.length)) := by
        rw [splice_app _ _ _ hlen, ← hvl]
        exact (k2.take off).append hv |>.append (k2.drop _)
      exact hz.mono' hk
    · have hjl : j < us.length := by
        have := (List.getElem?_eq_some_iff.1 hj).1
        simp at this; omega
      rw [getElem_three us vs off j (by omega) hjl] at hj
      have hcj : o + j < c.toList.length := by simp; omega
      rw [List.getElem?_toArray, getElem_three c.toList vs (o + off) (o + j) (by simp; omega) hcj]
      by_cases c1 : j < off
      · rw [if_pos c1] at hj
        rw [if_pos (by omega), Array.getElem?_toList]
        exact k3 j u hj
      · rw [if_neg c1] at hj
        rw [if_neg (by omega)]
        by_cases c2 : j < off + vs.length
        · rw [if_pos c2] at hj
          rw [if_pos (by omega), show o + j - (o + off) = j - off by omega]
          exact hj
        · rw [if_neg c2] at hj
          rw [if_neg (by omega), Array.getElem?_toList]
          exact k3 j u hj
    · rcases List.mem_append.1 hy with hy | hy
      · rcases List.mem_append.1 hy with hy | hy
        · exact k4 y (List.mem_of_mem_take hy)
        · exact h1 y hy
      · exact k4 y (List.mem_of_mem_drop hy)

theorem storeA_sound (hI : Inv K H p w) {t : TypeId} {x y : AV} {H' : Heap} (h : storeA P t x y H = some H') {u v : Value} (hu : VR (kap K H p w) x u) (hv : VR (kap K H p w) y v) (hsz : ∃ i, P.info? t = some i) :
    ∃ w', (Instr.storeAt t u v).run P w = .ok () w' ∧ Inv K H' p w' ∧ PK (kap K H p w) (kap K H' p w') := by
  unfold storeA at h
  split at h
  · rename_i b ver off
    split at h
    · rename_i hl
      unfold storeCellsA at h
      split at h
      · rename_i ver' cs hb
        split at h
        · rename_i hc
          obtain ⟨rfl, h2, h3⟩ := hc
          cases h
          simp only [VR] at hu
          obtain ⟨_, v', x', g1, g2, g3⟩ := hu
          obtain ⟨x2, k1, k2⟩ := hI.blk _ _ hb
          have e := k1.symm.trans g1
          cases e
          obtain ⟨rb, o, rfl, rfl⟩ := g3 rfl
          obtain ⟨q1, q2⟩ := hv.flat h3
          obtain ⟨w', r1, r2, r3⟩ := write_sound (P := P) hI hb g1 h2 q1 q2
          refine ⟨w', ?_, r2, r3⟩
          obtain ⟨i, hi⟩ := hsz
          have hs : (sizeOf t).run P w = .ok (P.cellsOf t) w := by simp [sizeOf, typeInfo, hi, Program.cellsOf]
          have hcs : v.cells.size = P.cellsOf t := by rw [flat_length hv h3]; exact hl
          simp only [Instr.storeAt, Instr.sureAddr, storeVar, Sem.run_bind, Sem.run_pure, Result.andThen_ok, hs, hcs, ne_eq, not_true_eq_false, if_false]
          exact r1
        · cases h
      · cases h
    · cases h
  · cases h

/-! ### New blocks -/
def addP (p : Pl) (i : Nat) (x : Option (Nat × Nat)) : Pl := fun j => if j = i then some (0, x) else p j
theorem get_push {H : Heap} {x : AB} {i : Nat} : (H ++ [x])[i]? = if i = H.length then some x else H[i]? := by
  split
  · rename_i h; subst h; simp
  · rename_i h
    rcases Nat.lt_or_ge i H.length with h1 | h1
    · rw [List.getElem?_append_left h1]
    · rw [List.getElem?_eq_none (by simp; omega), List.getElem?_eq_none h1]
theorem heap_last (w : World) (o : Obj) : (w.alloc o).heap[w.heap.size]? = some o := by
  show (w.heap.push o)[w.heap.size]? = _
  simp
/-- A new block, laid at the world's end. -/
theorem alloc_sound (hI : Inv K H p w) {cs : List AV} {us : List Value} {c : Array Value} {e : TypeId} (hv : VRs (kap K H p w) cs us) (h1 : ∀ y ∈ us, y.oneCell' = true) (hc : ∀ (j : Nat) (u : Value), us[j]? = some u → c[j]? = some u) :
    Inv K (H ++ [.cells true 0 cs]) (addP p H.length (some (w.heap.size, 0))) (w.alloc (.cells c e)) ∧
    PK (kap K H p w) (kap K (H ++ [.cells true 0 cs]) (addP p H.length (some (w.heap.size, 0))) (w.alloc (.cells c e))) := by
  have hp0 : p H.length = none := hI.dom _ (Nat.le_refl _)
  have main := Inv.chg (b := H.length) (H' := H ++ [.cells true 0 cs]) (p' := addP p H.length (some (w.heap.size, 0))) (w' := w.alloc (.cells c e)) hI
    (fun i hi => by rw [get_push, if_neg hi]) (by simp) (fun i hi => by simp at hi; omega) (fun i hi => by simp [addP, hi])
    (fun v x h => by rw [hp0] at h; cases h)
    (fun rb hl => by
      obtain ⟨x, v, o, q1, q2, q3⟩ := hl
      simp [addP] at q3
      exact .inr q3.2.1.symm)
    (fun v rb o h => by simp [addP] at h; exact .inr h.2.1.symm)
    (fun h => absurd h (by simp))
    (fun i hi hn => RowKit.Below.heap_alloc w _ i hi)
    (by simp)
    (fun i k hl hr => by
      obtain ⟨x, v, o, q1, q2, q3⟩ := hl
      rw [hp0] at q3; cases q3)
    rfl rfl rfl (fun a => RowKit.frozen?_alloc_cells w _ _ a)
  refine ⟨main.2 fun x hx => ?_, main.1⟩
  rw [get_push, if_pos rfl] at hx
  cases hx
  refine ⟨some (w.heap.size, 0), by simp [kap, addP], c, e, (0, 0), us, heap_last w _, hv.mono' main.1, fun j u hj => by rw [Nat.zero_add]; exact hc j u hj, h1, fun _ => rfl⟩
/-- A new empty block, laid nowhere. -/
theorem empty_sound (hI : Inv K H p w) :
    Inv K (H ++ [.cells true 0 []]) (addP p H.length none) w ∧ PK (kap K H p w) (kap K (H ++ [.cells true 0 []]) (addP p H.length none) w) := by
  have hp0 : p H.length = none := hI.dom _ (Nat.le_refl _)
  have main := Inv.chg (b := H.length) (H' := H ++ [.cells true 0 []]) (p' := addP p H.length none) (w' := w) hI
    (fun i hi => by rw [get_push, if_neg hi]) (by simp) (fun i hi => by simp at hi; omega) (fun i hi => by simp [addP, hi])
    (fun v x h => by rw [hp0] at h; cases h)
    (fun rb hl => by
      obtain ⟨x, v, o, q1, q2, q3⟩ := hl
      simp [addP] at q3)
    (fun v rb o h => by simp [addP] at h)
    (fun h => absurd h (by simp))
    (fun i hi hn => rfl)
    (Nat.le_refl _)
    (fun i k hl hr => hr)
    rfl rfl rfl (fun _ => rfl)
  refine ⟨main.2 fun x hx => ?_, main.1⟩
  rw [get_push, if_pos rfl] at hx
  cases hx
  exact ⟨none, by simp [kap, addP], rfl⟩
theorem VR_empty {u : Value} {κ : Kap} (hu : VR κ (.sl true 0 []) u) {p : Pl} {H : Heap} : VR (kap K (H ++ [.cells true 0 []]) (addP p H.length none) w) (.ms H.length 0 0 0 0) u := by
  simp only [VR] at hu ⊢
  obtain ⟨ad, cap, rfl, h2, h3, h4, h5, us, h6, h7⟩ := hu
  rw [h3 trivial]
  refine ⟨rfl, 0, none, by simp [kap, addP], Nat.le_refl _, fun _ => ⟨rfl, ad, rfl⟩⟩
theorem virt_sound : ∀ (cs : List AV) (us : List Value) {H : Heap} {p : Pl}, Inv K H p w → VRs (kap K H p w) cs us →
    ∃ p', Inv K (virt cs H).2 p' w ∧ PK (kap K H p w) (kap K (virt cs H).2 p' w) ∧ VRs (kap K (virt cs H).2 p' w) (virt cs H).1 us
  | [], us, H, p, hI, hv => ⟨p, hI, PK.refl _, hv⟩
  | x :: r, us, H, p, hI, hv => by
    obtain ⟨u, s, rfl, hu, hr⟩ := hv.uncons
    unfold virt
    split
    · rename_i e; cases e
    · rename_i r' H' e1
      cases e1
      obtain ⟨h1, h2⟩ := empty_sound hI
      obtain ⟨p', k1, k2, k3⟩ := virt_sound r s h1 (hr.mono' h2)
      exact ⟨p', k1, h2.trans k2, .cons ((VR_empty hu).mono' k2) k3⟩
    · rename_i x' r' H' hne e1
      cases e1
      obtain ⟨p', k1, k2, k3⟩ := virt_sound r s hI hr
      exact ⟨p', k1, k2, .cons (hu.mono' k2) k3⟩
theorem newVarA_sound (hI : Inv K H p w) {cs : List AV} {us : List Value} (hv : VRs (kap K H p w) cs us) (h1 : ∀ y ∈ us, y.oneCell' = true) (e : TypeId) :
    ∃ p', Inv K (newVarA cs H).2 p' (w.alloc (.cells us.toArray e)) ∧ PK (kap K H p w) (kap K (newVarA cs H).2 p' (w.alloc (.cells us.toArray e))) ∧
      VR (kap K (newVarA cs H).2 p' (w.alloc (.cells us.toArray e))) (newVarA cs H).1 (.pointer (some ⟨w.heap.size, 0, none⟩)) := by
  obtain ⟨p', k1, k2, k3⟩ := virt_sound cs us hI hv
  obtain ⟨q1, q2⟩ := alloc_sound (c := us.toArray) (e := e) k1 k3 h1 (fun j u hj => by simpa using hj)
  refine ⟨_, q1, k2.trans q2, ?_⟩
  simp only [newVarA, VR]
  exact ⟨rfl, 0, some (w.heap.size, 0), by simp [kap, addP], Nat.le_refl _, fun _ => ⟨_, _, rfl, rfl⟩⟩
end
end Go.AI

/- The abstract interpreter: closed copies. No conditions. -/
set_option linter.unusedVariables false
namespace Go.AI
/-- What is needed that a closed value goes on saying what it says. -/
structure PG (κ κ' : Kap) : Prop where
  cell : ∀ a u, ¬ κ.A a.block → κ.w.cell? a = some u → κ'.w.cell? a = some u
  avo : ∀ b, κ'.A b → κ.A b ∨ κ.w.heap.size ≤ b
theorem PK.toPG {κ κ' : Kap} (h : PK κ κ') : PG κ κ' := ⟨h.cell, h.avo⟩
theorem RowAt.good {κ κ' : Kap} (h : PG κ κ') {b o : Nat} {us : List Value} (hr : RowAt κ b o us) : RowAt κ' b o us := by
  refine ⟨fun j u hj => ?_, fun hne => ?_, hr.2.2⟩
  · have hne : us ≠ [] := by intro h0; rw [h0] at hj; simp at hj
    exact h.cell _ _ (hr.2.1 hne) (hr.1 j u hj)
  · intro hA
    obtain ⟨u, us', rfl⟩ := List.exists_cons_of_ne_nil hne
    have hc := hr.1 0 u rfl
    have hlt := World.block_lt_of_cell? _ _ hc
    rcases h.avo _ hA with h1 | h1
    · exact hr.2.1 hne h1
    · simp at hlt; omega
theorem SlAt.good {κ κ' : Kap} (h : PG κ κ') {n : Nat} {ad : Option Addr} {us : List Value} (hr : SlAt κ n ad us) : SlAt κ' n ad us := by
  cases ad with
  | none => exact hr
  | some a => exact ⟨hr.1, hr.2.good h⟩
mutual
theorem VR.goodM {κ κ' : Kap} (h : PG κ κ') : ∀ (x : AV) (u : Value), (x.good = true ∨ ∃ n cs, x = .sl true n cs) → VR κ x u → VR κ' x u
  | .v _, u, hg, hx => by simp only [VR] at hx ⊢; exact hx
  | .sl full n cs, u, hg, hx => by
    simp only [VR] at hx ⊢
    obtain ⟨ad, cap, h1, h2, h3, h4, h5, us, h6, h7⟩ := hx
    exact ⟨ad, cap, h1, h2, h3, h4, h5, us, VRs.goodM h cs us h5 h6, h7.good h⟩
  | .pt cs off, u, hg, hx => by
    simp only [VR] at hx ⊢
    obtain ⟨b, o, h1, h2, us, h3, h4⟩ := hx
    exact ⟨b, o, h1, h2, us, VRs.goodM h cs us h2 h3, h4.good h⟩
  | .ms .., u, hg, hx => by rcases hg with hg | ⟨n, cs, hg⟩ <;> cases hg
  | .mp .., u, hg, hx => by rcases hg with hg | ⟨n, cs, hg⟩ <;> cases hg
  | .mm _, u, hg, hx => by rcases hg with hg | ⟨n, cs, hg⟩ <;> cases hg
  | .ag cs, u, hg, hx => by
    simp only [VR] at hx ⊢
    obtain ⟨us, h1, h2, h3⟩ := hx
    have hg' : goodL cs = true := by
      rcases hg with hg | ⟨n, cs, hg⟩
      · exact hg
      · cases hg
    exact ⟨us, h1, VRs.goodM h cs us hg' h2, h3⟩
  | .tu cs, u, hg, hx => by
    simp only [VR] at hx ⊢
    obtain ⟨us, h1, h2⟩ := hx
    have hg' : goodL cs = true := by
      rcases hg with hg | ⟨n, cs, hg⟩
      · exact hg
      · cases hg
    exact ⟨us, h1, VRs.goodM h cs us hg' h2⟩
  | .fn f cs, u, hg, hx => by
    simp only [VR] at hx ⊢
    obtain ⟨us, h1, h2⟩ := hx
    have hg' : goodL cs = true := by
      rcases hg with hg | ⟨n, cs, hg⟩
      · exact hg
      · cases hg
    exact ⟨us, h1, VRs.goodM h cs us hg' h2⟩
theorem VRs.goodM {κ κ' : Kap} (h : PG κ κ') : ∀ (xs : List AV) (us : List Value), goodL xs = true → VRs κ xs us → VRs κ' xs us
  | [], us, hg, hx => by simp only [VRs] at hx ⊢; exact hx
  | x :: r, us, hg, hx => by
    simp only [VRs] at hx ⊢
    simp only [goodL, Bool.and_eq_true] at hg
    obtain ⟨u, s, h1, h2, h3⟩ := hx
    exact ⟨u, s, h1, VR.goodM h x u (.inl hg.1) h2, VRs.goodM h r s hg.2 h3⟩
end

/-- A block of cells. -/
def CellB (H : Heap) (b : Nat) : Prop := ∃ l v cs, H[b]? = some (.cells l v cs)
/-- Each copy is closed, and says the same where the blocks that were read are avoided no more. -/
def CloseOk (K : Kx) (H : Heap) (p : Pl) (w : World) (f : AV → Option (AV × List Nat)) : Prop :=
  ∀ x y bs u, f x = some (y, bs) → VR (kap K H p w) x u → y.good = true ∧ (x.cellB = true → y.cellB = true) ∧ (∀ b ∈ bs, CellB H b) ∧
    ∀ κ' : Kap, κ'.w = w → (∀ rb, κ'.A rb → Avo K H p rb ∧ ∀ b ∈ bs, ∀ v o, p b ≠ some (v, some (rb, o))) → VR κ' y u
section
variable {K : Kx} {H : Heap} {p : Pl} {w : World}
theorem mapC_sound {f : AV → Option (AV × List Nat)} (hf : CloseOk K H p w f) : ∀ (xs ys : List AV) (bs : List Nat) (us : List Value), mapC f xs = some (ys, bs) → VRs (kap K H p w) xs us →
    goodL ys = true ∧ (xs.all AV.cellB = true → ys.all AV.cellB = true) ∧ ys.length = xs.length ∧ (∀ b ∈ bs, CellB H b) ∧
    ∀ κ' : Kap, κ'.w = w → (∀ rb, κ'.A rb → Avo K H p rb ∧ ∀ b ∈ bs, ∀ v o, p b ≠ some (v, some (rb, o))) → VRs κ' ys us
  | [], ys, bs, us, h, hv => by
    cases h
    rw [hv.nil_eq]
    exact ⟨rfl, fun _ => rfl, rfl, fun b hb => (by cases hb), fun _ _ _ => .nil⟩
  | x :: r, ys, bs, us, h, hv => by
    obtain ⟨⟨y, b1⟩, h1, h⟩ := obind_eq h
    obtain ⟨⟨ys', b2⟩, h2, h⟩ := obind_eq h
    cases h
    obtain ⟨u, s, rfl, hu, hr⟩ := hv.uncons
    obtain ⟨g1, g1', g2, g3⟩ := hf x y b1 u h1 hu
    obtain ⟨k1, k1', k2, k3, k4⟩ := mapC_sound hf r ys' b2 s h2 hr
    refine ⟨by simp [goodL, g1, k1], fun hc => ?_, by simp [k2], fun b hb => ?_, fun κ' hw hA => ?_⟩
    · simp only [List.all_cons, Bool.and_eq_true] at hc ⊢
      exact ⟨g1' hc.1, k1' hc.2⟩
    · rcases List.mem_append.1 hb with hb | hb
      · exact g2 b hb
      · exact k3 b hb
    · exact .cons (g3 κ' hw fun rb hrb => ⟨(hA rb hrb).1, fun b hb => (hA rb hrb).2 b (List.mem_append_left _ hb)⟩)
        (k4 κ' hw fun rb hrb => ⟨(hA rb hrb).1, fun b hb => (hA rb hrb).2 b (List.mem_append_right _ hb)⟩)
theorem image_lt (hI : Inv K H p w) {b v rb o : Nat} (hb : b < H.length) (h : p b = some (v, some (rb, o))) : rb < w.heap.size := by
  obtain ⟨x, hx⟩ : ∃ x, H[b]? = some x := ⟨_, List.getElem?_eq_getElem hb⟩
  have hB := hI.blk b x hx
  cases x with
  | cells live ver cs =>
    obtain ⟨x, h1, h2⟩ := hB
    have e := h1.symm.trans h
    cases e
    obtain ⟨c, e, fr, us, g1, _⟩ := h2
    exact (Array.getElem?_eq_some_iff.1 g1).1
  | map es =>
    obtain ⟨rb, ents, clock, h1, h2, h3⟩ := hB
    have e := h1.symm.trans h
    cases e
    exact (Array.getElem?_eq_some_iff.1 h2).1
theorem avo_lt (hI : Inv K H p w) {rb : Nat} (h : Avo K H p rb) : rb < w.heap.size := by
  rcases h with h | ⟨b, x, v, o, h1, h2, h3⟩
  · exact hI.fsz rb h
  · exact image_lt hI (List.getElem?_eq_some_iff.1 h1).1 h3
theorem closeA_sound (hI : Inv K H p w) : ∀ k, CloseOk K H p w (closeA k H)
  | 0 => fun x y bs u h => by cases h
  | k + 1 => fun x y bs u h hu => by
    have ih := closeA_sound hI k
    have pg : ∀ {κ' : Kap} {bs : List Nat}, κ'.w = w → (∀ rb, κ'.A rb → Avo K H p rb ∧ ∀ b ∈ bs, ∀ v o, p b ≠ some (v, some (rb, o))) → PG (kap K H p w) κ' :=
      fun hw hA => ⟨fun a u _ hc => by rw [hw]; exact hc, fun b hb => .inl (hA b hb).1⟩
    unfold closeA at h
    split at h
    · rename_i hg
      cases h
      exact ⟨hg, id, fun b hb => (by cases hb), fun κ' hw hA => VR.goodM (pg hw hA) x u (.inl hg) hu⟩
    · split at h
      · cases h
        refine ⟨rfl, fun _ => rfl, fun b hb => (by cases hb), fun κ' hw hA => ?_⟩
        rename_i full n cs hgd
        have hf : full = true := by cases full <;> first | rfl | exact absurd rfl hgd
        subst hf
        have := VR.goodM (pg hw hA) (.sl true n cs) u (.inr ⟨n, cs, rfl⟩) hu
        simp only [VR] at this ⊢
        obtain ⟨ad, cap, h1, h2, h3, h4⟩ := this
        exact ⟨ad, cap, h1, h2, fun e => (by cases e), h4⟩
      · obtain ⟨⟨ys, b1⟩, h1, h⟩ := obind_eq h
        cases h
        simp only [VR] at hu
        obtain ⟨us, rfl, h2, h3⟩ := hu
        obtain ⟨g1, g2, g3, g4, g5⟩ := mapC_sound ih _ _ _ _ h1 h2
        refine ⟨g1, fun e => (by cases e), g4, fun κ' hw hA => ?_⟩
        simp only [VR]
        exact ⟨us, rfl, g5 κ' hw hA, h3⟩
      · obtain ⟨⟨ys, b1⟩, h1, h⟩ := obind_eq h
        cases h
        simp only [VR] at hu
        obtain ⟨us, rfl, h2⟩ := hu
        obtain ⟨g1, g2, g3, g4, g5⟩ := mapC_sound ih _ _ _ _ h1 h2
        refine ⟨g1, fun e => (by cases e), g4, fun κ' hw hA => ?_⟩
        simp only [VR]
        exact ⟨us, rfl, g5 κ' hw hA⟩
      · rename_i b ver off n sz hgd
        split at h
        · rename_i live ver' cs hb
          split at h
          · rename_i hv
            split at h
            · rename_i hle
              obtain ⟨⟨ys, b1⟩, h1, h⟩ := obind_eq h
              cases h
              subst hv
              have hbl : b < H.length := (List.getElem?_eq_some_iff.1 hb).1
              simp only [VR] at hu
              obtain ⟨_, v, x, q1, q2, q3⟩ := hu
              obtain ⟨x', k1, k2⟩ := hI.blk _ _ hb
              have e := k1.symm.trans q1
              cases e
              have q3' := q3 rfl
              cases x with
              | none =>
                obtain ⟨rfl, ad, rfl⟩ := q3'
                rw [Nat.zero_mul, List.take_zero] at h1
                cases h1
                refine ⟨rfl, fun _ => rfl, fun b' hb' => (by simp at hb'; subst hb'; exact ⟨_, _, _, hb⟩), fun κ' hw hA => ?_⟩
                simp only [VR]
                refine ⟨ad, 0, rfl, Nat.le_refl _, fun _ => rfl, fun h => absurd h (by omega), rfl, [], .nil, ?_⟩
                cases ad with
                | none => rfl
                | some a => exact ⟨fun h => by simp at h, fun j u hj => by simp at hj, fun h => absurd rfl h, fun u hu => by cases hu⟩
              | some q =>
                obtain ⟨rb, o⟩ := q
                obtain ⟨hz, cap, ao, rfl, m1, m2, m3⟩ := q3'
                obtain ⟨c, e, fr, us, r1, r2, r3, r4, r5⟩ := k2
                obtain ⟨g1, g2, g3, g4, g5⟩ := mapC_sound ih _ _ _ _ h1 ((r2.drop off).take (n * sz))
                refine ⟨rfl, fun _ => rfl, fun b' hb' => (by rcases List.mem_cons.1 hb' with rfl | hb' <;> first | exact ⟨_, _, _, hb⟩ | exact g4 b' hb'), fun κ' hw hA => ?_⟩
                simp only [VR]
                refine ⟨_, cap, rfl, m1, (fun e => by cases e), fun _ => rfl, g1, _, g5 κ' hw (fun rb hrb => ⟨(hA rb hrb).1, fun b' hb' => (hA rb hrb).2 b' (List.mem_cons_of_mem _ hb')⟩), fun _ => rfl, fun j y hy => ?_, fun _ hAr => (hA rb hAr).2 b (by simp) _ _ q1, fun y hy => r4 y (List.mem_of_mem_drop (List.mem_of_mem_take hy))⟩
                have hj := (List.getElem?_eq_some_iff.1 hy).1
                have hj' : j < n * sz := Nat.lt_of_lt_of_le hj (by simp only [List.length_take]; exact Nat.min_le_left _ _)
                have hn : 0 < n := by
                  rcases Nat.eq_zero_or_pos n with h0 | h0
                  · subst h0; simp at hj'
                  · exact h0
                rw [List.getElem?_take_of_lt hj', List.getElem?_drop] at hy
                have h9 := r3 _ y hy
                rw [hw]
                show w.cell? ⟨rb, ao + j, none⟩ = some y
                rw [m2 hn]
                unfold World.cell?
                have k1' : w.heap[rb]? = _ := r1
                simp only [k1']
                rw [← Nat.add_assoc] at h9
                exact h9
            · cases h
          · cases h
        · cases h
      · rename_i b ver off hgd
        split at h
        · rename_i live ver' cs hb
          split at h
          · rename_i hv
            obtain ⟨⟨ys, b1⟩, h1, h⟩ := obind_eq h
            cases h
            subst hv
            have hbl : b < H.length := (List.getElem?_eq_some_iff.1 hb).1
            simp only [VR] at hu
            obtain ⟨_, v, x, q1, q2, q3⟩ := hu
            obtain ⟨x', k1, k2⟩ := hI.blk _ _ hb
            have e := k1.symm.trans q1
            cases e
            obtain ⟨rb, o, rfl, rfl⟩ := q3 rfl
            obtain ⟨c, e, fr, us, r1, r2, r3, r4, r5⟩ := k2
            obtain ⟨g1, g2, g3, g4, g5⟩ := mapC_sound ih _ _ _ _ h1 r2
            refine ⟨rfl, fun _ => rfl, fun b' hb' => (by rcases List.mem_cons.1 hb' with rfl | hb' <;> first | exact ⟨_, _, _, hb⟩ | exact g4 b' hb'), fun κ' hw hA => ?_⟩
            simp only [VR]
            refine ⟨rb, o, rfl, g1, us, g5 κ' hw (fun rb hrb => ⟨(hA rb hrb).1, fun b' hb' => (hA rb hrb).2 b' (List.mem_cons_of_mem _ hb')⟩), fun j y hy => ?_, fun _ hAr => (hA rb hAr).2 b (by simp) _ _ q1, r4⟩
            have h9 := r3 _ y hy
            rw [hw]
            show w.cell? ⟨rb, o + j, none⟩ = some y
            unfold World.cell?
            have k1' : w.heap[rb]? = _ := r1
            simp only [k1']
            exact h9
          · cases h
        · cases h
      · cases h
end
end Go.AI

/- The abstract interpreter: comparisons, conversions, parts, literals, addresses. No conditions. -/
set_option linter.unusedVariables false
namespace Go.AI
section
variable {P : Program} {κ : Kap}

/-! ### Two-place operations -/
theorem eqGuard_plain {op : BinOp} {t : TypeId} {X Y : Operand} {u v : Value} (h : u ≠ .nilIface) (h' : ∀ cs, u ≠ .agg cs) (w : World) : (eqGuard op t X Y u v).run P w = .ok () w := by
  unfold eqGuard
  cases op <;> first | rfl | skip
  all_goals
    cases u <;> first
      | (exact absurd rfl h)
      | (exact absurd rfl (h' _))
      | (cases v <;> rfl)
theorem cells_of_arr {e : TypeId} {k : TypeDesc} (he : basicT P e = some k) : ∃ d, P.underlying e = some d := by
  unfold basicT at he
  cases h : P.underlying e with
  | none => rw [h] at he; cases he
  | some d => exact ⟨d, rfl⟩
theorem run_kindsF {w : World} {xs ys : Array Value} : ∀ (fs : List Field) (i : Nat) (ks : List TypeDesc) (as bs : List AV) (b : Bool), kindsF P i fs = some ks → cellsEq ks as bs = some b →
    VRs κ as (xs.toList.drop i) → VRs κ bs (ys.toList.drop i) → (Op.eqFields 9999 xs ys fs).run P w = .ok b w
  | [], i, ks, as, bs, b, hk, h, h1, h2 => by
    cases hk
    cases as <;> cases bs <;> simp [cellsEq] at h
    subst h
    rfl
  | f :: fs, i, ks, as, bs, b, hk, h, h1, h2 => by
    unfold kindsF at hk
    split at hk
    · rename_i hc
      obtain ⟨rfl, hn⟩ := hc
      obtain ⟨kd, hkd, hk⟩ := obind_eq hk
      obtain ⟨ks', hks, hk⟩ := obind_eq hk
      cases hk
      cases as with
      | nil => simp [cellsEq] at h
      | cons x r =>
        cases bs with
        | nil => simp [cellsEq] at h
        | cons y s =>
          simp only [cellsEq] at h
          obtain ⟨b1, hb1, h⟩ := obind_eq h
          obtain ⟨b2, hb2, h⟩ := obind_eq h
          cases h
          obtain ⟨u, us, e1, hu, hr⟩ := h1.uncons
          obtain ⟨v, vs, e2, hv, hs⟩ := h2.uncons
          have hxk : xs[f.offset]? = some u := by have := congrArg (·[0]?) e1; simpa using this
          have hyk : ys[f.offset]? = some v := by have := congrArg (·[0]?) e2; simpa using this
          have hd1 : xs.toList.drop (f.offset + 1) = us := by rw [← List.tail_drop, e1]; rfl
          have hd2 : ys.toList.drop (f.offset + 1) = vs := by rw [← List.tail_drop, e2]; rfl
          have ih := run_kindsF (w := w) (xs := xs) (ys := ys) fs (f.offset + 1) ks' r s b2 hks hb2 (by rw [hd1]; exact hr) (by rw [hd2]; exact hs)
          simp only [Op.eqFields, hn, ne_eq, not_false_eq_true, if_true, Sem.run_bind, basicT_part hkd xs _ u hxk, basicT_part hkd ys _ v hyk, Result.andThen_ok, run_cellEq hb1 hkd hu hv 9998]
          cases b1
          · simp
          · simpa using ih
    · cases hk
theorem run_eqArr2 (d : Nat) {m : Nat} (hm : m = d + 1) {t e : TypeId} {n : Nat} {kd : TypeDesc} (hq : P.underlying t = some (.array n e)) (hs : P.cellsOf e = 1) (hkd : basicT P e = some kd) {as bs : List AV} {b : Bool}
    (h : cellsEq (List.replicate n kd) as bs = some b) {us vs : List Value} (hu : VRs κ as us) (hv : VRs κ bs vs) (w : World) :
    (Op.equalIn (m + 1) t (.agg us.toArray) (.agg vs.toArray)).run P w = .ok b w := by
  obtain ⟨dd, hd⟩ := cells_of_arr hkd
  have := run_eqArr (κ := κ) hkd hs d us.toArray vs.toArray n 0 as bs b h (by simpa using hu) (by simpa using hv) w
  rw [← hm] at this
  simp only [Op.equalIn, Sem.run_bind, run_underlying hq, Result.andThen_ok, run_sizeOf hd, hs, Std.Legacy.Range.forIn_eq_forIn_range', Std.Legacy.Range.size, Nat.sub_zero, Nat.add_one_sub_one, Nat.div_one]
  rw [this]
  cases b <;> rfl
theorem run_eqPtr (d : Nat) {t e : TypeId} (ht : P.underlying t = some (.pointer e)) (a : Option Addr) (w : World) : (Op.equalIn (d + 1) t (.pointer a) (.pointer none)).run P w = .ok a.isNone w := by
  cases a <;> simp [Op.equalIn, run_underlying ht]
theorem run_kindsT {t : TypeId} {ks : List TypeDesc} (hk : kindsT P t = some ks) {as bs : List AV} {b : Bool} (h : cellsEq ks as bs = some b) {us vs : List Value} (hu : VRs κ as us) (hv : VRs κ bs vs) (w : World) :
    (Op.equal t (.agg us.toArray) (.agg vs.toArray)).run P w = .ok b w := by
  unfold kindsT at hk
  unfold Op.equal
  show (Op.equalIn (9999 + 1) t (.agg us.toArray) (.agg vs.toArray)).run P w = _
  split at hk
  · rename_i n e hq
    split at hk
    · rename_i hs
      obtain ⟨kd, hkd, hk⟩ := obind_eq hk
      cases hk
      exact run_eqArr2 9998 (m := 9999) rfl hq hs hkd h hu hv w
    · cases hk
  · rename_i fs hq
    split at hk
    · cases hk
    · rename_i hs
      rw [run_equalIn_struct w 9999 t us.toArray vs.toArray (by simp [Program.fieldsOf, hq]) (by simpa using hs)]
      have hf : P.fieldsOf t = fs := by simp [Program.fieldsOf, hq]
      rw [hf]
      exact run_kindsF fs.toList 0 ks as bs b hk h (by simpa using hu) (by simpa using hv)
  · cases hk
theorem run_aeq {t : TypeId} {x y : AV} {b : Bool} (h : aeq P t x y = some b) {u v : Value} (hu : VR κ x u) (hv : VR κ y v) (w : World) : (Op.equal t u v).run P w = .ok b w := by
  unfold aeq at h
  split at h
  · rename_i a c
    obtain ⟨ks, hk, h⟩ := obind_eq h
    simp only [VR] at hu hv
    obtain ⟨us, rfl, hu, _⟩ := hu
    obtain ⟨vs, rfl, hv, _⟩ := hv
    exact run_kindsT hk h hu hv w
  · obtain ⟨k, hk, h⟩ := obind_eq h
    unfold Op.equal
    exact run_cellEq h hk hu hv 9999

theorem isNilA_sound {t e : TypeId} {x : AV} {b : Bool} (h : isNilA x = some b) (ht : P.underlying t = some (.pointer e)) {u : Value} (hu : VR κ x u) (w : World) :
    (Op.equal t u (.pointer none)).run P w = .ok b w ∧ u ≠ .nilIface ∧ (∀ cs, u ≠ .agg cs) ∧ ∃ a, u = .pointer a := by
  unfold isNilA at h
  split at h
  · cases h
    cases hu.v_eq
    refine ⟨?_, by simp, by simp, _, rfl⟩
    exact run_eqPtr 9999 ht _ w
  · cases h
    simp only [VR] at hu
    obtain ⟨b, o, rfl, _⟩ := hu
    refine ⟨?_, by simp, by simp, _, rfl⟩
    exact run_eqPtr 9999 ht _ w
  · cases h
theorem binOp_eql_agg (t : TypeId) (a b : Array Value) (w : World) : (binOp .eql t (.agg a) (.agg b)).run P w = ((Op.equal t (.agg a) (.agg b)).run P w).andThen fun r w' => .ok (.bool r) w' := by
  simp only [binOp]; simp
theorem binOp_neq_agg (t : TypeId) (a b : Array Value) (w : World) : (binOp .neq t (.agg a) (.agg b)).run P w = ((Op.equal t (.agg a) (.agg b)).run P w).andThen fun r w' => .ok (.bool !r) w' := by
  simp only [binOp]; simp
theorem binOp_eql_ptr (t : TypeId) (a b : Option Addr) (w : World) : (binOp .eql t (.pointer a) (.pointer b)).run P w = ((Op.equal t (.pointer a) (.pointer b)).run P w).andThen fun r w' => .ok (.bool r) w' := by
  simp only [binOp]; simp
theorem binOp_neq_ptr (t : TypeId) (a b : Option Addr) (w : World) : (binOp .neq t (.pointer a) (.pointer b)).run P w = ((Op.equal t (.pointer a) (.pointer b)).run P w).andThen fun r w' => .ok (.bool !r) w' := by
  simp only [binOp]; simp
theorem abin_sound {op : BinOp} {t : TypeId} {x y z : AV} (h : abin P op t x y = some z) {u v : Value} (hu : VR κ x u) (hv : VR κ y v) (X Y : Operand) (w : World) :
    ∃ r, VR κ z r ∧ (do eqGuard op t X Y u v; binOp op t u v : Sem Value).run P w = .ok r w := by
  unfold abin at h
  split at h
  · rename_i k a k' b
    cases hu.v_eq; cases hv.v_eq
    have hg := eqGuard_plain (P := P) (op := op) (t := t) (X := X) (Y := Y) (u := .int k a) (v := .int k' b) (by simp) (by simp) w
    simp only [Sem.run_bind, hg, Result.andThen_ok]
    split at h
    · obtain ⟨r, hr, h⟩ := obind_eq h
      cases h
      obtain ⟨h1, h2⟩ := run_shift_eq (P := P) (w := w) (k' := k') hr
      exact ⟨r, VR_v h2, by simpa [binOp] using h1⟩
    · obtain ⟨r, hr, h⟩ := obind_eq h
      cases h
      obtain ⟨h1, h2⟩ := run_shift_eq (P := P) (w := w) (k' := k') hr
      exact ⟨r, VR_v h2, by simpa [binOp] using h1⟩
    · split at h
      · rename_i hk
        subst hk
        obtain ⟨r, hr, h⟩ := obind_eq h
        cases h
        obtain ⟨h1, h2⟩ := run_int_eq (P := P) (w := w) hr t
        exact ⟨r, VR_v h2, h1⟩
      · cases h
  · rename_i a b
    cases hu.v_eq; cases hv.v_eq
    have hg := eqGuard_plain (P := P) (op := op) (t := t) (X := X) (Y := Y) (u := .string a) (v := .string b) (by simp) (by simp) w
    simp only [Sem.run_bind, hg, Result.andThen_ok]
    obtain ⟨r, hr, h⟩ := obind_eq h
    cases h
    obtain ⟨h1, h2⟩ := run_str_eq (P := P) (w := w) hr t
    exact ⟨r, VR_v h2, h1⟩
  · rename_i a b
    cases hu.v_eq; cases hv.v_eq
    have hg := eqGuard_plain (P := P) (op := op) (t := t) (X := X) (Y := Y) (u := .bool a) (v := .bool b) (by simp) (by simp) w
    simp only [Sem.run_bind, hg, Result.andThen_ok]
    split at h
    · rename_i ht
      have he : (Op.equal t (.bool a) (.bool b)).run P w = .ok (a == b) w := by
        exact run_equalIn_bool' w 9999 t a b ht
      split at h
      · cases h
        exact ⟨_, VR_v rfl, by simp [binOp, he]⟩
      · cases h
        exact ⟨_, VR_v rfl, by simp [binOp, he]⟩
      · cases h
    · cases h
  · rename_i a b
    split at h
    · cases h
    · rename_i hg
      have hu' := hu; have hv' := hv
      simp only [VR] at hu hv
      obtain ⟨us, rfl, hu, _⟩ := hu
      obtain ⟨vs, rfl, hv, _⟩ := hv
      have hgd := run_eqGuard_agg (P := P) w op t X Y us.toArray vs.toArray (by simpa using hg)
      simp only [Sem.run_bind, hgd, Result.andThen_ok]
      split at h
      · obtain ⟨r, hr, h⟩ := obind_eq h
        cases h
        have he := run_aeq (P := P) hr hu' hv' w
        exact ⟨_, VR_v rfl, by rw [binOp_eql_agg, he]; rfl⟩
      · obtain ⟨r, hr, h⟩ := obind_eq h
        cases h
        have he := run_aeq (P := P) hr hu' hv' w
        exact ⟨_, VR_v rfl, by rw [binOp_neq_agg, he]; rfl⟩
      · cases h
  · cases hv.v_eq
    split at h
    · rename_i e ht
      split at h
      · obtain ⟨r, hr, h⟩ := obind_eq h
        cases h
        obtain ⟨h1, h2, h3, a, rfl⟩ := isNilA_sound (P := P) hr ht hu w
        have hgd := eqGuard_plain (P := P) (op := .eql) (t := t) (X := X) (Y := Y) (u := .pointer a) (v := .pointer none) h2 h3 w
        exact ⟨_, VR_v rfl, by simp only [Sem.run_bind, hgd, Result.andThen_ok]; rw [binOp_eql_ptr, h1]; rfl⟩
      · obtain ⟨r, hr, h⟩ := obind_eq h
        cases h
        obtain ⟨h1, h2, h3, a, rfl⟩ := isNilA_sound (P := P) hr ht hu w
        have hgd := eqGuard_plain (P := P) (op := .neq) (t := t) (X := X) (Y := Y) (u := .pointer a) (v := .pointer none) h2 h3 w
        exact ⟨_, VR_v rfl, by simp only [Sem.run_bind, hgd, Result.andThen_ok]; rw [binOp_neq_ptr, h1]; rfl⟩
      · cases h
    · cases h
  · cases h
theorem aun_sound {op : UnOp} {x z : AV} (h : aun op x = some z) {u : Value} (hu : VR κ x u) (w : World) : ∃ r, VR κ z r ∧ (Op.unary op u).run P w = .ok r w := by
  unfold aun at h
  split at h
  · cases h; cases hu.v_eq
    exact ⟨_, VR_v rfl, by simp [Op.unary, Op.intArith]⟩
  · obtain ⟨r, hr, h⟩ := obind_eq h
    cases h; cases hu.v_eq
    simp only [aint] at hr
    cases hr
    exact ⟨_, VR_v rfl, by simp [Op.unary, Op.intBits]⟩
  · cases h; cases hu.v_eq
    exact ⟨_, VR_v rfl, by simp [Op.unary]⟩
  · cases h
theorem aconv_sound {src dst : TypeId} {x z : AV} (h : aconv P src dst x = some z) {u : Value} (hu : VR κ x u) (w : World) : ∃ r, VR κ z r ∧ (convert src dst u).run P w = .ok r w := by
  unfold aconv at h
  split at h
  · rename_i d k k' n h1 h2
    cases h; cases hu.v_eq
    refine ⟨_, VR_v rfl, ?_⟩
    simp [convert, run_underlying h1, run_underlying h2, Conv.intToInt]
  · rename_i d s h1 h2
    cases h; cases hu.v_eq
    refine ⟨_, VR_v rfl, ?_⟩
    simp only [convert, Sem.run_bind, run_underlying h1, run_underlying h2, Result.andThen_ok]
    cases d <;> simp
  · cases h
end
end Go.AI

/- The abstract interpreter: parts, addresses, slices of slices, literals. No conditions. -/
set_option linter.unusedVariables false
namespace Go.AI
section
variable {P : Program} {κ : Kap}
theorem pickA_sound {c a b r : AV} (h : pickA c a b = some r) {x u v : Value} (hx : VR κ c x) (hu : VR κ a u) (hv : VR κ b v) (w : World) :
    ∃ y, VR κ r y ∧ (do pure (.value (if ← asBool x then u else v)) : Sem Next).run P w = .ok (.value y) w := by
  unfold pickA at h
  split at h
  · rename_i t
    cases h; cases hx.v_eq
    cases t
    · exact ⟨v, hv, by simp [asBool]⟩
    · exact ⟨u, hu, by simp [asBool]⟩
  · cases h
theorem extractA_sound {x r : AV} {i : Nat} (h : extractA x i = some r) {u : Value} (hu : VR κ x u) (w : World) : ∃ y, VR κ r y ∧ (Instr.extract u i).run P w = .ok y w := by
  unfold extractA at h
  split at h
  · simp only [VR] at hu
    obtain ⟨us, rfl, hv⟩ := hu
    obtain ⟨y, hy, hr⟩ := hv.get i r h
    exact ⟨y, hr, by simp [Instr.extract, hy]⟩
  · cases h
theorem fieldA_sound {t : TypeId} {x r : AV} {f : Nat} (h : fieldA P t x f = some r) {u : Value} (hu : VR κ x u) (w : World) : ∃ y, VR κ r y ∧ (Instr.field t u f).run P w = .ok y w := by
  unfold fieldA at h
  split at h
  · rename_i fs cs hq
    obtain ⟨fd, hf, h⟩ := obind_eq h
    simp only [VR] at hu
    obtain ⟨us, rfl, hv, h1⟩ := hu
    obtain ⟨y, hy, hp, _⟩ := partA_sound h hv h1
    exact ⟨y, hy, by simp [Instr.field, run_underlying hq, hf, asAgg, hp]⟩
  · cases h
theorem indexA_sound {t : TypeId} {x i r : AV} (h : indexA P t x i = some r) {u v : Value} (hu : VR κ x u) (hv : VR κ i v) (w : World) : ∃ y, VR κ r y ∧ (Instr.index t u v).run P w = .ok y w := by
  unfold indexA at h
  split at h
  · rename_i n e cs k j hq
    cases hv.v_eq
    split at h
    · rename_i hb
      simp only [VR] at hu
      obtain ⟨us, rfl, hvs, h1⟩ := hu
      obtain ⟨y, hy, hp, _⟩ := partA_sound h hvs h1
      have hd : ∃ d, P.underlying e = some d := by
        unfold partA at h
        split at h
        · rename_i ha; exact aggT_under ha
        · rename_i ha; exact aggT_under ha
        · cases h
      obtain ⟨d, hd⟩ := hd
      refine ⟨y, hy, ?_⟩
      simp only [Instr.index, asIntOf, Sem.run_bind, Sem.run_pure, Result.andThen_ok, run_underlying hq]
      rw [if_pos hb]
      simp only [Sem.run_bind, run_sizeOf hd, Result.andThen_ok, hp]
    · cases h
  · rename_i s k j hq
    cases hv.v_eq; cases hu.v_eq
    split at h
    · rename_i hj
      split at h
      · rename_i b hb
        cases h
        refine ⟨_, VR_v rfl, ?_⟩
        simp only [Instr.index, asIntOf, Sem.run_bind, Sem.run_pure, Result.andThen_ok, run_underlying hq, if_pos hj, hb]
      · cases h
    · cases h
  · cases h
theorem abs_add (b o n : Nat) : (⟨b, o, none⟩ : Addr).add n = ⟨b, o + n, none⟩ := by
  unfold Addr.add; split
  · rename_i h; subst h; rfl
  · rfl
end
section
variable {P : Program} {K : Kx} {H : Heap} {p : Pl} {w : World}
/-- An up-to-date reference is what it says it is. -/
theorem refA_ms (hI : Inv K H p w) {b ver off n sz : Nat} {r : AV} (h : refA H (.ms b ver off n sz) = some r) {u : Value} (hu : VR (kap K H p w) (.ms b ver off n sz) u) :
    r = .ms b ver off n sz ∧ ∃ x, p b = some (ver, x) ∧ MsR w off n sz u x ∧ ∃ live cs, H[b]? = some (.cells live ver cs) := by
  simp only [refA] at h
  split at h
  · rename_i live ver' cs hb
    split at h
    · rename_i hv
      subst hv
      cases h
      simp only [VR] at hu
      obtain ⟨_, v, x, h1, h2, h3⟩ := hu
      obtain ⟨x', g1, _⟩ := hI.blk _ _ hb
      have e := g1.symm.trans h1
      cases e
      exact ⟨rfl, x, h1, h3 rfl, _, _, hb⟩
    · cases h
  · cases h
theorem refA_mp (hI : Inv K H p w) {b ver off : Nat} {r : AV} (h : refA H (.mp b ver off) = some r) {u : Value} (hu : VR (kap K H p w) (.mp b ver off) u) :
    r = .mp b ver off ∧ ∃ rb o, p b = some (ver, some (rb, o)) ∧ u = .pointer (some ⟨rb, o + off, none⟩) ∧ ∃ live cs, H[b]? = some (.cells live ver cs) := by
  simp only [refA] at h
  split at h
  · rename_i live ver' cs hb
    split at h
    · rename_i hv
      subst hv
      cases h
      simp only [VR] at hu
      obtain ⟨_, v, x, h1, h2, h3⟩ := hu
      obtain ⟨x', g1, _⟩ := hI.blk _ _ hb
      have e := g1.symm.trans h1
      cases e
      obtain ⟨rb, o, rfl, rfl⟩ := h3 rfl
      exact ⟨rfl, rb, o, h1, rfl, _, _, hb⟩
    · cases h
  · cases h
theorem VR_mp {b ver off rb o : Nat} (h : p b = some (ver, some (rb, o))) : VR (kap K H p w) (.mp b ver off) (.pointer (some ⟨rb, o + off, none⟩)) := by
  simp only [VR]
  exact ⟨rfl, ver, _, h, Nat.le_refl _, fun _ => ⟨rb, o, rfl, rfl⟩⟩
theorem refA_sound {x r : AV} (h : refA H x = some r) : r = x := by
  unfold refA at h
  split at h
  · split at h
    · split at h <;> cases h; rfl
    · cases h
  · split at h
    · split at h <;> cases h; rfl
    · cases h
  · cases h; rfl
theorem nilCheckA_sound (hI : Inv K H p w) {x y r : AV} (h1 : refA H x = some y) (h : nilCheckA y = some r) {u : Value} (hu : VR (kap K H p w) x u) (a : Act) (o : Operand) (ho : a.eval o = u) :
    VR (kap K H p w) r u ∧ ∀ d t ps l g, (execOp a.eval ⟨d, .nilCheck o, t, ps, l, g⟩).run P w = .ok (.value u) w := by
  unfold nilCheckA at h
  split at h
  · rename_i b ver off
    have := refA_sound h1
    subst this
    obtain ⟨_, rb, o', _, rfl, _⟩ := refA_mp hI h1 hu
    cases h
    exact ⟨hu, fun d t ps l g => by simp [execOp, ho]⟩
  · have := refA_sound h1
    subst this
    cases h
    have hu' := hu
    simp only [VR] at hu
    obtain ⟨b, o', rfl, _⟩ := hu
    exact ⟨hu', fun d t ps l g => by simp [execOp, ho]⟩
  · have := refA_sound h1
    subst this
    cases h
    have hu' := hu
    simp only [VR] at hu
    obtain ⟨us, rfl, _⟩ := hu
    exact ⟨hu', fun d t ps l g => by simp [execOp, ho]⟩
  · cases h
theorem run_sizeOf' {t : TypeId} (h : 0 < P.cellsOf t) (w : World) : (sizeOf t).run P w = .ok (P.cellsOf t) w := by
  unfold Program.cellsOf at h ⊢
  cases hi : P.info? t with
  | none => rw [hi] at h; simp at h
  | some i => simp [sizeOf, typeInfo, hi]
theorem fieldAddrA_sound (hI : Inv K H p w) {t : TypeId} {x y r : AV} {f : Nat} (h1 : refA H x = some y) (h : fieldAddrA P t y f = some r) {u : Value} (hu : VR (kap K H p w) x u) :
    ∃ z, VR (kap K H p w) r z ∧ (Instr.fieldAt t u f).run P w = .ok z w := by
  have := refA_sound h1
  subst this
  unfold fieldAddrA at h
  split at h
  · rename_i fs hq
    obtain ⟨fd, hf, h⟩ := obind_eq h
    split at h
    · rename_i hs
      have hrun : ∀ b o, (Instr.fieldAt t (.pointer (some ⟨b, o, none⟩)) f).run P w = .ok (.pointer (some ⟨b, o + fd.offset, none⟩)) w := by
        intro b o
        have : P.cellsOf fd.type ≠ 0 := by omega
        simp [Instr.fieldAt, run_underlying hq, hf, Instr.sureAddr, fieldPlace, run_sizeOf' hs, this, abs_add]
      split at h
      · rename_i b ver off
        cases h
        obtain ⟨_, rb, o, hp, rfl, _⟩ := refA_mp hI h1 hu
        exact ⟨_, VR_mp hp, by rw [hrun, Nat.add_assoc]⟩
      · cases h
        simp only [VR] at hu
        obtain ⟨b, o, rfl, g1, us, g2, g3⟩ := hu
        refine ⟨_, ?_, hrun _ _⟩
        simp only [VR]
        exact ⟨b, o, by congr 3; omega, g1, us, g2, g3⟩
      · cases h
    · cases h
  · cases h
theorem indexAddrA_sound (hI : Inv K H p w) {t : TypeId} {x y i r : AV} (h1 : refA H x = some y) (h : indexAddrA P t y i = some r) {u v : Value} (hu : VR (kap K H p w) x u) (hv : VR (kap K H p w) i v) :
    ∃ z, VR (kap K H p w) r z ∧ (Instr.indexAt t u v).run P w = .ok z w := by
  have := refA_sound h1
  subst this
  unfold indexAddrA at h
  split at h
  · rename_i e b ver off n sz k j hq
    cases hv.v_eq
    split at h
    · rename_i hc
      obtain ⟨hj0, hj1, hsz⟩ := hc
      cases h
      obtain ⟨_, x, hp, hm, _⟩ := refA_ms hI h1 hu
      cases x with
      | none =>
        obtain ⟨rfl, _⟩ := hm
        omega
      | some q =>
        obtain ⟨rb, o⟩ := q
        obtain ⟨hz, cap, ao, rfl, m1, m2, m3⟩ := hm
        refine ⟨_, VR_mp hp, ?_⟩
        have hs : 0 < P.cellsOf e := by omega
        simp only [Instr.indexAt, asIntOf, Sem.run_bind, Sem.run_pure, Result.andThen_ok, run_underlying hq]
        rw [if_pos ⟨hj0, hj1⟩]
        simp only [Sem.run_bind, run_sizeOf' hs, Result.andThen_ok, Sem.run_pure, abs_add]
        rw [m2 (by omega), hsz, Nat.add_assoc]
    · cases h
  · rename_i e full n cs k j hq
    cases hv.v_eq
    split at h
    · rename_i hc
      obtain ⟨hj0, hj1, hs⟩ := hc
      cases h
      simp only [VR] at hu
      obtain ⟨ad, cap, rfl, g2, g3, g4, g5, us, g6, g7⟩ := hu
      have h4 := g4 (by omega)
      cases ad with
      | none => simp at h4
      | some a =>
        obtain ⟨ab, ao, asp⟩ := a
        obtain ⟨g8, g9⟩ := g7
        have g8 := g8 (.inl (by omega))
        simp only at g8
        subst g8
        refine ⟨.pointer (some ⟨ab, ao + j.toNat * P.cellsOf e, none⟩), ?_, ?_⟩
        · simp only [VR]
          exact ⟨ab, ao, rfl, g5, us, g6, g9⟩
        · simp only [Instr.indexAt, asIntOf, Sem.run_bind, Sem.run_pure, Result.andThen_ok, run_underlying hq]
          rw [if_pos ⟨hj0, hj1⟩]
          simp only [Sem.run_bind, run_sizeOf' hs, Result.andThen_ok, Sem.run_pure, abs_add]
    · cases h
  · rename_i n e b ver off k j hq
    cases hv.v_eq
    split at h
    · rename_i hc
      obtain ⟨hj0, hj1, hs⟩ := hc
      cases h
      obtain ⟨_, rb, o, hp, rfl, _⟩ := refA_mp hI h1 hu
      refine ⟨_, VR_mp hp, ?_⟩
      simp only [Instr.indexAt, asIntOf, Sem.run_bind, Sem.run_pure, Result.andThen_ok, run_underlying hq, Instr.sureAddr]
      rw [if_pos ⟨hj0, hj1⟩]
      simp only [Sem.run_bind, run_sizeOf' hs, Result.andThen_ok, Sem.run_pure, abs_add, Nat.add_assoc]
    · cases h
  · rename_i n e cs off k j hq
    cases hv.v_eq
    split at h
    · rename_i hc
      obtain ⟨hj0, hj1, hs⟩ := hc
      cases h
      simp only [VR] at hu
      obtain ⟨b, o, rfl, g1, us, g2, g3⟩ := hu
      refine ⟨.pointer (some ⟨b, o + (off + j.toNat * P.cellsOf e), none⟩), ?_, ?_⟩
      · simp only [VR]
        exact ⟨b, o, rfl, g1, us, g2, g3⟩
      · simp only [Instr.indexAt, asIntOf, Sem.run_bind, Sem.run_pure, Result.andThen_ok, run_underlying hq, Instr.sureAddr]
        rw [if_pos ⟨hj0, hj1⟩]
        simp only [Sem.run_bind, run_sizeOf' hs, Result.andThen_ok, Sem.run_pure, abs_add, Nat.add_assoc]
    · cases h
  · cases h

/-! ### Slices of slices -/
def OptR (κ : Kap) : Option AV → Option Value → Prop
  | none, u => u = none
  | some a, u => ∃ v, u = some v ∧ VR κ a v
theorem boundA_int {κ : Kap} {d h : Nat} {a : AV} {v : Value} (hb : boundA d (some a) = some h) (hu : VR κ a v) : ∃ k j, v = .int k j ∧ 0 ≤ j ∧ h = j.toNat := by
  cases a with
  | v x =>
    cases hu.v_eq
    cases v with
    | int k j =>
      simp only [boundA] at hb
      split at hb
      · rename_i hj; cases hb; exact ⟨k, j, rfl, hj, rfl⟩
      · cases hb
    | _ => cases hb
  | _ => cases hb
theorem run_bound {k : IntKind} {j : Int} {h y : Nat} (hj : 0 ≤ j) (e : h = j.toNat) (hy : h ≤ y) (code : BoundsCode) : (Instr.sliceBound (.int k j) y code).run P w = .ok h w := by
  have : 0 ≤ j ∧ j ≤ (y : Int) := ⟨hj, by omega⟩
  simp [Instr.sliceBound, asIntOf, this, e]
theorem sliceBounds_sound {κ : Kap} {isS : Bool} {d cap l h : Nat} {lo hi : Option AV} {ul uh : Option Value} (hh : boundA d hi = some h) (hl : boundA 0 lo = some l)
    (vl : OptR κ lo ul) (vh : OptR κ hi uh) (h1 : l ≤ h) (h2 : h ≤ cap) :
    (Instr.sliceBounds isS d cap ul uh none).run P w = .ok (l, h, cap) w := by
  cases hi with
  | none =>
    cases vh
    have e1 : d = h := by simpa [boundA] using hh
    subst e1
    cases lo with
    | none =>
      cases vl
      have e2 : 0 = l := by simpa [boundA] using hl
      subst e2
      simp [Instr.sliceBounds]
    | some a =>
      obtain ⟨v, rfl, hv⟩ := vl
      obtain ⟨k, j, rfl, hj, e⟩ := boundA_int hl hv
      have := run_bound (P := P) (w := w) (k := k) hj e h1 .sliceB
      simp [Instr.sliceBounds, this]
  | some b =>
    obtain ⟨v', rfl, hv'⟩ := vh
    obtain ⟨k', j', rfl, hj', e'⟩ := boundA_int hh hv'
    have a1 := run_bound (P := P) (w := w) (k := k') hj' e' h2 (if isS then .sliceAcap else .sliceAlen)
    cases lo with
    | none =>
      cases vl
      have e2 : 0 = l := by simpa [boundA] using hl
      subst e2
      simp [Instr.sliceBounds, a1]
    | some a =>
      obtain ⟨v, rfl, hv⟩ := vl
      obtain ⟨k, j, rfl, hj, e⟩ := boundA_int hl hv
      have a2 := run_bound (P := P) (w := w) (k := k) hj e h1 .sliceB
      simp [Instr.sliceBounds, a1, a2]
theorem MsR_slice {off n sz l h cap ao rb o : Nat} (hz : sz ≠ 0) (hlh : l ≤ h) (hhn : h ≤ n) (hn : n ≤ cap) (m2 : 0 < n → ao = o + off) (m3 : RowSz w rb (ao + cap * sz)) :
    MsR w (off + l * sz) (h - l) sz (.slice (if cap = l then some ⟨rb, ao, none⟩ else some (Addr.add ⟨rb, ao, none⟩ (l * sz))) (h - l) (cap - l)) (some (rb, o)) := by
  refine ⟨hz, cap - l, if cap = l then ao else ao + l * sz, ?_, by omega, fun h0 => ?_, ?_⟩
  · congr 1
    split
    · rfl
    · rw [abs_add]
  · have : cap ≠ l := by omega
    rw [if_neg this, m2 (by omega), Nat.add_assoc]
  · obtain ⟨c, e, fr, r1, r2⟩ := m3
    refine ⟨c, e, fr, r1, ?_⟩
    split
    · rename_i hc
      have : cap - l = 0 := by omega
      rw [this, Nat.zero_mul, Nat.add_zero]
      exact Nat.le_trans (Nat.le_add_right _ _) r2
    · have : ao + l * sz + (cap - l) * sz = ao + cap * sz := by
        rw [Nat.add_assoc, ← Nat.add_mul]
        congr 2
        omega
      rw [this]; exact r2
theorem goodL_drop : ∀ (l : List AV) (k : Nat), goodL l = true → goodL (l.drop k) = true
  | [], k, h => by simp [goodL]
  | a :: r, 0, h => h
  | a :: r, k + 1, h => by
    simp only [goodL, Bool.and_eq_true] at h
    simpa using goodL_drop r k h.2
theorem goodL_take : ∀ (l : List AV) (k : Nat), goodL l = true → goodL (l.take k) = true
  | l, 0, h => by simp [goodL]
  | [], k + 1, h => by simp [goodL]
  | a :: r, k + 1, h => by
    simp only [goodL, Bool.and_eq_true] at h
    simp [goodL, h.1, goodL_take r k h.2]
theorem sliceA_sound (hI : Inv K H p w) {t : TypeId} {x y r : AV} {lo hi : Option AV} (h1 : refA H x = some y) (h : sliceA P t y lo hi = some r) {u : Value} {ul uh : Option Value} (hu : VR (kap K H p w) x u)
    (vl : OptR (kap K H p w) lo ul) (vh : OptR (kap K H p w) hi uh) :
    ∃ z, VR (kap K H p w) r z ∧ (Instr.sliceAt t u ul uh none).run P w = .ok z w := by
  have := refA_sound h1
  subst this
  unfold sliceA at h
  split at h
  · rename_i s hq
    obtain ⟨h0, hh, h⟩ := obind_eq h
    obtain ⟨l0, hl, h⟩ := obind_eq h
    split at h
    · rename_i hc
      cases h; cases hu.v_eq
      have hs := sliceBounds_sound (P := P) (w := w) (isS := false) hh hl vl vh hc.1 hc.2
      refine ⟨_, VR_v rfl, ?_⟩
      simp [Instr.sliceAt, run_underlying hq, Instr.slice, hs]
    · cases h
  · rename_i e b ver off n sz hq
    obtain ⟨h0, hh, h⟩ := obind_eq h
    obtain ⟨l0, hl, h⟩ := obind_eq h
    split at h
    · rename_i hc
      obtain ⟨hlh, hhn, hsz, hse⟩ := hc
      cases h
      obtain ⟨_, x, hp, hm, _⟩ := refA_ms hI h1 hu
      cases x with
      | none =>
        obtain ⟨rfl, ad, rfl⟩ := hm
        have hs := sliceBounds_sound (P := P) (w := w) (isS := true) hh hl vl vh hlh (by omega : h0 ≤ 0)
        have e1 : h0 = 0 := by omega
        have e2 : l0 = 0 := by omega
        subst e1 e2
        refine ⟨.slice ad 0 0, ?_, ?_⟩
        · simp only [VR]
          exact ⟨rfl, ver, none, hp, Nat.le_refl _, fun _ => ⟨rfl, ad, rfl⟩⟩
        · simp [Instr.sliceAt, run_underlying hq, Instr.slice, hs, run_sizeOf' hse]
      | some q =>
        obtain ⟨rb, o⟩ := q
        obtain ⟨hz, cap, ao, rfl, m1, m2, m3⟩ := hm
        have hs := sliceBounds_sound (P := P) (w := w) (isS := true) hh hl vl vh hlh (by omega : h0 ≤ cap)
        have hll : l0 * P.cellsOf e = l0 * sz := by
          rcases hsz with h0' | h0'
          · have : l0 = 0 := by omega
            rw [this, Nat.zero_mul, Nat.zero_mul]
          · rw [h0']
        refine ⟨.slice (if cap = l0 then some ⟨rb, ao, none⟩ else some (Addr.add ⟨rb, ao, none⟩ (l0 * sz))) (h0 - l0) (cap - l0), ?_, ?_⟩
        · simp only [VR]
          exact ⟨rfl, ver, _, hp, Nat.le_refl _, fun _ => MsR_slice hz hlh hhn m1 m2 m3⟩
        · simp only [Instr.sliceAt, Sem.run_bind, run_underlying hq, Result.andThen_ok, Instr.slice, hs, run_sizeOf' hse, Sem.run_pure, Option.map_some, hll]
    · cases h
  · rename_i e full n cs hq
    obtain ⟨h0, hh, h⟩ := obind_eq h
    obtain ⟨l0, hl, h⟩ := obind_eq h
    split at h
    · rename_i hc
      obtain ⟨hlh, hhn, hcl, hz⟩ := hc
      cases h
      simp only [VR] at hu
      obtain ⟨ad, cap, rfl, g2, g3, g4, g5, us, g6, g7⟩ := hu
      have hs := sliceBounds_sound (P := P) (w := w) (isS := true) hh hl vl vh hlh (by omega : h0 ≤ cap)
      have hul := g6.length
      refine ⟨.slice (if cap = l0 then ad else ad.map (·.add (l0 * P.cellsOf e))) (h0 - l0) (cap - l0), ?_, ?_⟩
      · simp only [VR]
        refine ⟨_, cap - l0, rfl, by omega, (fun e => by cases e), fun h => ?_, goodL_take _ _ (goodL_drop _ _ g5), _, (g6.drop _).take _, ?_⟩
        · have := g4 (by omega)
          split
          · exact this
          · simpa using this
        · cases ad with
          | none =>
            have : us = [] := g7
            subst this
            split <;> simp [SlAt]
          | some a =>
            obtain ⟨ab, ao, asp⟩ := a
            obtain ⟨g8, g9⟩ := g7
            by_cases hcl0 : cap = l0
            · have e0 : h0 - l0 = 0 := by omega
              rw [if_pos hcl0, e0, Nat.zero_mul, List.take_zero]
              exact ⟨fun h => by simp at h, fun j u hj => by simp at hj, fun h => absurd rfl h, fun u hu => by cases hu⟩
            · rw [if_neg hcl0]
              obtain ⟨sp', hadd, hsp⟩ : ∃ sp', (⟨ab, ao, asp⟩ : Addr).add (l0 * P.cellsOf e) = ⟨ab, ao + l0 * P.cellsOf e, sp'⟩ ∧ (asp = none → sp' = none) := by
                unfold Addr.add
                split
                · rename_i h0; rw [h0]; exact ⟨asp, rfl, id⟩
                · exact ⟨none, rfl, fun _ => rfl⟩
              simp only [Option.map_some, hadd]
              refine ⟨fun h => hsp <| g8 (h.imp (fun h => by omega) (fun hne e => by subst e; simp at hne)), fun j u hj => ?_, fun hne => g9.2.1 (fun e => by subst e; simp at hne), fun u hu => g9.2.2 u (List.mem_of_mem_drop (List.mem_of_mem_take hu))⟩
              have hj1 := (List.getElem?_eq_some_iff.1 hj).1
              have hj' : j < (h0 - l0) * P.cellsOf e := Nat.lt_of_lt_of_le hj1 (by simp only [List.length_take]; exact Nat.min_le_left _ _)
              rw [List.getElem?_take_of_lt hj', List.getElem?_drop] at hj
              have := g9.1 _ u hj
              simp only [Nat.add_assoc]
              exact this
      · simp only [Instr.sliceAt, Sem.run_bind, run_underlying hq, Result.andThen_ok, Instr.slice, hs, run_sizeOf' hz, Sem.run_pure]
    · cases h
  · rename_i n e cs off hq
    obtain ⟨h0, hh, h⟩ := obind_eq h
    obtain ⟨l0, hl, h⟩ := obind_eq h
    split at h
    · rename_i hc
      obtain ⟨hlh, hhn, hcl, hz⟩ := hc
      cases h
      simp only [VR] at hu
      obtain ⟨b, o, rfl, g5, us, g6, g9⟩ := hu
      have hs := sliceBounds_sound (P := P) (w := w) (isS := false) hh hl vl vh hlh hhn
      refine ⟨.slice (some (if n = l0 then ⟨b, o + off, none⟩ else ⟨b, o + off + l0 * P.cellsOf e, none⟩)) (h0 - l0) (n - l0), ?_, ?_⟩
      · simp only [VR]
        refine ⟨_, n - l0, rfl, by omega, (fun e => by cases e), fun _ => rfl, goodL_take _ _ (goodL_drop _ _ g5), _, (g6.drop _).take _, ?_⟩
        by_cases hcl0 : n = l0
        · have e0 : h0 - l0 = 0 := by omega
          rw [e0, Nat.zero_mul, List.take_zero]
          simp only [if_pos hcl0]
          exact ⟨fun _ => rfl, fun j u hj => by simp at hj, fun h => absurd rfl h, fun u hu => by cases hu⟩
        · simp only [if_neg hcl0]
          refine ⟨fun _ => rfl, fun j u hj => ?_, fun hne => g9.2.1 (fun e => by subst e; simp at hne), fun u hu => g9.2.2 u (List.mem_of_mem_drop (List.mem_of_mem_take hu))⟩
          have hj1 := (List.getElem?_eq_some_iff.1 hj).1
          have hj' : j < (h0 - l0) * P.cellsOf e := Nat.lt_of_lt_of_le hj1 (by simp only [List.length_take]; exact Nat.min_le_left _ _)
          rw [List.getElem?_take_of_lt hj', List.getElem?_drop] at hj
          have := g9.1 _ u hj
          simp only [Nat.add_assoc] at this ⊢
          exact this
      · simp only [Instr.sliceAt, Sem.run_bind, run_underlying hq, Result.andThen_ok, Instr.sureAddr, hs, run_sizeOf' hz, Sem.run_pure, abs_add]
    · cases h
  · cases h
theorem sliceArrA_sound (hI : Inv K H p w) {t : TypeId} {x y r : AV} {lo hi : Option AV} (h1 : refA H x = some y) (h : sliceArrA P t y lo hi H = some r) {u : Value} {ul uh : Option Value} (hu : VR (kap K H p w) x u)
    (vl : OptR (kap K H p w) lo ul) (vh : OptR (kap K H p w) hi uh) :
    ∃ z, VR (kap K H p w) r z ∧ (Instr.sliceAt t u ul uh none).run P w = .ok z w := by
  unfold sliceArrA at h
  split at h
  · rename_i n et b ver off hq
    have hxy := refA_sound h1
    subst hxy
    obtain ⟨h0, hh, h⟩ := obind_eq h
    obtain ⟨l0, hl, h⟩ := obind_eq h
    obtain ⟨q, hq2, h⟩ := obind_eq h
    split at h
    · rename_i hc
      obtain ⟨hlh, hhn, hn, hcl, hz⟩ := hc
      cases h
      obtain ⟨_, rb, o, hp, rfl, live, cs, hb⟩ := refA_mp hI h1 hu
      have hs := sliceBounds_sound (P := P) (w := w) (isS := false) hh hl vl vh hlh hhn
      simp only [cellsAt, hb, if_true] at hq2
      cases hq2
      obtain ⟨x', k1, k2⟩ := hI.blk _ _ hb
      have e1 := k1.symm.trans hp
      cases e1
      obtain ⟨c, te, fr, us, r1, r2, r3, r4, r5⟩ := k2
      have hul := r2.length
      have hge : 1 * P.cellsOf et ≤ n * P.cellsOf et := Nat.mul_le_mul_right _ hn
      simp only at hcl
      have hcs : o + cs.length ≤ c.size := by
        have hj : cs.length - 1 < us.length := by omega
        have := r3 (cs.length - 1) us[cs.length - 1] (List.getElem?_eq_getElem hj)
        have := (Array.getElem?_eq_some_iff.1 this).1
        omega
      refine ⟨.slice (some (if n = l0 then ⟨rb, o + off, none⟩ else ⟨rb, o + off + l0 * P.cellsOf et, none⟩)) (h0 - l0) (n - l0), ?_, ?_⟩
      · simp only [VR]
        refine ⟨rfl, ver, _, hp, Nat.le_refl _, fun _ => ⟨by omega, n - l0, if n = l0 then o + off else o + off + l0 * P.cellsOf et, ?_, by omega, fun h0 => ?_, c, te, fr, r1, ?_⟩⟩
        · congr 2
          split <;> rfl
        · have : n ≠ l0 := by omega
          rw [if_neg this, Nat.add_assoc]
        · split
          · rename_i hnl
            have : n - l0 = 0 := by omega
            rw [this, Nat.zero_mul]
            omega
          · have : l0 * P.cellsOf et + (n - l0) * P.cellsOf et = n * P.cellsOf et := by
              rw [← Nat.add_mul]
              congr 1
              omega
            omega
      · simp only [Instr.sliceAt, Sem.run_bind, run_underlying hq, Result.andThen_ok, Instr.sureAddr, hs, run_sizeOf' hz, Sem.run_pure, abs_add]
    · cases h
  · exact sliceA_sound hI h1 h hu vl vh
end
end Go.AI

/- The abstract interpreter: literals, new slices, append, copy. No conditions. -/
set_option linter.unusedVariables false
namespace Go.AI
section
variable {P : Program} {κ : Kap}
theorem foldl_set (off : Nat) : ∀ (vs : List Value) (k : Nat) (cells : Array Value), off + k + vs.length ≤ cells.size →
    ((vs.zipIdx k).foldl (fun (cs : Array Value) (x : Value × Nat) => cs.setIfInBounds (off + x.2) x.1) cells).toList = cells.toList.take (off + k) ++ vs ++ cells.toList.drop (off + k + vs.length)
  | [], k, cells, h => by simp
  | v :: r, k, cells, h => by
    simp only [List.length_cons] at h
    rw [List.zipIdx_cons, List.foldl_cons, foldl_set off r (k + 1) _ (by simp; omega)]
    have hl : off + k < cells.toList.length := by simp; omega
    simp only [Array.toList_setIfInBounds]
    have e1 : (cells.toList.set (off + k) v).take (off + (k + 1)) = cells.toList.take (off + k) ++ [v] := by
      rw [← Nat.add_assoc, List.take_set, List.take_succ_eq_append_getElem hl, List.set_append_right _ _ (by simp; omega)]
      congr 1
      simp
      rw [Nat.min_eq_left (by simp at hl; omega)]
      simp
    have e2 : (cells.toList.set (off + k) v).drop (off + (k + 1) + r.length) = cells.toList.drop (off + k + (v :: r).length) := by
      rw [List.drop_set_of_lt (by omega)]
      congr 1
      simp; omega
    rw [e1, e2]
    simp
theorem fill_step (off : Nat) (v : Value) (cells : Array Value) (h : off + v.cells.size ≤ cells.size) :
    (v.cells.zipIdx.foldl (fun (cs : Array Value) (x : Value × Nat) => cs.setIfInBounds (off + x.2) x.1) cells).toList = cells.toList.take off ++ v.cells.toList ++ cells.toList.drop (off + v.cells.toList.length) := by
  have := foldl_set off v.cells.toList 0 cells (by simpa using h)
  rw [← Array.foldl_toList]
  simpa using this
/-- The parts as values. -/
def PartsR (κ : Kap) : List (Nat × AV) → List (Nat × Value) → Prop
  | [], vs => vs = []
  | (i, x) :: r, vs => ∃ u s, vs = (i, u) :: s ∧ VR κ x u ∧ PartsR κ r s
theorem evP_parts {g : G} {a : Act} (hE : EnvR κ g a) : ∀ {ps : List (Nat × Operand)} {qs : List (Nat × AV)}, evP g ps = some qs → PartsR κ qs (ps.map fun x => (x.1, a.eval x.2))
  | [], qs, h => by cases h; rfl
  | (i, o) :: r, qs, h => by
    obtain ⟨x, hx, h⟩ := obind_eq h
    obtain ⟨xs, hxs, h⟩ := obind_eq h
    cases h
    exact ⟨_, _, rfl, aev_sound hE hx, evP_parts hE hxs⟩
theorem fillA_sound {place : Nat → Option (Nat × Nat)} : ∀ {ps : List (Nat × AV)} {zs cs : List AV} {vs : List (Nat × Value)} {cells : Array Value}, fillA place zs ps = some cs → PartsR κ ps vs → VRs κ zs cells.toList → (∀ y ∈ cells.toList, y.oneCell' = true) →
    ∃ out : Array Value, Instr.fill place cells vs = some out ∧ VRs κ cs out.toList ∧ (∀ y ∈ out.toList, y.oneCell' = true) ∧ out.size = cells.size
  | [], zs, cs, vs, cells, h, hp, hz, h1 => by
    cases h; cases hp
    exact ⟨cells, rfl, hz, h1, rfl⟩
  | (i, x) :: r, zs, cs, vs, cells, h, hp, hz, h1 => by
    obtain ⟨⟨off, sz⟩, hpl, h⟩ := obind_eq h
    obtain ⟨u, s, rfl, hu, hr⟩ := hp
    split at h
    · rename_i hc
      obtain ⟨c1, c2, c3⟩ := hc
      obtain ⟨f1, f2⟩ := hu.flat c3
      have hsz := flat_length hu c3
      have hcl := hz.length
      simp only at c1 c2
      have hle : off + u.cells.size ≤ cells.size := by rw [hsz, c1]; simp at hcl; omega
      have hst := fill_step off u cells hle
      have hz' : VRs κ (splice zs off (flat x)) (u.cells.zipIdx.foldl (fun (cs : Array Value) (x : Value × Nat) => cs.setIfInBounds (off + x.2) x.1) cells).toList := by
        rw [hst, splice_app _ _ _ (by rw [c1]; exact c2), ← f1.length]
        exact (hz.take off).append f1 |>.append (hz.drop _)
      have h1' : ∀ y ∈ (u.cells.zipIdx.foldl (fun (cs : Array Value) (x : Value × Nat) => cs.setIfInBounds (off + x.2) x.1) cells).toList, y.oneCell' = true := by
        rw [hst]
        intro y hy
        rcases List.mem_append.1 hy with hy | hy
        · rcases List.mem_append.1 hy with hy | hy
          · exact h1 y (List.mem_of_mem_take hy)
          · exact f2 y hy
        · exact h1 y (List.mem_of_mem_drop hy)
      obtain ⟨out, o1, o2, o3, o4⟩ := fillA_sound h hr hz' h1'
      refine ⟨out, ?_, o2, o3, ?_⟩
      · unfold Instr.fill
        simp only [hpl]
        rw [if_neg (by simp only [ne_eq, Bool.or_eq_true, decide_eq_true_eq]; omega)]
        exact o1
      · rw [o4, ← Array.length_toList, hst]
        simp
        omega
    · cases h
theorem ofVal_cells {z : Value} (hz : cstB z = true) (hc : (flat (ofVal z)).all AV.cellB = true) : VRs κ (flat (ofVal z)) z.cells.toList ∧ ∀ y ∈ z.cells.toList, y.oneCell' = true := (VR_val hz).flat hc

section
variable {w : World}
theorem run_mapSizes : ∀ (fs : List Field) (w : World), (fs.all fun f => (P.info? f.type).isSome) = true →
    (fs.mapM (fun f => do pure (f.offset, ← sizeOf f.type) : Field → Sem (Nat × Nat))).run P w = .ok (fs.map fun f => (f.offset, P.cellsOf f.type)) w
  | [], w, _ => rfl
  | f :: r, w, h => by
    simp only [List.all_cons, Bool.and_eq_true] at h
    obtain ⟨i, hi⟩ := Option.isSome_iff_exists.1 h.1
    have ih := run_mapSizes r w h.2
    simp only [List.mapM_cons, Sem.run_bind, sizeOf, typeInfo, run_program, Result.andThen_ok, hi, Sem.run_pure, List.map_cons, Program.cellsOf] at ih ⊢
    rw [ih]
    simp
theorem abuild_sound {t : TypeId} {ps : List (Nat × AV)} {r : AV} (h : abuild P t ps = some r) {vs : Array (Nat × Value)} (hp : PartsR κ ps vs.toList) :
    ∃ y, VR κ r y ∧ (Instr.build t vs).run P w = .ok y w := by
  obtain ⟨z, hzt, h⟩ := obind_eq h
  obtain ⟨zx, i, hi, hzi, rfl, hcst, hrun⟩ := run_zeroT hzt
  have hv := VR_val (κ := κ) hcst
  split at h
  · rename_i zs fs e hzs hpl
    obtain ⟨cs, hcs, h⟩ := obind_eq h
    cases h
    rw [hzs] at hv
    simp only [VR] at hv
    obtain ⟨us, rfl, hv, h1⟩ := hv
    unfold placesT at hpl
    split at hpl
    · rename_i fs' hq
      split at hpl
      · rename_i hall
        cases hpl
        have hmap : ∀ w : World, (fs'.mapM (fun f => do pure (f.offset, ← sizeOf f.type) : Field → Sem (Nat × Nat))).run P w = .ok (fs'.map fun f => (f.offset, P.cellsOf f.type)) w := by
          intro w
          rw [Array.mapM_eq_mapM_toList]
          simp only [Sem.run_map, run_mapSizes fs'.toList w hall, Result.andThen_ok]
          congr 1
          apply Array.ext'
          simp
        obtain ⟨out, o1, o2, o3, o4⟩ := fillA_sound (cells := us.toArray) hcs hp (by simpa using hv) (by simpa using h1)
        refine ⟨.agg out, ?_, ?_⟩
        · simp only [VR]
          exact ⟨out.toList, by simp, o2, o3⟩
        · have hfun : (fun i : Nat => (fs'.map fun f => (f.offset, P.cellsOf f.type))[i]?) = fun i : Nat => (fs'.toList.map fun f => (f.offset, P.cellsOf f.type))[i]? := by
            funext i; simp
          simp only [Instr.build, Sem.run_bind, hrun, Result.andThen_ok, run_underlying hq, Value.cells, hmap, hfun, o1, Sem.run_pure]
      · cases hpl
    · cases hpl
  · rename_i zs e hzs hpl hel
    obtain ⟨cs, hcs, h⟩ := obind_eq h
    cases h
    rw [hzs] at hv
    simp only [VR] at hv
    obtain ⟨us, rfl, hv, h1⟩ := hv
    unfold elemT at hel
    split at hel
    · rename_i n te hq
      split at hel
      · rename_i hs
        cases hel
        obtain ⟨out, o1, o2, o3, o4⟩ := fillA_sound (cells := us.toArray) hcs hp (by simpa using hv) (by simpa using h1)
        refine ⟨.agg out, ?_, ?_⟩
        · simp only [VR]
          exact ⟨out.toList, by simp, o2, o3⟩
        · simp only [Instr.build, Sem.run_bind, hrun, Result.andThen_ok, run_underlying hq, Value.cells, run_sizeOf' hs, o1, Sem.run_pure]
      · cases hel
    · cases hel
  · cases h
end

/-! ### New slices -/
theorem repl_VRs {z : List AV} {us : List Value} (h : VRs κ z us) : ∀ n, VRs κ (repl n z) (List.replicate n us).flatten
  | 0 => .nil
  | n + 1 => by
    rw [List.replicate_succ, List.flatten_cons]
    exact h.append (repl_VRs h n)
theorem madeCells_flat (z : Array Value) (hz : 0 < z.size) (n : Nat) : (madeCells z (n * z.size)).toList = (List.replicate n z.toList).flatten := by
  induction n with
  | zero => simp [madeCells]
  | succ n ih =>
    rw [List.replicate_succ', List.flatten_append, ← ih]
    simp only [madeCells, Array.toList_map, Array.toList_range, Nat.succ_mul, List.range_add, List.map_append, List.map_map]
    congr 1
    simp only [List.flatten_cons, List.flatten_nil, List.append_nil]
    apply List.ext_getElem?
    intro i
    rcases Nat.lt_or_ge i z.size with h | h
    · simp [h, Nat.mul_add_mod_self_right, Nat.mod_eq_of_lt h]
    · simp [h]
end
end Go.AI

/- The abstract interpreter: literals of slices, make, append, copy. No conditions. -/
set_option linter.unusedVariables false
namespace Go.AI
section
variable {P : Program} {K : Kx} {H : Heap} {p : Pl} {w : World}
/-- A block that is no part of the own heap. -/
theorem alien_sound (hI : Inv K H p w) (o : Obj) (hfo : ∀ a, (w.alloc o).frozen? a = w.frozen? a) : Inv K H p (w.alloc o) ∧ PK (kap K H p w) (kap K H p (w.alloc o)) := by
  have main := Inv.chg (b := H.length) (H' := H) (p' := p) (w' := w.alloc o) hI (fun i hi => rfl) (Nat.le_refl _) (fun i hi => .inl hi) (fun i hi => rfl)
    (fun v x h => ⟨v, x, h, .inl ⟨rfl, rfl⟩⟩) (fun rb hl => .inl hl) (fun v rb o h => by rw [hI.dom _ (Nat.le_refl _)] at h; cases h) (fun h => hI.dom _ h)
    (fun i hi hn => RowKit.Below.heap_alloc w _ i hi) (by simp) (fun i k hl hr => by
      obtain ⟨x, v, o', q1, q2, q3⟩ := hl
      simp at q1) rfl rfl rfl hfo
  exact ⟨main.2 fun x hx => by simp at hx, main.1⟩
/-- The world has changed in nothing that is looked at. -/
theorem same_sound (hI : Inv K H p w) {w' : World} (hh : w'.heap = w.heap) (ho : w'.os = w.os) (ht : w'.tape = w.tape) (hu : w'.output = w.output) : Inv K H p w' ∧ PK (kap K H p w) (kap K H p w') := by
  have main := Inv.chg (b := H.length) (H' := H) (p' := p) (w' := w') hI (fun i hi => rfl) (Nat.le_refl _) (fun i hi => .inl hi) (fun i hi => rfl)
    (fun v x h => ⟨v, x, h, .inl ⟨rfl, rfl⟩⟩) (fun rb hl => .inl hl) (fun v rb o h => by rw [hI.dom _ (Nat.le_refl _)] at h; cases h) (fun h => hI.dom _ h)
    (fun i hi hn => by rw [hh]) (by rw [hh]; exact Nat.le_refl _) (fun i k hl hr => by unfold RowSz; rw [hh]; exact hr) ho ht hu (fun a => by unfold World.frozen?; rw [hh])
  exact ⟨main.2 fun x hx => by simp at hx, main.1⟩
theorem mapC_nil {f g : AV → Option (AV × List Nat)} (hfg : ∀ x r, f x = some r → g x = some r ∧ r.2 = []) : ∀ (xs : List AV) (r : List AV × List Nat), mapC f xs = some r → mapC g xs = some r ∧ r.2 = []
  | [], r, h => by cases h; exact ⟨rfl, rfl⟩
  | x :: xs, r, h => by
    obtain ⟨y, hy, h⟩ := obind_eq h
    obtain ⟨q, hq, h⟩ := obind_eq h
    cases h
    obtain ⟨h1, h2⟩ := hfg x y hy
    obtain ⟨h3, h4⟩ := mapC_nil hfg xs q hq
    simp only [mapC, h1, h3, obind_some, h2, h4]
    exact ⟨trivial, rfl⟩
theorem madeCells_get (z : Array Value) (n j : Nat) : (madeCells z n)[j]? = if j < n then some z[j % z.size]! else none := by
  unfold madeCells
  rw [Array.getElem?_map]
  split
  · rename_i h; simp [h]
  · rename_i h; simp [h]
theorem closeA_nil (H : Heap) : ∀ (k : Nat) (x : AV) (r : AV × List Nat), closeA k [] x = some r → closeA k H x = some r ∧ r.2 = []
  | 0, x, r, h => by cases h
  | k + 1, x, r, h => by
    have ih := closeA_nil H k
    unfold closeA at h ⊢
    by_cases hg : x.good = true
    · rw [if_pos hg] at h ⊢
      cases h
      exact ⟨rfl, rfl⟩
    · rw [if_neg hg] at h ⊢
      cases x with
      | sl full n cs => cases h; exact ⟨rfl, rfl⟩
      | ag cs =>
        obtain ⟨q, hq, h⟩ := obind_eq h
        cases h
        obtain ⟨h1, h2⟩ := mapC_nil ih cs q hq
        simp only [h1, obind_some]
        exact ⟨trivial, h2⟩
      | tu cs =>
        obtain ⟨q, hq, h⟩ := obind_eq h
        cases h
        obtain ⟨h1, h2⟩ := mapC_nil ih cs q hq
        simp only [h1, obind_some]
        exact ⟨trivial, h2⟩
      | _ => simp at h
theorem row_fresh (hI : Inv K H p w) {us : List Value} {c : Array Value} {e : TypeId} (h1 : ∀ y ∈ us, y.oneCell' = true) (hc : ∀ (j : Nat) (u : Value), us[j]? = some u → c[j]? = some u) :
    RowAt (kap K H p (w.alloc (.cells c e))) w.heap.size 0 us := by
  refine ⟨fun j u hj => ?_, fun hne hA => Nat.lt_irrefl _ (avo_lt hI hA), h1⟩
  have := hc j u hj
  show (w.alloc (.cells c e)).cell? ⟨w.heap.size, 0 + j, none⟩ = some u
  unfold World.cell?
  simp only [heap_last w, Nat.zero_add]
  exact this
theorem abuildSlice_sound (hI : Inv K H p w) {t : TypeId} {len : Nat} {ps : List (Nat × AV)} {r : AV} (h : abuildSlice P t len ps = some r) {vs : Array (Nat × Value)} (hp : PartsR (kap K H p w) ps vs.toList) :
    ∃ y w', (Instr.buildSlice t len vs).run P w = .ok y w' ∧ Inv K H p w' ∧ PK (kap K H p w) (kap K H p w') ∧ VR (kap K H p w') r y := by
  unfold abuildSlice at h
  split at h
  · rename_i e hq
    split at h
    · rename_i hc
      obtain ⟨hlen, hsz⟩ := hc
      obtain ⟨z, hzt, h⟩ := obind_eq h
      split at h
      · rename_i hzc
        obtain ⟨hz1, hz2⟩ := hzc
        obtain ⟨cs, hcs, h⟩ := obind_eq h
        obtain ⟨⟨ds, bs⟩, hds, h⟩ := obind_eq h
        cases h
        obtain ⟨zx, i, hi, hzi, rfl, hcst, hrun⟩ := run_zeroT hzt
        obtain ⟨zv1, zv2⟩ := ofVal_cells (κ := kap K H p w) hcst hz2
        have hzs : zx.cells.size = P.cellsOf e := by
          have := zv1.length
          simp at this
          rw [this, hz1]
        have hbase : VRs (kap K H p w) (repl len (flat (ofVal zx))) (madeCells zx.cells (len * P.cellsOf e)).toList := by
          rw [← hzs, madeCells_flat _ (by omega)]
          exact repl_VRs zv1 len
        have hone : ∀ y ∈ (madeCells zx.cells (len * P.cellsOf e)).toList, y.oneCell' = true := by
          rw [← hzs, madeCells_flat _ (by omega)]
          intro y hy
          obtain ⟨l, hl, hy⟩ := List.mem_flatten.1 hy
          have := List.eq_of_mem_replicate hl
          subst this
          exact zv2 y hy
        obtain ⟨out, o1, o2, o3, o4⟩ := fillA_sound hcs hp hbase hone
        obtain ⟨m1, m2⟩ := mapC_nil (fun x r h => closeA_nil H depthA x r h) cs (ds, bs) hds
        simp only at m2
        subst m2
        obtain ⟨g1, g2, g3, g4, g5⟩ := mapC_sound (closeA_sound hI depthA) _ _ _ _ m1 o2
        have hval := g5 (kap K H p w) rfl (fun rb hrb => ⟨hrb, fun b hb => by cases hb⟩)
        obtain ⟨a1, a2⟩ := alien_sound hI (.cells out e) (fun a => RowKit.frozen?_alloc_cells w _ _ a)
        refine ⟨.slice (some ⟨w.heap.size, 0, none⟩) len len, w.alloc (.cells out e), ?_, a1, a2, ?_⟩
        · have h24 : ¬ (len * P.cellsOf e > 2 ^ 24) := by omega
          simp only [Instr.buildSlice, Sem.run_bind, run_underlying hq, Result.andThen_ok, run_sizeOf' hsz, Sem.run_ite, if_neg h24]
          by_cases h0 : len * P.cellsOf e = 0
          · have : madeCells zx.cells (len * P.cellsOf e) = (Array.range (len * P.cellsOf e)).map ((#[] : Array Value)[· % (#[] : Array Value).size]!) := by
              rw [h0]; simp [madeCells]
            rw [this] at o1
            simp only [if_pos h0, Sem.run_pure, Result.andThen_ok, o1, newRow, Sem.run_bind, run_newObj]
            rfl
          · have : madeCells zx.cells (len * P.cellsOf e) = (Array.range (len * P.cellsOf e)).map (zx.cells[· % zx.cells.size]!) := rfl
            rw [this] at o1
            simp only [if_neg h0, Sem.run_bind, hrun, Sem.run_pure, Result.andThen_ok, o1, newRow, run_newObj]
            rfl
        · simp only [VR]
          exact ⟨_, len, rfl, Nat.le_refl _, fun _ => rfl, fun _ => rfl, g1, out.toList, hval.mono' a2, fun _ => rfl, row_fresh hI o3 (fun j u hj => by simpa using hj)⟩
      · cases h
    · cases h
  · cases h
theorem makeSliceA_sound (hI : Inv K H p w) {t : TypeId} {l c : AV} {r : AV} {H' : Heap} (h : makeSliceA P t l c H = some (r, H')) {u v : Value} (hu : VR (kap K H p w) l u) (hv : VR (kap K H p w) c v) :
    ∃ y w' p', (Instr.makeSlice t u v).run P w = .ok y w' ∧ Inv K H' p' w' ∧ PK (kap K H p w) (kap K H' p' w') ∧ VR (kap K H' p' w') r y := by
  unfold makeSliceA at h
  split at h
  · rename_i e kl l kc c hq
    cases hu.v_eq; cases hv.v_eq
    split at h
    · rename_i hc
      obtain ⟨h0, h1, h2, h3, h4⟩ := hc
      obtain ⟨z, hzt, h⟩ := obind_eq h
      split at h
      · rename_i hzc
        obtain ⟨hz1, hz2⟩ := hzc
        cases h
        obtain ⟨zx, i, hi, hzi, rfl, hcst, hrun⟩ := run_zeroT hzt
        obtain ⟨zv1, zv2⟩ := ofVal_cells (κ := kap K H p w) hcst hz2
        have hsi : i.size = P.cellsOf e := by simp [Program.cellsOf, hi]
        have hbi : i.bytes = P.bytesOf e := by simp [Program.bytesOf, hi]
        have hzs : zx.cells.size = P.cellsOf e := by
          have := zv1.length
          simp at this
          rw [this, hz1]
        have hr := run_make (P := P) w t e i zx hq hi hzi kl kc l c h0 h1 (by rw [hbi]; exact h3) (by omega)
        have hmade : VRs (kap K H p w) (repl l.toNat (flat (ofVal zx))) (madeCells zx.cells (l.toNat * P.cellsOf e)).toList := by
          rw [← hzs, madeCells_flat _ (by omega)]
          exact repl_VRs zv1 _
        have hone : ∀ y ∈ (madeCells zx.cells (l.toNat * P.cellsOf e)).toList, y.oneCell' = true := by
          rw [← hzs, madeCells_flat _ (by omega)]
          intro y hy
          obtain ⟨l, hl, hy⟩ := List.mem_flatten.1 hy
          have := List.eq_of_mem_replicate hl
          subst this
          exact zv2 y hy
        have hle : l.toNat * P.cellsOf e ≤ c.toNat * P.cellsOf e := Nat.mul_le_mul_right _ (by omega)
        obtain ⟨q1, q2⟩ := alloc_sound (c := madeCells zx.cells (c.toNat * i.size)) (e := e) hI hmade hone (fun j u hj => by
          rw [hsi]
          rw [Array.getElem?_toList, madeCells_get] at hj
          rw [madeCells_get]
          split at hj
          · rw [if_pos (by omega)]; exact hj
          · cases hj)
        refine ⟨_, _, _, hr, q1, q2, ?_⟩
        simp only [VR]
        refine ⟨rfl, 0, some (w.heap.size, 0), by simp [kap, addP], Nat.le_refl _, fun _ => ⟨by omega, c.toNat, 0, rfl, by omega, fun _ => rfl, _, e, (0, 0), heap_last w _, ?_⟩⟩
        simp [madeCells, hsi]
      · cases h
    · cases h
  · cases h
theorem buildOwnA_sound (hI : Inv K H p w) {t : TypeId} {len : Nat} {ps : List (Nat × AV)} {r : AV} {H' : Heap} (h : buildOwnA P t len ps H = some (r, H')) {vs : Array (Nat × Value)} (hp : PartsR (kap K H p w) ps vs.toList) :
    ∃ y w' p', (Instr.buildSlice t len vs).run P w = .ok y w' ∧ Inv K H' p' w' ∧ PK (kap K H p w) (kap K H' p' w') ∧ VR (kap K H' p' w') r y := by
  unfold buildOwnA at h
  split at h
  · rename_i e hq
    split at h
    · rename_i hc
      obtain ⟨hlen, hsz⟩ := hc
      obtain ⟨z, hzt, h⟩ := obind_eq h
      split at h
      · rename_i hzc
        obtain ⟨hz1, hz2⟩ := hzc
        obtain ⟨cs, hcs, h⟩ := obind_eq h
        cases h
        obtain ⟨zx, i, hi, hzi, rfl, hcst, hrun⟩ := run_zeroT hzt
        obtain ⟨zv1, zv2⟩ := ofVal_cells (κ := kap K H p w) hcst hz2
        have hzs : zx.cells.size = P.cellsOf e := by
          have := zv1.length
          simp at this
          rw [this, hz1]
        have hbase : VRs (kap K H p w) (repl len (flat (ofVal zx))) (madeCells zx.cells (len * P.cellsOf e)).toList := by
          rw [← hzs, madeCells_flat _ (by omega)]
          exact repl_VRs zv1 len
        have hone : ∀ y ∈ (madeCells zx.cells (len * P.cellsOf e)).toList, y.oneCell' = true := by
          rw [← hzs, madeCells_flat _ (by omega)]
          intro y hy
          obtain ⟨l, hl, hy⟩ := List.mem_flatten.1 hy
          have := List.eq_of_mem_replicate hl
          subst this
          exact zv2 y hy
        obtain ⟨out, o1, o2, o3, o4⟩ := fillA_sound hcs hp hbase hone
        obtain ⟨q1, q2⟩ := alloc_sound (c := out) (e := e) hI o2 o3 (fun j u hj => by simpa using hj)
        have hsize : out.size = len * P.cellsOf e := by
          rw [o4]; simp [madeCells]
        refine ⟨.slice (some ⟨w.heap.size, 0, none⟩) len len, w.alloc (.cells out e), _, ?_, q1, q2, ?_⟩
        · have h24 : ¬ (len * P.cellsOf e > 2 ^ 24) := by omega
          simp only [Instr.buildSlice, Sem.run_bind, run_underlying hq, Result.andThen_ok, run_sizeOf' hsz, Sem.run_ite, if_neg h24]
          by_cases h0 : len * P.cellsOf e = 0
          · have : madeCells zx.cells (len * P.cellsOf e) = (Array.range (len * P.cellsOf e)).map ((#[] : Array Value)[· % (#[] : Array Value).size]!) := by
              rw [h0]; simp [madeCells]
            rw [this] at o1
            simp only [if_pos h0, Sem.run_pure, Result.andThen_ok, o1, newRow, Sem.run_bind, run_newObj]
            rfl
          · have : madeCells zx.cells (len * P.cellsOf e) = (Array.range (len * P.cellsOf e)).map (zx.cells[· % zx.cells.size]!) := rfl
            rw [this] at o1
            simp only [if_neg h0, Sem.run_bind, hrun, Sem.run_pure, Result.andThen_ok, o1, newRow, run_newObj]
            rfl
        · simp only [VR]
          refine ⟨rfl, 0, some (w.heap.size, 0), by simp [kap, addP], Nat.le_refl _, fun _ => ⟨by omega, len, 0, rfl, by omega, fun _ => rfl, _, e, (0, 0), heap_last w _, ?_⟩⟩
          simp [hsize]
      · cases h
    · cases h
  · cases h
end
end Go.AI

/- The abstract interpreter: append. No conditions. -/
set_option linter.unusedVariables false
set_option linter.unusedSimpArgs false
namespace Go.AI
section
variable {P : Program} {K : Kx} {H : Heap} {p : Pl} {w : World}
theorem firstCells_slice {us : List Value} {ad : Option Addr} {n k c size : Nat} (hl : us.length = n * size) (h : us ≠ [] → ∃ b o, ad = some ⟨b, o, none⟩ ∧ ∀ (j : Nat) (y : Value), us[j]? = some y → w.cell? ⟨b, o + j, none⟩ = some y) :
    ∀ w' : World, w'.heap = w.heap → (Builtin.firstCells size n (.slice ad k c)).run P w' = .ok us.toArray w' := by
  intro w' hw
  cases ad with
  | none =>
    have : us = [] := by
      by_cases hu : us = []
      · exact hu
      · obtain ⟨b, o, h1, _⟩ := h hu; cases h1
    subst this
    rfl
  | some a =>
    simp only [Builtin.firstCells]
    rw [← hl]
    refine run_loadCells_list w' a us fun j v hj => ?_
    have hne : us ≠ [] := by intro e; subst e; simp at hj
    obtain ⟨b, o, h1, h2⟩ := h hne
    cases h1
    rw [abs_add]
    have := h2 j v hj
    unfold World.cell? at this ⊢
    rw [hw]; exact this
theorem bytes_VRs {κ : Kap} : ∀ (l : List UInt8), VRs κ (l.map fun b => AV.v (.int .u8 b.toNat)) (l.map fun b => Value.int .u8 b.toNat)
  | [] => .nil
  | b :: r => .cons (VR_v rfl) (bytes_VRs r)
theorem sourceA_sound (hI : Inv K H p w) {x : AV} {n : Nat} {cs : List AV} (h : sourceA H x = some (n, cs)) {u : Value} (hu : VR (kap K H p w) x u) :
    ∃ us, VRs (kap K H p w) cs us ∧ (∀ y ∈ us, y.oneCell' = true) ∧ (∀ w', (Builtin.lenOf u).run P w' = .ok n w') ∧
      ∀ k size, k ≤ n → us.length = n * size → ∀ w' : World, w'.heap = w.heap → (Builtin.firstCells size k u).run P w' = .ok (us.take (k * size)).toArray w' := by
  unfold sourceA at h
  split at h
  · rename_i s
    cases h; cases hu.v_eq
    refine ⟨_, bytes_VRs s.data.toList, ?_, fun w' => rfl, fun k size hk hl w' hw => ?_⟩
    · intro y hy
      obtain ⟨b, _, rfl⟩ := List.mem_map.1 hy
      rfl
    · simp only [List.length_map, Array.length_toList] at hl
      have hs : s.data.size = s.size := rfl
      have hz : size = 1 ∨ s.size = 0 := by
        rw [hs] at hl
        rcases Nat.eq_zero_or_pos s.size with h0 | h0
        · exact .inr h0
        · left
          have : s.size * 1 = s.size * size := by omega
          exact (Nat.eq_of_mul_eq_mul_left h0 this).symm
      simp only [Builtin.firstCells, Sem.run_pure]
      congr 1
      apply Array.ext'
      have : (s.extract 0 k).data.toList = s.data.toList.take k := by
        rw [ByteArray.data_extract, Array.toList_extract]
        simp [List.extract_eq_take_drop]
      simp only [Array.toList_map, this, List.map_take]
      rcases hz with rfl | h0
      · rw [Nat.mul_one]
      · have h2 : s.data.toList = [] := List.eq_nil_of_length_eq_zero (by simp [hs, h0])
        simp [h2]
  · rename_i hx
    obtain ⟨ad, cap, us, rfl, h1, h2, h3, h4⟩ := slc_sound hI h hu
    refine ⟨us, h1, h2, fun w' => rfl, fun k size hk hl w' hw => ?_⟩
    have hle : k * size ≤ n * size := Nat.mul_le_mul_right _ hk
    refine firstCells_slice (w := w) (by rw [List.length_take, hl]; exact Nat.min_eq_left hle) (fun hne => ?_) w' hw
    obtain ⟨b, o, h5, h6⟩ := h4 (fun e => by subst e; simp at hne)
    refine ⟨b, o, h5, fun j y hj => ?_⟩
    have hj1 := (List.getElem?_eq_some_iff.1 hj).1
    rw [List.getElem?_take_of_lt (by simp at hj1; omega)] at hj
    exact h6 j y hj
theorem run_noInt {u : TypeId} (h : noInt P u = true) (w : World) : ∃ d, (underlying u).run P w = .ok d w ∧ ∀ k, d = .int k → False := by
  unfold noInt at h
  split at h
  · cases h
  · rename_i d hd hq
    exact ⟨d, run_underlying hq w, hd⟩
  · cases h
theorem run_append_in {t t2 ty e : TypeId} (hq : P.underlying t = some (.slice e)) (hs : 0 < P.cellsOf e) (hni : noInt P t2 = true) {ad : Option Addr} {n1 cap n2 : Nat} {u : Value} {news : List Value}
    (hlen : ∀ w', (Builtin.lenOf u).run P w' = .ok n2 w') (hf : (Builtin.firstCells (P.cellsOf e) n2 u).run P w = .ok news.toArray w) (hle : n1 + n2 ≤ cap) :
    (Builtin.append_ #[t, t2] ty #[.slice ad n1 cap, u]).run P w =
      match ad with
      | none => .ok (.slice none (n1 + n2) cap) w
      | some a => ((storeCells (a.add (n1 * P.cellsOf e)) news).run P w).andThen fun _ w' => .ok (.slice (some a) (n1 + n2) cap) w' := by
  obtain ⟨d, hd1, hd2⟩ := run_noInt (P := P) hni w
  cases ad with
  | none => simp [Builtin.append_, run_underlying hq, run_sizeOf' hs, hd1, hd2, hlen, hle, hf]
  | some a => simp [Builtin.append_, run_underlying hq, run_sizeOf' hs, hd1, hd2, hlen, hle, hf]
theorem run_append_out {t t2 ty e : TypeId} (hq : P.underlying t = some (.slice e)) (hs : 0 < P.cellsOf e) (hni : noInt P t2 = true) {i : TypeInfo} (hi : P.info? e = some i) {z : Value} (hz : i.zero = some z) {ad : Option Addr} {n1 cap n2 : Nat} {u : Value} {olds news : List Value}
    (hlen : ∀ w', (Builtin.lenOf u).run P w' = .ok n2 w') (hf : ∀ w' : World, w'.heap = w.heap → (Builtin.firstCells (P.cellsOf e) n2 u).run P w' = .ok news.toArray w')
    (ho : ∀ w' : World, w'.heap = w.heap → (Builtin.firstCells (P.cellsOf e) n1 (.slice ad n1 cap)).run P w' = .ok olds.toArray w') (hgt : cap < n1 + n2) (hb : (n1 + n2) * P.bytesOf e ≤ 140737488355328) (h63 : n1 + n2 ≤ 4611686018427387904) :
    ∃ N zs, (Builtin.append_ #[t, t2] ty #[.slice ad n1 cap, u]).run P w = .ok (.slice (some ⟨w.heap.size, 0, none⟩) (n1 + n2) N) (w.drew.alloc (.cells (olds.toArray ++ news.toArray ++ zs) e)) ∧ n1 + n2 ≤ N ∧
      zs = Builtin.zeroCells z.cells (N - (n1 + n2)) := by
  obtain ⟨d, hd1, hd2⟩ := run_noInt (P := P) hni w
  have hbi : P.bytesOf e = i.bytes := by simp [Program.bytesOf, hi]
  rw [hbi] at hb
  have hfit := growslice_fits hgt hb
  have hn : ¬ (n1 + n2 ≤ cap) := by omega
  have h63' : ¬ (9223372036854775807 < ((n1 : Int) + (n2 : Int))) := by omega
  have h48' : ¬ (281474976710656 < Builtin.nextslicecap (n1 + n2) cap * i.bytes) := by omega
  refine ⟨grownCap w (n1 + n2) cap e, _, ?_, ?_, rfl⟩
  · have hf' := hf w.drew rfl
    have ho' := ho w.drew rfl
    simp [Builtin.append_, run_underlying hq, run_sizeOf' hs, typeInfo, zeroValue, hi, hz, hd1, hd2, hlen, hn, h63', h48', Question.forced, hf', ho', newRow, grownCap]
    congr 2
    apply Array.ext'
    simp [List.append_assoc]
  · unfold grownCap
    simp only [Question.cut]
    omega

def setP (p : Pl) (i v : Nat) (x : Option (Nat × Nat)) : Pl := fun j => if j = i then some (v, x) else p j
theorem row_le (hI : Inv K H p w) {b ver rb o : Nat} {live : Bool} {cs : List AV} (hb : H[b]? = some (.cells live ver cs)) (hp : p b = some (ver, some (rb, o))) :
    ∃ c e fr us, w.heap[rb]? = some (.cells c e fr) ∧ VRs (kap K H p w) cs us ∧ (∀ (j : Nat) (u : Value), us[j]? = some u → c[o + j]? = some u) ∧ (∀ y ∈ us, y.oneCell' = true) ∧ (live = true → fr = (0, 0)) := by
  obtain ⟨x', k1, k2⟩ := hI.blk _ _ hb
  have e1 := k1.symm.trans hp
  cases e1
  exact k2
/-- A live block's contents move to a new row. -/
theorem move_sound (hI : Inv K H p w) {b ver : Nat} {cs ds : List AV} {us : List Value} {c : Array Value} {e : TypeId} (hb : H[b]? = some (.cells true ver cs)) (hv : VRs (kap K H p w) ds us) (h1 : ∀ y ∈ us, y.oneCell' = true)
    (hc : ∀ (j : Nat) (u : Value), us[j]? = some u → c[j]? = some u) :
    Inv K (H.set b (.cells true (ver + 1) ds)) (setP p b (ver + 1) (some (w.heap.size, 0))) (w.drew.alloc (.cells c e)) ∧
    PK (kap K H p w) (kap K (H.set b (.cells true (ver + 1) ds)) (setP p b (ver + 1) (some (w.heap.size, 0))) (w.drew.alloc (.cells c e))) := by
  have hbl : b < H.length := (List.getElem?_eq_some_iff.1 hb).1
  have hpv : ∃ x, p b = some (ver, x) := by
    obtain ⟨x', k1, k2⟩ := hI.blk _ _ hb
    exact ⟨x', k1⟩
  obtain ⟨x0, hp0⟩ := hpv
  have hd : w.drew.heap = w.heap := rfl
  have main := Inv.chg (b := b) (H' := H.set b (.cells true (ver + 1) ds)) (p' := setP p b (ver + 1) (some (w.heap.size, 0))) (w' := w.drew.alloc (.cells c e)) hI
    (fun i hi => by rw [List.getElem?_set_ne (Ne.symm hi)]) (by simp) (fun i hi => by simp at hi; exact .inl hi) (fun i hi => by simp [setP, hi])
    (fun v x h => by
      rw [hp0] at h; cases h
      exact ⟨ver + 1, some (w.heap.size, 0), by simp [setP], .inr (by omega)⟩)
    (fun rb hl => by
      obtain ⟨x, v, o, q1, q2, q3⟩ := hl
      simp [setP] at q3
      exact .inr q3.2.1.symm)
    (fun v rb o h => by simp [setP] at h; exact .inr h.2.1.symm)
    (fun h => by simp at h; omega)
    (fun i hi hn => RowKit.Below.heap_alloc w.drew _ i hi)
    (by simp)
    (fun i k hl hr => by
      obtain ⟨c2, e2, fr2, r1, r2⟩ := hr
      have hlt := (Array.getElem?_eq_some_iff.1 r1).1
      exact ⟨c2, e2, fr2, by rw [RowKit.Below.heap_alloc w.drew _ i hlt]; exact r1, r2⟩)
    rfl rfl rfl (fun a => RowKit.frozen?_alloc_cells w.drew _ _ a)
  refine ⟨main.2 fun x hx => ?_, main.1⟩
  rw [List.getElem?_set_self hbl] at hx
  cases hx
  exact ⟨some (w.heap.size, 0), by simp [kap, setP], c, e, (0, 0), us, heap_last w.drew _, hv.mono' main.1, fun j u hj => by rw [Nat.zero_add]; exact hc j u hj, h1, fun _ => rfl⟩
/-- An empty block stays empty: its version alone goes on. -/
theorem bump_sound (hI : Inv K H p w) {b ver : Nat} {cs : List AV} (hb : H[b]? = some (.cells true ver cs)) :
    Inv K (H.set b (.cells true (ver + 1) [])) (setP p b (ver + 1) none) w ∧ PK (kap K H p w) (kap K (H.set b (.cells true (ver + 1) [])) (setP p b (ver + 1) none) w) := by
  have hbl : b < H.length := (List.getElem?_eq_some_iff.1 hb).1
  have hpv : ∃ x, p b = some (ver, x) := by
    obtain ⟨x', k1, k2⟩ := hI.blk _ _ hb
    exact ⟨x', k1⟩
  obtain ⟨x0, hp0⟩ := hpv
  have main := Inv.chg (b := b) (H' := H.set b (.cells true (ver + 1) [])) (p' := setP p b (ver + 1) none) (w' := w) hI
    (fun i hi => by rw [List.getElem?_set_ne (Ne.symm hi)]) (by simp) (fun i hi => by simp at hi; exact .inl hi) (fun i hi => by simp [setP, hi])
    (fun v x h => by
      rw [hp0] at h; cases h
      exact ⟨ver + 1, none, by simp [setP], .inr (by omega)⟩)
    (fun rb hl => by
      obtain ⟨x, v, o, q1, q2, q3⟩ := hl
      simp [setP] at q3)
    (fun v rb o h => by simp [setP] at h)
    (fun h => by simp at h; omega)
    (fun i hi hn => rfl)
    (Nat.le_refl _)
    (fun i k hl hr => hr)
    rfl rfl rfl (fun _ => rfl)
  refine ⟨main.2 fun x hx => ?_, main.1⟩
  rw [List.getElem?_set_self hbl] at hx
  cases hx
  exact ⟨none, by simp [kap, setP], rfl⟩
/-- A live block grows in its place. -/
theorem grow_sound (hI : Inv K H p w) {b ver rb o ao : Nat} {cs ds : List AV} {us news : List Value} {c : Array Value} {e : TypeId} (hb : H[b]? = some (.cells true ver cs)) (hp : p b = some (ver, some (rb, o)))
    (hr : w.heap[rb]? = some (.cells c e (0, 0))) (hv : VRs (kap K H p w) ds (us ++ news)) (h1 : ∀ y ∈ us ++ news, y.oneCell' = true)
    (hc : ∀ (j : Nat) (u : Value), us[j]? = some u → c[ao + j]? = some u) (hle : ao + us.length + news.length ≤ c.size) :
    ∃ w', (storeCells ⟨rb, ao + us.length, none⟩ news).run P w = .ok () w' ∧ Inv K (H.set b (.cells true (ver + 1) ds)) (setP p b (ver + 1) (some (rb, ao))) w' ∧
      PK (kap K H p w) (kap K (H.set b (.cells true (ver + 1) ds)) (setP p b (ver + 1) (some (rb, ao))) w') := by
  have hbl : b < H.length := (List.getElem?_eq_some_iff.1 hb).1
  have hrun := run_storeCells_at (P := P) rb (ao + us.length) e news 0 c w hr (by omega) (fun v hv => h1 v (List.mem_append_right _ hv))
  simp only [Nat.add_zero] at hrun
  refine ⟨_, hrun, ?_⟩
  have hL : LiveAt H p b rb := ⟨_, _, _, hb, rfl, hp⟩
  have hsz' : (c.toList.take (ao + us.length) ++ news ++ c.toList.drop (ao + us.length + news.length)).toArray.size = c.size := by
    simp; omega
  have main := Inv.chg (b := b) (H' := H.set b (.cells true (ver + 1) ds)) (p' := setP p b (ver + 1) (some (rb, ao))) (w' := w.setRow rb (c.toList.take (ao + us.length) ++ news ++ c.toList.drop (ao + us.length + news.length)).toArray) hI
    (fun i hi => by rw [List.getElem?_set_ne (Ne.symm hi)]) (by simp) (fun i hi => by simp at hi; exact .inl hi) (fun i hi => by simp [setP, hi])
    (fun v x h => by
      rw [hp] at h; cases h
      exact ⟨ver + 1, some (rb, ao), by simp [setP], .inr (by omega)⟩)
    (fun rb' hl => by
      obtain ⟨x, v, o2, q1, q2, q3⟩ := hl
      simp [setP] at q3
      rw [← q3.2.1]
      exact .inl hL)
    (fun v rb' o' h => by
      simp [setP] at h
      rw [← h.2.1]
      exact .inl ⟨_, _, hbl, hp⟩)
    (fun h => by simp at h; omega)
    (fun i hi hn => setRow_other _ _ _ _ (fun e => hn (e ▸ hL)))
    (by simp)
    (fun i k hl hr' => by
      obtain ⟨x, v, o2, q1, q2, q3⟩ := hl
      have : i = rb := by
        have := q3.symm.trans hp
        cases this; rfl
      subst this
      obtain ⟨c2, e2, fr2, r1, r2⟩ := hr'
      have := r1.symm.trans hr
      cases this
      exact ⟨_, _, _, setRow_heap _ _ _ _ _ _ hr, by rw [hsz']; exact r2⟩)
    rfl rfl rfl (fun a => frozen_setRow (by assumption) _ a)
  refine ⟨main.2 fun x hx => ?_, main.1⟩
  rw [List.getElem?_set_self hbl] at hx
  cases hx
  refine ⟨some (rb, ao), by simp [kap, setP], _, e, (0, 0), us ++ news, setRow_heap _ _ _ _ _ _ hr, hv.mono' main.1, fun j u hj => ?_, h1, fun _ => rfl⟩
  have hjl := (List.getElem?_eq_some_iff.1 hj).1
  simp at hjl
  rw [List.getElem?_toArray, getElem_three c.toList news (ao + us.length) (ao + j) (by simp; omega) (by simp; omega)]
  by_cases c1 : j < us.length
  · rw [if_pos (by omega), Array.getElem?_toList]
    rw [List.getElem?_append_left c1] at hj
    exact hc j u hj
  · rw [if_neg (by omega), if_pos (by omega), show ao + j - (ao + us.length) = j - us.length by omega]
    rw [List.getElem?_append_right (by omega)] at hj
    exact hj
theorem size_zeros {i : TypeInfo} {z : Value} {et : TypeId} (hi : P.info? et = some i) (hz : z.cells.size = P.cellsOf et) (N k : Nat) (us1 us2 : List Value) (n1 n2 : Nat) (h1 : us1.length = n1 * P.cellsOf et) (h2 : us2.length = n2 * P.cellsOf et) (hN : n1 + n2 ≤ N) :
    0 + N * P.cellsOf et ≤ (us1.toArray ++ us2.toArray ++ Builtin.zeroCells z.cells (N - (n1 + n2))).size := by
  simp only [Array.size_append, List.size_toArray, size_zeroCells, hz, h1, h2, ← Nat.add_mul]
  have : n1 + n2 + (N - (n1 + n2)) = N := by omega
  rw [this]
  omega
theorem appendA_sound (hI : Inv K H p w) {t t2 ty : TypeId} {s x r : AV} {H' : Heap} (hni : noInt P t2 = true) (h : appendA P t s x H = some (r, H')) {u v : Value} (hu : VR (kap K H p w) s u) (hv : VR (kap K H p w) x v) :
    ∃ y w' p', (Builtin.append_ #[t, t2] ty #[u, v]).run P w = .ok y w' ∧ Inv K H' p' w' ∧ PK (kap K H p w) (kap K H' p' w') ∧ VR (kap K H' p' w') r y := by
  unfold appendA at h
  split at h
  · rename_i et hq
    dsimp only at h
    obtain ⟨⟨n1, cs1⟩, hs1, h⟩ := obind_eq h
    obtain ⟨⟨n2, cs2⟩, hs2, h⟩ := obind_eq h
    obtain ⟨z, hz, h⟩ := obind_eq h
    obtain ⟨zx, i, hi, hzi, hzx, hcst, _⟩ := run_zeroT hz
    by_cases hc : ((n1, cs1).1 + (n2, cs2).1) * P.bytesOf et ≤ 70368744177664 ∧ (n1, cs1).1 + (n2, cs2).1 ≤ 70368744177664 ∧ 0 < P.cellsOf et ∧ 0 < P.bytesOf et ∧ (n1, cs1).2.length = (n1, cs1).1 * P.cellsOf et ∧ (n2, cs2).2.length = (n2, cs2).1 * P.cellsOf et ∧ (flat z).length = P.cellsOf et ∧ (flat z).all AV.cellB = true
    · rw [if_pos hc] at h
      obtain ⟨b1, b2, b3, b4, b5, b6, b7, b8⟩ := hc
      simp only at b1 b2 b5 b6 h
      subst hzx
      have hzs : zx.cells.size = P.cellsOf et := by
        have := flat_length (VR_val (κ := kap K H p w) hcst) b8
        omega
      obtain ⟨ad, cap, us1, hsl, v1, o1, hcap, g1⟩ := slc_sound hI hs1 hu
      obtain ⟨us2, v2, o2, l2, f2⟩ := sourceA_sound (P := P) hI hs2 hv
      have hl1 := v1.length
      have hl2 := v2.length
      have f2' := f2 n2 (P.cellsOf et) (Nat.le_refl _) (by rw [hl2, b6])
      rw [List.take_of_length_le (by rw [hl2, b6]; exact Nat.le_refl _)] at f2'
      have f1 := firstCells_slice (P := P) (w := w) (k := n1) (c := cap) (by rw [hl1, b5]) g1
      have hone : ∀ y ∈ us1 ++ us2, y.oneCell' = true := fun y hy => by
        rcases List.mem_append.1 hy with hy | hy
        · exact o1 y hy
        · exact o2 y hy
      have hcontents : ∀ zs : Array Value, ∀ (j : Nat) (y : Value), (us1 ++ us2)[j]? = some y → (us1.toArray ++ us2.toArray ++ zs)[j]? = some y := by
        intro zs j y hj
        have hjl := (List.getElem?_eq_some_iff.1 hj).1
        rw [Array.getElem?_append_left (by simpa using hjl)]
        simpa using hj
      cases s with
      | ms b ver off n sz' =>
        simp only at h
        split at h
        · rename_i ver' cs hb
          split at h
          · rename_i hsz
            cases h
            have hsl2 := hs1
            simp only [slc, hb] at hsl2
            split at hsl2
            · rename_i hver
              subst hver
              split at hsl2
              · cases hsl2
                subst hsl
                by_cases hfit : n1 + n2 ≤ cap
                · -- it fits
                  simp only [VR] at hu
                  obtain ⟨_, vv, xx, q1, q2, q3⟩ := hu
                  obtain ⟨x', k1, k2⟩ := hI.blk _ _ hb
                  have e1 := k1.symm.trans q1
                  cases e1
                  have q3' := q3 rfl
                  have hrun := run_append_in (P := P) (w := w) (ty := ty) hq b3 hni (ad := ad) l2 (f2' w rfl) hfit
                  cases xx with
                  | none =>
                    obtain ⟨rfl, ad', hslice⟩ := q3'
                    cases hslice
                    have hn2 : n2 = 0 := by omega
                    subst hn2
                    rw [Nat.zero_mul] at b5 b6
                    have e1 : us2 = [] := List.eq_nil_of_length_eq_zero (by omega)
                    have e2 : cs2 = [] := List.eq_nil_of_length_eq_zero b6
                    subst e1 e2
                    rw [Nat.zero_mul, List.take_zero, List.append_nil]
                    obtain ⟨m1, m2⟩ := bump_sound hI hb
                    refine ⟨.slice ad 0 0, w, _, ?_, m1, m2, ?_⟩
                    · rw [hrun]
                      cases ad <;> rfl
                    · simp only [VR]
                      exact ⟨rfl, ver' + 1, none, by simp [kap, setP], Nat.le_refl _, fun _ => ⟨rfl, ad, rfl⟩⟩
                  | some q =>
                    obtain ⟨rb, o⟩ := q
                    obtain ⟨hz0, cap', ao, hslice, m1, m2, m3⟩ := q3'
                    cases hslice
                    have hszz : sz' = P.cellsOf et := hsz.resolve_left hz0
                    subst hszz
                    obtain ⟨c, te, fr, us, r1, r2, r3, r4, r5⟩ := k2
                    have hfr := r5 rfl
                    subst hfr
                    obtain ⟨c2, e2, fr2, s1, s2⟩ := m3
                    have hcc := s1.symm.trans r1
                    cases hcc
                    have hmul : (n1 + n2) * P.cellsOf et ≤ cap * P.cellsOf et := Nat.mul_le_mul_right _ hfit
                    rw [Nat.add_mul] at hmul
                    have hold : ∀ (j : Nat) (y : Value), us1[j]? = some y → c[ao + j]? = some y := by
                      intro j y hj
                      obtain ⟨b', o', hb', hcell⟩ := g1 (fun e => by subst e; simp at hj)
                      cases hb'
                      have := hcell j y hj
                      unfold World.cell? at this
                      have r1' : w.heap[rb]? = some (.cells c te (0, 0)) := r1
                      simp only [r1'] at this
                      exact this
                    obtain ⟨w', g2, g3, g4⟩ := grow_sound (P := P) hI hb q1 r1 (v1.append v2) hone hold (by omega)
                    refine ⟨.slice (some ⟨rb, ao, none⟩) (n1 + n2) cap, w', _, ?_, g3, g4, ?_⟩
                    · rw [hrun]
                      simp only [abs_add]
                      rw [← b5, ← hl1, g2]
                      rfl
                    · have hrs : RowSz w' rb (ao + cap * P.cellsOf et) := g4.row rb _ ⟨c, te, (0, 0), r1, s2⟩
                      simp only [VR]
                      exact ⟨rfl, ver' + 1, some (rb, ao), by simp [kap, setP], Nat.le_refl _, fun _ => ⟨by omega, cap, ao, rfl, hfit, fun _ => rfl, hrs⟩⟩
                · -- it moves
                  obtain ⟨N, zs, hrun, hN, hzz⟩ := run_append_out (P := P) (w := w) (ty := ty) hq b3 hni hi hzi (ad := ad) l2 (fun w' hw => f2' w' hw) (fun w' hw => f1 w' hw) (by omega) (by omega) (by omega)
                  subst hzz
                  obtain ⟨m1, m2⟩ := move_sound (e := et) hI hb (v1.append v2) hone (hcontents _)
                  refine ⟨_, _, _, hrun, m1, m2, ?_⟩
                  simp only [VR]
                  exact ⟨rfl, ver' + 1, some (w.heap.size, 0), by simp [kap, setP], Nat.le_refl _, fun _ => ⟨by omega, N, 0, rfl, hN, fun _ => rfl, _, et, (0, 0), heap_last w.drew _, size_zeros hi hzs N 0 us1 us2 n1 n2 (by omega) (by omega) hN⟩⟩
              · cases hsl2
            · cases hsl2
          · cases h
        · cases h
      | sl full n cs =>
        cases full with
        | false => simp at h
        | true =>
          simp only at h
          split at h
          · rename_i hn
            cases h
            have hsl2 := hs1
            simp only [slc] at hsl2
            cases hsl2
            simp only [VR] at hu
            obtain ⟨ad', cap', hslice, q2, q3, q4, q5, us, q6, q7⟩ := hu
            rw [hsl] at hslice
            cases hslice
            subst hsl
            have hcn : cap = n1 := q3 trivial
            by_cases hfit : n1 + n2 ≤ cap
            · have hn2 : n2 = 0 := by omega
              subst hn2
              have hn1 : n1 = 0 := by omega
              subst hn1
              subst hcn
              have hrun := run_append_in (P := P) (w := w) (ty := ty) hq b3 hni (ad := ad) l2 (f2' w rfl) hfit
              rw [Nat.zero_mul] at b5 b6
              have e1 : us2 = [] := List.eq_nil_of_length_eq_zero (by omega)
              have e2 : cs2 = [] := List.eq_nil_of_length_eq_zero b6
              have e3 : cs1 = [] := List.eq_nil_of_length_eq_zero b5
              subst e1 e2 e3
              obtain ⟨m1, m2⟩ := empty_sound hI
              refine ⟨.slice ad 0 0, w, _, ?_, m1, m2, ?_⟩
              · rw [hrun]
                cases ad <;> rfl
              · simp only [VR]
                refine ⟨rfl, 0, none, by simp [kap, addP], Nat.le_refl _, fun _ => ⟨rfl, ad, rfl⟩⟩
            · obtain ⟨N, zs, hrun, hN, hzz⟩ := run_append_out (P := P) (w := w) (ty := ty) hq b3 hni hi hzi (ad := ad) l2 (fun w' hw => f2' w' hw) (fun w' hw => f1 w' hw) (by omega) (by omega) (by omega)
              subst hzz
              obtain ⟨d1, d2⟩ := same_sound (w' := w.drew) hI rfl rfl rfl rfl
              obtain ⟨m1, m2⟩ := alloc_sound (e := et) (c := us1.toArray ++ us2.toArray ++ Builtin.zeroCells zx.cells (N - (n1 + n2))) d1 ((v1.append v2).mono' d2) hone (hcontents _)
              refine ⟨_, _, _, hrun, m1, d2.trans m2, ?_⟩
              simp only [VR]
              exact ⟨rfl, 0, some (w.heap.size, 0), by simp [kap, addP], Nat.le_refl _, fun _ => ⟨by omega, N, 0, rfl, hN, fun _ => rfl, _, et, (0, 0), heap_last w.drew _, size_zeros hi hzs N 0 us1 us2 n1 n2 (by omega) (by omega) hN⟩⟩
          · cases h
      | _ => simp at h
    · rw [if_neg hc] at h; cases h
  · cases h
end
end Go.AI

/- The abstract interpreter: copy, len, maps. No conditions. -/
set_option linter.unusedVariables false
set_option linter.unusedSimpArgs false
namespace Go.AI
section
variable {P : Program} {K : Kx} {H : Heap} {p : Pl} {w : World}
def copyTo (ad : Option Addr) (us : List Value) : Sem Unit := match ad with | some a => storeCells a us | none => pure ()
theorem run_copy {t t2 ty e : TypeId} (hq : P.underlying t = some (.slice e)) (hse : 0 < P.cellsOf e) {ad : Option Addr} {n cap n2 : Nat} {v : Value} {us : List Value}
    (l2 : ∀ w', (Builtin.lenOf v).run P w' = .ok n2 w') (f2 : (Builtin.firstCells (P.cellsOf e) (min n2 n) v).run P w = .ok us.toArray w) :
    (Builtin.copy_ #[t, t2] ty #[.slice ad n cap, v]).run P w = ((copyTo ad us).run P w).andThen fun _ w' => .ok (goInt (min n2 n : Nat)) w' := by
  have hmin : Nat.min n2 n = min n2 n := rfl
  cases ad with
  | none => simp [Builtin.copy_, run_underlying hq, l2, run_sizeOf' hse, hmin, f2, copyTo]
  | some a => simp [Builtin.copy_, run_underlying hq, l2, run_sizeOf' hse, hmin, f2, copyTo]
theorem copyA_sound (hI : Inv K H p w) {t t2 ty : TypeId} {d x r : AV} {H' : Heap} (h : copyA P t d x H = some (r, H')) {u v : Value} (hu : VR (kap K H p w) d u) (hv : VR (kap K H p w) x v) :
    ∃ y w', (Builtin.copy_ #[t, t2] ty #[u, v]).run P w = .ok y w' ∧ Inv K H' p w' ∧ PK (kap K H p w) (kap K H' p w') ∧ VR (kap K H' p w') r y := by
  unfold copyA at h
  split at h
  · rename_i e b ver off n sz hq
    obtain ⟨⟨n2, cs2⟩, hs2, h⟩ := obind_eq h
    split at h
    · rename_i hc
      obtain ⟨c1, c2, hse⟩ := hc
      simp only at c1 c2
      obtain ⟨H2, hst, h⟩ := obind_eq h
      cases h
      obtain ⟨us2, v2, o2, l2, f2⟩ := sourceA_sound (P := P) hI hs2 hv
      have hl2 := v2.length
      have f2' := f2 (min n2 n) (P.cellsOf e) (Nat.min_le_left _ _) (by rw [hl2, c2, c1]) w rfl
      unfold storeCellsA at hst
      split at hst
      · rename_i ver' cs hb
        split at hst
        · rename_i hcc
          obtain ⟨rfl, k2, k3⟩ := hcc
          cases hst
          simp only [VR] at hu
          obtain ⟨_, vv, xx, q1, q2, q3⟩ := hu
          obtain ⟨x', g1, g2⟩ := hI.blk _ _ hb
          have e1 := g1.symm.trans q1
          cases e1
          have q3' := q3 rfl
          have hd : ∃ ad cap, u = .slice ad n cap := by
            cases xx with
            | none => obtain ⟨rfl, ad, rfl, _⟩ := q3'; exact ⟨ad, 0, rfl⟩
            | some q => obtain ⟨_, cap, ao, rfl, _⟩ := q3'; exact ⟨_, cap, rfl⟩
          obtain ⟨ad, cap, rfl⟩ := hd
          dsimp only at k2 k3 ⊢
          · rw [run_copy (P := P) (w := w) (ty := ty) hq hse (ad := ad) l2 f2']
            cases xx with
            | none =>
              obtain ⟨rfl, ad', hslice⟩ := q3'
              cases hslice
              have hz : min n2 0 = 0 := Nat.min_zero _
              have hcs : cs = [] := g2
              subst hcs
              rw [hz, Nat.zero_mul, List.take_zero] at k2
              have hoff : off = 0 := by simp at k2; omega
              subst hoff
              have hsp2 : splice ([] : List AV) 0 [] = [] := rfl
              simp only [hz, Nat.zero_mul, List.take_zero, hsp2, kap_set_self hb]
              refine ⟨_, w, ?_, hI, PK.refl _, VR_v rfl⟩
              cases ad <;> rfl
            | some q =>
              obtain ⟨rb, o⟩ := q
              obtain ⟨hz0, cap', ao, hslice, m1, m2, m3⟩ := q3'
              cases hslice
              have hv2 : VRs (kap K H p w) (cs2.take (min n2 n * sz)) (us2.take (min n2 n * P.cellsOf e)) := by
                rw [← c1]; exact v2.take _
              obtain ⟨w', r1, r2, r3⟩ := write_sound (P := P) hI hb q1 k2 hv2 (fun y hy => o2 y (List.mem_of_mem_take hy))
              refine ⟨_, w', ?_, r2, r3, VR_v rfl⟩
              by_cases hn : 0 < n
              · rw [m2 hn]
                unfold copyTo
                simp only [r1]
                rfl
              · have hn0 : n = 0 := by omega
                subst hn0
                have hz : min n2 0 = 0 := Nat.min_zero _
                rw [hz, Nat.zero_mul, List.take_zero] at r1 ⊢
                have : w' = w := by
                  simp only [storeCells, Sem.run_pure] at r1
                  cases r1; rfl
                subst this
                rfl
        · cases hst
      · cases hst
    · cases h
  · cases h
theorem lenA_sound (hI : Inv K H p w) {t ty : TypeId} {x y r : AV} (h1 : refA H x = some y) (h : lenA P t y H = some r) {u : Value} (hu : VR (kap K H p w) x u) :
    ∃ z, VR (kap K H p w) r z ∧ (Builtin.len_ #[t] ty #[u]).run P w = .ok z w := by
  have := refA_sound h1
  subst this
  unfold lenA at h
  split at h
  · rename_i s hq
    cases h; cases hu.v_eq
    exact ⟨_, VR_v rfl, by simp [Builtin.len_, run_underlying hq, goInt]⟩
  · rename_i e full n cs hq
    cases h
    simp only [VR] at hu
    obtain ⟨ad, cap, rfl, _⟩ := hu
    exact ⟨_, VR_v rfl, by simp [Builtin.len_, run_underlying hq, goInt]⟩
  · rename_i e b ver off n sz hq
    cases h
    obtain ⟨_, x, hp, hm, _⟩ := refA_ms hI h1 hu
    cases x with
    | none =>
      obtain ⟨rfl, ad, rfl, _⟩ := hm
      exact ⟨_, VR_v rfl, by simp [Builtin.len_, run_underlying hq, goInt]⟩
    | some q =>
      obtain ⟨_, cap, ao, rfl, _⟩ := hm
      exact ⟨_, VR_v rfl, by simp [Builtin.len_, run_underlying hq, goInt]⟩
  · rename_i kt et b hq
    split at h
    · rename_i es hb
      cases h
      obtain ⟨rb, ents, clock, g1, g2, g3⟩ := hI.blk _ _ hb
      simp only [VR] at hu
      obtain ⟨_, v, x, q1, q2⟩ := hu
      have e1 := g1.symm.trans q1
      cases e1
      obtain ⟨rb', e2, rfl⟩ := q2 rfl
      cases e2
      have hl : ∀ {es : List (AV × AV)} {xs : List MapEntry}, EntR (kap K H p w) es xs → xs.length = es.length := by
        intro es
        induction es with
        | nil => intro xs h; cases h; rfl
        | cons a r ih =>
          intro xs h
          obtain ⟨e, s, rfl, _, _, h3⟩ := h
          simp [ih h3]
      have := hl g3
      have g2' : w.heap[rb]? = some (.map ents clock) := g2
      refine ⟨_, VR_v rfl, ?_⟩
      simp only [Builtin.len_, List.getElem?_toArray, List.getElem?_cons_zero, Sem.run_bind, run_underlying hq, Result.andThen_ok, getObj, Sem.run, g2', goInt]
      simp at this
      simp [this]
    · cases h
  · cases h
end

/-! ### Keys of maps -/
section
variable {P : Program} {κ : Kap}
theorem bytes_eq {a b : ByteArray} (h : (a == b) = true) : a = b := by
  rw [beq_toListBytes, ByteArray.toList_eq, ByteArray.toList_eq] at h
  have h2 : a.data.toList = b.data.toList := eq_of_beq h
  obtain ⟨a⟩ := a
  obtain ⟨b⟩ := b
  exact congrArg _ (Array.ext' h2)
theorem cellEq_val {kd : TypeDesc} {x y : AV} (h : cellEq kd x y = some true) {u v : Value} (hu : VR κ x u) (hv : VR κ y v) : u = v := by
  unfold cellEq at h
  split at h
  · split at h
    · rename_i hk; cases hu.v_eq; cases hv.v_eq; subst hk; simp at h; rw [h]
    · cases h
  · cases hu.v_eq; cases hv.v_eq; simp at h; rw [h]
  · cases hu.v_eq; cases hv.v_eq; simp at h; rw [bytes_eq h]
  · cases h
theorem cellsEq_val : ∀ {ks : List TypeDesc} {as bs : List AV} {us vs : List Value}, cellsEq ks as bs = some true → VRs κ as us → VRs κ bs vs → us = vs
  | [], [], [], us, vs, h, hu, hv => by rw [hu.nil_eq, hv.nil_eq]
  | k :: ks, x :: r, y :: s, us, vs, h, hu, hv => by
    simp only [cellsEq] at h
    obtain ⟨b1, h1, h⟩ := obind_eq h
    obtain ⟨b2, h2, h⟩ := obind_eq h
    simp at h
    obtain ⟨rfl, rfl⟩ := h
    obtain ⟨u, us', rfl, hu1, hu2⟩ := hu.uncons
    obtain ⟨v, vs', rfl, hv1, hv2⟩ := hv.uncons
    rw [cellEq_val h1 hu1 hv1, cellsEq_val h2 hu2 hv2]
  | [], _ :: _, _, _, _, h, _, _ => by simp [cellsEq] at h
  | [], [], _ :: _, _, _, h, _, _ => by simp [cellsEq] at h
  | _ :: _, [], _, _, _, h, _, _ => by simp [cellsEq] at h
  | _ :: _, _ :: _, [], _, _, h, _, _ => by simp [cellsEq] at h
theorem aeq_val {t : TypeId} {x y : AV} (h : aeq P t x y = some true) {u v : Value} (hu : VR κ x u) (hv : VR κ y v) : u = v := by
  unfold aeq at h
  split at h
  · obtain ⟨ks, hk, h⟩ := obind_eq h
    simp only [VR] at hu hv
    obtain ⟨us, rfl, hu, _⟩ := hu
    obtain ⟨vs, rfl, hv, _⟩ := hv
    rw [cellsEq_val h hu hv]
  · obtain ⟨k, hk, h⟩ := obind_eq h
    exact cellEq_val h hu hv
theorem sameNow_eq {t : TypeId} {d : TypeDesc} (hd : P.underlying t = some d) {x y : AV} {b b' : Bool} (h : aeq P t x y = some b) {u v : Value} (hu : VR κ x u) (hv : VR κ y v) (h' : Instr.sameNow d u v = some b') : b' = b := by
  unfold aeq at h
  split at h
  · simp only [VR] at hu hv
    obtain ⟨us, rfl, hu, _⟩ := hu
    obtain ⟨vs, rfl, hv, _⟩ := hv
    cases d <;> cases h'
  · obtain ⟨k, hk, h2⟩ := obind_eq h
    clear h
    unfold basicT at hk
    rw [hd] at hk
    unfold cellEq at h2
    split at h2
    · cases hu.v_eq; cases hv.v_eq
      split at h2
      · rename_i hkk
        subst hkk
        cases h2
        cases d <;> simp [Instr.sameNow] at h' hk <;> exact h'.symm
      · cases h2
    · cases hu.v_eq; cases hv.v_eq
      cases h2
      cases d <;> simp [Instr.sameNow] at h' hk <;> exact h'.symm
    · cases hu.v_eq; cases hv.v_eq
      cases h2
      cases d <;> simp [Instr.sameNow] at h' hk <;> exact h'.symm
    · cases h2
/-- The first entry with this key: its place and its value. -/
def hitA (P : Program) (t : TypeId) (k : AV) : Nat → List (AV × AV) → Option (Option (Nat × AV))
  | _, [] => some none
  | i, (k', x) :: r => obind (aeq P t k k') fun b => if b then some (some (i, x)) else hitA P t k (i + 1) r
def HitR (κ : Kap) : Option (Nat × AV) → Option (Nat × Value) → Prop
  | none, none => True
  | some (i, x), some (j, v) => i = j ∧ VR κ x v
  | _, _ => False
theorem findNow_sound {t : TypeId} {d : TypeDesc} (hd : P.underlying t = some d) {k : AV} {u : Value} (hu : VR κ k u) : ∀ (es : List (AV × AV)) (xs : List MapEntry) (i : Nat) (r : Option (Nat × AV)) (r' : Option (Nat × Value)),
    hitA P t k i es = some r → EntR κ es xs → Instr.findNow d u xs i = some r' → HitR κ r r'
  | [], xs, i, r, r', h, hx, h' => by
    cases hx; cases h
    simp only [Instr.findNow] at h'
    cases h'
    trivial
  | (k', x) :: es, xs, i, r, r', h, hx, h' => by
    obtain ⟨e, s, rfl, hk, hv, hr⟩ := hx
    simp only [hitA] at h
    obtain ⟨b, hb, h⟩ := obind_eq h
    simp only [Instr.findNow] at h'
    split at h'
    · rename_i hs
      have := sameNow_eq hd hb hu hk hs
      subst this
      simp at h h'
      subst h h'
      exact ⟨rfl, hv⟩
    · rename_i hs
      have := sameNow_eq hd hb hu hk hs
      subst this
      simp at h
      exact findNow_sound hd hu es s (i + 1) r r' h hr h'
    · cases h'
theorem findAsking_sound {t : TypeId} {k : AV} {u : Value} (hu : VR κ k u) (w : World) : ∀ (es : List (AV × AV)) (xs : List MapEntry) (i : Nat) (r : Option (Nat × AV)),
    hitA P t k i es = some r → EntR κ es xs → ∃ r', (Instr.findAsking t u xs i).run P w = .ok r' w ∧ HitR κ r r'
  | [], xs, i, r, h, hx => by
    cases hx; cases h
    exact ⟨none, rfl, trivial⟩
  | (k', x) :: es, xs, i, r, h, hx => by
    obtain ⟨e, s, rfl, hk, hv, hr⟩ := hx
    simp only [hitA] at h
    obtain ⟨b, hb, h⟩ := obind_eq h
    have he := run_aeq (P := P) hb hu hk w
    cases b
    · simp at h
      obtain ⟨r', h1, h2⟩ := findAsking_sound hu w es s (i + 1) r h hr
      exact ⟨r', by simp only [Instr.findAsking, Sem.run_bind, he, Result.andThen_ok, Bool.false_eq_true, if_false]; exact h1, h2⟩
    · simp at h
      subst h
      exact ⟨some (i, e.val), by simp [Instr.findAsking, he], rfl, hv⟩
theorem findKey_sound {t : TypeId} {d : TypeDesc} (hd : P.underlying t = some d) {k : AV} {u : Value} (hu : VR κ k u) (w : World) {es : List (AV × AV)} {xs : List MapEntry} {r : Option (Nat × AV)}
    (h : hitA P t k 0 es = some r) (hx : EntR κ es xs) : ∃ r', (Instr.findKey t u xs).run P w = .ok r' w ∧ HitR κ r r' := by
  simp only [Instr.findKey, Sem.run_bind, run_underlying hd, Result.andThen_ok]
  cases hf : Instr.findNow d u xs 0 with
  | some r' => exact ⟨r', rfl, findNow_sound hd hu es xs 0 r r' h hx hf⟩
  | none => exact findAsking_sound hu w es xs 0 r h hx
theorem findA_hit {t : TypeId} {k : AV} : ∀ (es : List (AV × AV)) (i : Nat) (r : Option AV), findA P t k es = some r → ∃ q, hitA P t k i es = some q ∧ r = q.map (·.2)
  | [], i, r, h => by cases h; exact ⟨none, rfl, rfl⟩
  | (k', x) :: es, i, r, h => by
    simp only [findA] at h
    obtain ⟨b, hb, h⟩ := obind_eq h
    cases b
    · simp at h
      obtain ⟨q, h1, h2⟩ := findA_hit es (i + 1) r h
      exact ⟨q, by simp [hitA, hb, obind_some, h1], h2⟩
    · simp at h
      subst h
      exact ⟨some (i, x), by simp [hitA, hb, obind_some], rfl⟩
end
end Go.AI

/- The abstract interpreter: maps; all operations but calls. No conditions. -/
set_option linter.unusedVariables false
set_option linter.unusedSimpArgs false
namespace Go.AI
section
variable {P : Program} {κ : Kap}
theorem checkKey_basic {t : TypeId} {kd : TypeDesc} (ht : basicT P t = some kd) (u : Value) (em : Bool) (n : Nat) (w : World) : (Instr.checkKey em (n + 1) t u).run P w = .ok () w := by
  unfold basicT at ht
  split at ht <;> first
    | (cases ht; done)
    | (rename_i hq; simp [Instr.checkKey, run_underlying hq])
theorem checkKey_arr {e : TypeId} {kd : TypeDesc} (he : basicT P e = some kd) (d : TypeDesc) (hd : P.underlying e = some d) (hs : P.cellsOf e = 1) (em : Bool) (m : Nat) (xs : Array Value) : ∀ (n k : Nat), k + n ≤ xs.size → ∀ (w : World),
    ((forIn (m := Sem) (List.range' k n) (() : Unit) fun i r => do
        let s ← sizeOf e
        let a ← part e xs (i * s)
        Instr.checkKey em (m + 1) e a
        pure (.yield ())).run P w = .ok () w) := by
  intro n
  induction n with
  | zero => intro k h w; simp
  | succ n ih =>
    intro k h w
    have hk : k < xs.size := by omega
    rw [List.range'_succ, List.forIn_cons]
    simp only [Sem.run_bind, run_sizeOf hd, hs, Nat.mul_one, Result.andThen_ok, basicT_part he xs k xs[k] (Array.getElem?_eq_getElem hk), checkKey_basic he, Sem.run_pure]
    have := ih (k + 1) (by omega) w
    exact this
theorem cellsEq_len : ∀ {ks : List TypeDesc} {as bs : List AV} {b : Bool}, cellsEq ks as bs = some b → as.length = ks.length ∧ bs.length = ks.length
  | [], [], [], b, h => ⟨rfl, rfl⟩
  | k :: ks, x :: r, y :: s, b, h => by
    simp only [cellsEq] at h
    obtain ⟨b1, h1, h⟩ := obind_eq h
    obtain ⟨b2, h2, h⟩ := obind_eq h
    obtain ⟨g1, g2⟩ := cellsEq_len h2
    simp [g1, g2]
  | [], _ :: _, _, _, h => by simp [cellsEq] at h
  | [], [], _ :: _, _, h => by simp [cellsEq] at h
  | _ :: _, [], _, _, h => by simp [cellsEq] at h
  | _ :: _, _ :: _, [], _, h => by simp [cellsEq] at h
theorem checkKey_fields {cs : Array Value} (em : Bool) (m : Nat) : ∀ (fs : List Field) (i : Nat) (ks : List TypeDesc), kindsF P i fs = some ks → i + ks.length ≤ cs.size → ∀ (w : World),
    ((forIn (m := Sem) fs (() : Unit) fun f r => do
        if f.name ≠ "_" then
          let a ← part f.type cs f.offset
          Instr.checkKey em (m + 1) f.type a
          pure (.yield ())
        else pure (.yield ())).run P w = .ok () w)
  | [], i, ks, h, hl, w => by simp
  | f :: fs, i, ks, h, hl, w => by
    unfold kindsF at h
    split at h
    · rename_i hc
      obtain ⟨rfl, hn⟩ := hc
      obtain ⟨kd, hkd, h⟩ := obind_eq h
      obtain ⟨ks', hks, h⟩ := obind_eq h
      cases h
      simp only [List.length_cons] at hl
      have hk : f.offset < cs.size := by omega
      rw [List.forIn_cons]
      simp only [hn, ne_eq, not_false_eq_true, if_true, Sem.run_bind, basicT_part hkd cs _ cs[f.offset] (Array.getElem?_eq_getElem hk), Result.andThen_ok, checkKey_basic hkd, Sem.run_pure]
      exact checkKey_fields em m fs (f.offset + 1) ks' hks (by omega) w
    · cases h
theorem run_checkKey2 {t : TypeId} {k : AV} {b : Bool} (h : aeq P t k k = some b) {u : Value} (hu : VR κ k u) (em : Bool) (m : Nat) {m' : Nat} (hm : m' = m + 1) (w : World) : (Instr.checkKey em (m' + 1) t u).run P w = .ok () w := by
  unfold aeq at h
  split at h
  · obtain ⟨ks, hk, h⟩ := obind_eq h
    simp only [VR] at hu
    obtain ⟨us, rfl, hu, _⟩ := hu
    have hl := (cellsEq_len h).1
    have hul := hu.length
    unfold kindsT at hk
    split at hk
    · rename_i n e hq
      split at hk
      · rename_i hs
        obtain ⟨kd, hkd, hk⟩ := obind_eq hk
        cases hk
        obtain ⟨d, hd⟩ := cells_of_arr hkd
        have := checkKey_arr hkd d hd hs em m us.toArray n 0 (by simp at hl; simp; omega) w
        rw [← hm] at this
        simp only [Instr.checkKey, Sem.run_bind, run_underlying hq, Result.andThen_ok, Std.Legacy.Range.forIn_eq_forIn_range', Std.Legacy.Range.size, Nat.sub_zero, Nat.add_one_sub_one, Nat.div_one]
        exact (congrArg (fun r : Result Unit => r.andThen fun _ w' => Sem.run P (pure ()) w') this).trans rfl
      · cases hk
    · rename_i fs hq
      split at hk
      · cases hk
      · have := checkKey_fields (cs := us.toArray) em m fs.toList 0 ks hk (by simp; omega) w
        rw [← hm] at this
        simp only [Instr.checkKey, Sem.run_bind, run_underlying hq, Result.andThen_ok]
        rw [← Array.forIn_toList]
        exact (congrArg (fun r : Result Unit => r.andThen fun _ w' => Sem.run P (pure ()) w') this).trans rfl
    · cases hk
  · obtain ⟨kd, hk, h⟩ := obind_eq h
    exact checkKey_basic hk u em _ w
theorem run_checkKey {t : TypeId} {k : AV} (h : keyOk P t k = true) {u : Value} (hu : VR κ k u) (em : Bool) (w : World) : (Instr.checkKey em 10000 t u).run P w = .ok () w := by
  unfold keyOk at h
  split at h
  · rename_i h'
    exact run_checkKey2 h' hu em 9998 (m' := 9999) rfl w
  · cases h
theorem keyOk_under {t : TypeId} {k : AV} (h : keyOk P t k = true) : ∃ d, P.underlying t = some d := by
  unfold keyOk at h
  split at h
  · rename_i h'
    unfold aeq at h'
    split at h'
    · obtain ⟨ks, hk, _⟩ := obind_eq h'
      unfold kindsT at hk
      cases hq : P.underlying t with
      | none => rw [hq] at hk; cases hk
      | some d => exact ⟨d, rfl⟩
    · obtain ⟨kd, hk, _⟩ := obind_eq h'
      exact cells_of_arr hk
  · cases h
end
section
variable {P : Program} {K : Kx} {H : Heap} {p : Pl} {w : World}
theorem mm_at (hI : Inv K H p w) {b : Nat} {es : List (AV × AV)} (hb : H[b]? = some (.map es)) {u : Value} (hu : VR (kap K H p w) (.mm b) u) :
    ∃ rb ents clock, p b = some (0, some (rb, 0)) ∧ u = .map (some rb) ∧ w.heap[rb]? = some (.map ents clock) ∧ EntR (kap K H p w) es ents.toList := by
  obtain ⟨rb, ents, clock, g1, g2, g3⟩ := hI.blk _ _ hb
  simp only [VR] at hu
  obtain ⟨_, v, x, q1, q2⟩ := hu
  have e1 := g1.symm.trans q1
  cases e1
  obtain ⟨rb', e2, rfl⟩ := q2 rfl
  cases e2
  exact ⟨rb, ents, clock, g1, rfl, g2, g3⟩
theorem lookupA_sound (hI : Inv K H p w) {t : TypeId} {m k r : AV} {ok : Bool} (h : lookupA P t m k ok H = some r) {u v : Value} (hu : VR (kap K H p w) m u) (hv : VR (kap K H p w) k v) :
    ∃ y, VR (kap K H p w) r y ∧ (Instr.lookup t u v ok).run P w = .ok y w := by
  unfold lookupA at h
  split at h
  · rename_i kt et b hq
    split at h
    · rename_i es hb
      split at h
      · rename_i hk
        obtain ⟨rr, hr, h⟩ := obind_eq h
        obtain ⟨rb, ents, clock, g1, rfl, g2, g3⟩ := mm_at hI hb hu
        obtain ⟨d, hd⟩ := keyOk_under hk
        obtain ⟨q, hq1, hq2⟩ := findA_hit es 0 rr hr
        obtain ⟨r', f1, f2⟩ := findKey_sound (P := P) hd hv w hq1 g3
        have hck := run_checkKey (P := P) hk hv ents.isEmpty w
        have hobj : (getObj rb).run P w = .ok (.map ents clock) w := by simp [getObj, Sem.run, g2]
        have hpre : ∀ z : Sem Value, True := fun _ => trivial
        cases q with
        | none =>
          cases r' with
          | some x => exact f2.elim
          | none =>
            simp at hq2
            subst hq2
            simp only at h
            obtain ⟨z, hz, h⟩ := obind_eq h
            obtain ⟨zx, i, hi, hzi, rfl, hcst, hrun⟩ := run_zeroT hz
            cases h
            cases ok
            · exact ⟨zx, VR_val hcst, by simp [Instr.lookup, run_underlying hq, hobj, hck, f1, hrun]⟩
            · refine ⟨.tuple #[zx, .bool false], ?_, by simp [Instr.lookup, run_underlying hq, hobj, hck, f1, hrun]⟩
              simp only [if_true, VR]
              exact ⟨[zx, .bool false], rfl, .cons (VR_val hcst) (.cons (VR_v rfl) .nil)⟩
        | some q =>
          obtain ⟨i, x⟩ := q
          cases r' with
          | none => exact f2.elim
          | some r' =>
            obtain ⟨j, y⟩ := r'
            obtain ⟨rfl, hxy⟩ := f2
            simp at hq2
            subst hq2
            simp only at h
            cases h
            cases ok
            · exact ⟨y, hxy, by simp [Instr.lookup, run_underlying hq, hobj, hck, f1]⟩
            · refine ⟨.tuple #[y, .bool true], ?_, by simp [Instr.lookup, run_underlying hq, hobj, hck, f1]⟩
              simp only [if_true, VR]
              exact ⟨[y, .bool true], rfl, .cons hxy (.cons (VR_v rfl) .nil)⟩
      · cases h
    · cases h
  · cases h
/-- A map block gets new entries. -/
theorem map_sound (hI : Inv K H p w) {b rb clock clock' : Nat} {es es' : List (AV × AV)} {ents ents' : Array MapEntry} (hb : H[b]? = some (.map es)) (hp : p b = some (0, some (rb, 0))) (hr : w.heap[rb]? = some (.map ents clock))
    (he : EntR (kap K H p w) es' ents'.toList) {w' : World} (hw : w'.heap = w.heap.setIfInBounds rb (.map ents' clock')) (ho : w'.os = w.os) (ht : w'.tape = w.tape) (hu : w'.output = w.output) :
    Inv K (H.set b (.map es')) p w' ∧ PK (kap K H p w) (kap K (H.set b (.map es')) p w') := by
  have hbl : b < H.length := (List.getElem?_eq_some_iff.1 hb).1
  have hrl : rb < w.heap.size := (Array.getElem?_eq_some_iff.1 hr).1
  have hL : LiveAt H p b rb := ⟨_, _, _, hb, rfl, hp⟩
  have main := Inv.chg (b := b) (H' := H.set b (.map es')) (p' := p) (w' := w') hI
    (fun i hi => by rw [List.getElem?_set_ne (Ne.symm hi)]) (by simp) (fun i hi => by simp at hi; exact .inl hi) (fun i hi => rfl)
    (fun v x h => ⟨v, x, h, .inl ⟨rfl, rfl⟩⟩)
    (fun rb' hl => by
      obtain ⟨x, v, o2, q1, q2, q3⟩ := hl
      exact .inl ⟨_, v, o2, hb, rfl, q3⟩)
    (fun v rb' o' h => .inl ⟨v, o', hbl, h⟩)
    (fun h => by simp at h; omega)
    (fun i hi hn => by
      rw [hw, Array.getElem?_setIfInBounds_ne]
      intro e; subst e; exact hn hL)
    (by rw [hw]; simp)
    (fun i k hl hr' => by
      obtain ⟨x, v, o2, q1, q2, q3⟩ := hl
      have : i = rb := by
        have := q3.symm.trans hp
        cases this; rfl
      subst this
      obtain ⟨c2, e2, fr2, r1, r2⟩ := hr'
      rw [hr] at r1; cases r1)
    ho ht hu (fun a => by
      by_cases h : a.block = rb
      · simp only [World.frozen?, h, hr, hw, Array.getElem?_setIfInBounds_self_of_lt hrl]
      · simp only [World.frozen?, hw, Array.getElem?_setIfInBounds_ne (Ne.symm h)])
  refine ⟨main.2 fun x hx => ?_, main.1⟩
  rw [List.getElem?_set_self hbl] at hx
  cases hx
  exact ⟨rb, ents', clock', hp, by show w'.heap[rb]? = _; rw [hw]; simp [hrl], he.mono main.1⟩
theorem EntR.push {κ : Kap} {k x : AV} {u v : Value} (hk : VR κ k u) (hx : VR κ x v) (n : Nat) : ∀ {es : List (AV × AV)} {xs : List MapEntry}, EntR κ es xs → EntR κ (es ++ [(k, x)]) (xs ++ [⟨u, v, n⟩])
  | [], xs, h => by cases h; exact ⟨_, _, rfl, hk, hx, rfl⟩
  | (k', x') :: r, xs, h => by
    obtain ⟨e, s, rfl, h1, h2, h3⟩ := h
    exact ⟨e, s ++ [⟨u, v, n⟩], rfl, h1, h2, EntR.push hk hx n h3⟩
theorem EntR.put {κ : Kap} {k x : AV} {u v : Value} (hk : VR κ k u) (hx : VR κ x v) : ∀ {es : List (AV × AV)} {xs : List MapEntry} (i : Nat), EntR κ es xs → EntR κ (es.set i (k, x)) (xs.modify i fun e => { e with key := u, val := v })
  | [], xs, i, h => by cases h; simp; exact rfl
  | (k', x') :: r, xs, 0, h => by
    obtain ⟨e, s, rfl, h1, h2, h3⟩ := h
    exact ⟨{ e with key := u, val := v }, s, by simp, hk, hx, h3⟩
  | (k', x') :: r, xs, i + 1, h => by
    obtain ⟨e, s, rfl, h1, h2, h3⟩ := h
    exact ⟨e, _, by simp, h1, h2, EntR.put hk hx i h3⟩
theorem EntR.at {κ : Kap} : ∀ {es : List (AV × AV)} {xs : List MapEntry} (i : Nat) (k x : AV), EntR κ es xs → es[i]? = some (k, x) → ∃ e, xs[i]? = some e ∧ VR κ k e.key
  | [], xs, i, k, x, h, hi => by simp at hi
  | (k', x') :: r, xs, 0, k, x, h, hi => by
    obtain ⟨e, s, rfl, h1, h2, h3⟩ := h
    simp at hi
    obtain ⟨rfl, rfl⟩ := hi
    exact ⟨e, rfl, h1⟩
  | (k', x') :: r, xs, i + 1, k, x, h, hi => by
    obtain ⟨e, s, rfl, h1, h2, h3⟩ := h
    simp at hi
    simpa using EntR.at i k x h3 hi
theorem updA_hit {t : TypeId} {k x : AV} : ∀ (es es' : List (AV × AV)) (i : Nat), updA P t k x es = some es' →
    ∃ q, hitA P t k i es = some q ∧ match q with
      | none => es' = es ++ [(k, x)]
      | some (j, y) => ∃ k', i ≤ j ∧ es[j - i]? = some (k', y) ∧ aeq P t k k' = some true ∧ es' = es.set (j - i) (k, x)
  | [], es', i, h => by cases h; exact ⟨none, rfl, rfl⟩
  | (k', x') :: es, es', i, h => by
    simp only [updA] at h
    obtain ⟨b, hb, h⟩ := obind_eq h
    cases b
    · simp only [Bool.false_eq_true, if_false] at h
      obtain ⟨r', h2, h⟩ := obind_eq h
      cases h
      obtain ⟨q, h1, h2⟩ := updA_hit es r' (i + 1) h2
      refine ⟨q, by simp [hitA, hb, obind_some, h1], ?_⟩
      cases q with
      | none => simp only at h2 ⊢; rw [h2]; rfl
      | some q =>
        obtain ⟨j, y⟩ := q
        simp only at h2 ⊢
        obtain ⟨k2, g1, g2, g3, g4⟩ := h2
        have e1 : j - i = (j - (i + 1)) + 1 := by omega
        exact ⟨k2, by omega, by rw [e1]; simpa using g2, g3, by rw [e1, g4]; rfl⟩
    · simp only [if_true] at h
      cases h
      exact ⟨some (i, x'), by simp [hitA, hb, obind_some], k', Nat.le_refl _, by simp, hb, by simp⟩
theorem mapUpdateA_sound (hI : Inv K H p w) {t : TypeId} {m k x : AV} {H' : Heap} (h : mapUpdateA P t m k x H = some H') {u v y : Value} (hu : VR (kap K H p w) m u) (hv : VR (kap K H p w) k v) (hy : VR (kap K H p w) x y) :
    ∃ w', (Instr.mapUpdate t u v y).run P w = .ok () w' ∧ Inv K H' p w' ∧ PK (kap K H p w) (kap K H' p w') := by
  unfold mapUpdateA at h
  split at h
  · rename_i kt et b hq
    split at h
    · rename_i es hb
      split at h
      · rename_i hk
        obtain ⟨es', hes, h⟩ := obind_eq h
        cases h
        obtain ⟨rb, ents, clock, g1, rfl, g2, g3⟩ := mm_at hI hb hu
        obtain ⟨d, hd⟩ := keyOk_under hk
        obtain ⟨q, hq1, hq2⟩ := updA_hit es es' 0 hes
        obtain ⟨r', f1, f2⟩ := findKey_sound (P := P) hd hv w hq1 g3
        have hck := run_checkKey (P := P) hk hv false w
        have hobj : (getObj rb).run P w = .ok (.map ents clock) w := by simp [getObj, Sem.run, g2]
        have hset : ∀ (w' : World) o, w'.heap = w.heap → (setObj rb o).run P w' = .ok () { w' with heap := w'.heap.setIfInBounds rb o } := by
          intro w' o hw
          simp [setObj, Sem.run, hw, g2]
        cases q with
        | none =>
          cases r' with
          | some x => exact f2.elim
          | none =>
            simp only at hq2
            subst hq2
            obtain ⟨n1, n2⟩ := map_sound (clock' := clock + 1) hI hb g1 g2 (ents' := ents.push ⟨v, y, clock⟩) (by simpa using EntR.push hv hy clock g3) (w' := { w with heap := w.heap.setIfInBounds rb (.map (ents.push ⟨v, y, clock⟩) (clock + 1)) }) rfl rfl rfl rfl
            exact ⟨_, by simp [Instr.mapUpdate, run_underlying hq, hobj, hck, f1, hset w _ rfl], n1, n2⟩
        | some q =>
          obtain ⟨i, z⟩ := q
          cases r' with
          | none => exact f2.elim
          | some r' =>
            obtain ⟨j, zz⟩ := r'
            obtain ⟨rfl, hxy⟩ := f2
            simp only at hq2
            obtain ⟨k', _, hget, hke, rfl⟩ := hq2
            rw [Nat.sub_zero] at hget ⊢
            obtain ⟨e, he1, he2⟩ := EntR.at i k' z g3 hget
            have hkey : v = e.key := aeq_val hke hv he2
            have hold : ((ents[i]?).map (·.key)).getD v = v := by
              rw [Array.getElem?_toList] at he1
              rw [he1]
              exact hkey.symm
            have hstay : ∃ w', (Instr.keyThatStays v v).run P w = .ok v w' ∧ (w' = w ∨ w' = w.drew) := by
              unfold Instr.keyThatStays
              by_cases hsb : Instr.sameBits 10000 v v = true
              · exact ⟨w, by simp [hsb], .inl rfl⟩
              · refine ⟨w.drew, ?_, .inr rfl⟩
                simp [hsb, Question.forced]
            obtain ⟨w1, hst1, hst2⟩ := hstay
            have hh : w1.heap = w.heap := by rcases hst2 with rfl | rfl <;> rfl
            have hr2 : (Instr.mapUpdate t (.map (some rb)) v y).run P w = .ok () { w1 with heap := w1.heap.setIfInBounds rb (.map (ents.modify i fun e => { e with key := v, val := y }) clock) } := by
              simp only [Instr.mapUpdate, Sem.run_bind, run_underlying hq, Result.andThen_ok, hobj, hck, f1, hold, hst1, hset w1 _ hh]
            obtain ⟨n1, n2⟩ := map_sound (clock' := clock) hI hb g1 g2 (ents' := ents.modify i fun e => { e with key := v, val := y }) (by
              have := EntR.put hv hy i g3
              simpa using this) (w' := { w1 with heap := w1.heap.setIfInBounds rb (.map (ents.modify i fun e => { e with key := v, val := y }) clock) }) (by rw [hh])
              (by rcases hst2 with rfl | rfl <;> rfl) (by rcases hst2 with rfl | rfl <;> rfl) (by rcases hst2 with rfl | rfl <;> rfl)
            exact ⟨_, hr2, n1, n2⟩
      · cases h
    · cases h
  · cases h
end
end Go.AI

/- The abstract interpreter: calls. Conditions: the callee's contract. -/
set_option linter.unusedVariables false
set_option linter.unusedSimpArgs false
namespace Go.AI
section
variable {P : Program} {K : Kx} {H : Heap} {p : Pl} {w : World}
theorem freeze_sound (hI : Inv K H p w) {b : Nat} {x : AB} (hb : H[b]? = some x) : Inv K (H.set b x.freeze) p w ∧ PK (kap K H p w) (kap K (H.set b x.freeze) p w) := by
  have hbl : b < H.length := (List.getElem?_eq_some_iff.1 hb).1
  have main := Inv.chg (b := b) (H' := H.set b x.freeze) (p' := p) (w' := w) hI
    (fun i hi => by rw [List.getElem?_set_ne (Ne.symm hi)]) (by simp) (fun i hi => by simp at hi; exact .inl hi) (fun i hi => rfl)
    (fun v x h => ⟨v, x, h, .inl ⟨rfl, rfl⟩⟩)
    (fun rb' hl => by
      obtain ⟨y, v, o2, q1, q2, q3⟩ := hl
      rw [List.getElem?_set_self hbl] at q1
      cases q1
      cases x with
      | cells l v cs => cases q2
      | map es => exact .inl ⟨_, v, o2, hb, rfl, q3⟩)
    (fun v rb' o' h => .inl ⟨v, o', hbl, h⟩)
    (fun h => by simp at h; omega)
    (fun i hi hn => rfl) (Nat.le_refl _) (fun i k hl hr => hr) rfl rfl rfl (fun _ => rfl)
  refine ⟨main.2 fun y hy => ?_, main.1⟩
  rw [List.getElem?_set_self hbl] at hy
  cases hy
  have hB := hI.blk b x hb
  cases x with
  | cells l v cs =>
    obtain ⟨x, h1, h2⟩ := hB
    refine ⟨x, h1, ?_⟩
    cases x with
    | none => exact h2
    | some q =>
      obtain ⟨rb, o⟩ := q
      obtain ⟨c, e, fr, us, r1, r2, r3, r4, r5⟩ := h2
      exact ⟨c, e, fr, us, r1, r2.mono' main.1, r3, r4, fun h => by cases h⟩
  | map es =>
    obtain ⟨rb, ents, clock, h1, h2, h3⟩ := hB
    exact ⟨rb, ents, clock, h1, h2, h3.mono main.1⟩
theorem mark_sound : ∀ (bs : List Nat) {H : Heap}, Inv K H p w → Inv K (markA H bs) p w ∧ PK (kap K H p w) (kap K (markA H bs) p w) ∧ (markA H bs).length = H.length ∧
    ∀ b rb, LiveAt (markA H bs) p b rb → LiveAt H p b rb ∧ (b ∈ bs → ¬ CellB H b)
  | [], H, hI => ⟨hI, PK.refl _, rfl, fun b rb h => ⟨h, fun hb => by cases hb⟩⟩
  | b :: bs, H, hI => by
    cases hx : H[b]? with
    | none =>
      obtain ⟨h1, h2, h3, h4⟩ := mark_sound bs hI
      have he : markA H (b :: bs) = markA H bs := by simp [markA, hx]
      rw [he]
      refine ⟨h1, h2, h3, fun i rb hl => ⟨(h4 i rb hl).1, fun hi => ?_⟩⟩
      rcases List.mem_cons.1 hi with rfl | hi
      · rintro ⟨l, v, cs, hc⟩
        rw [hx] at hc; cases hc
      · exact (h4 i rb hl).2 hi
    | some x =>
      have he : markA H (b :: bs) = markA (H.set b x.freeze) bs := by simp [markA, hx]
      rw [he]
      have hbl : b < H.length := (List.getElem?_eq_some_iff.1 hx).1
      obtain ⟨f1, f2⟩ := freeze_sound hI hx
      obtain ⟨h1, h2, h3, h4⟩ := mark_sound bs f1
      refine ⟨h1, f2.trans h2, by rw [h3]; simp, fun i rb hl => ?_⟩
      obtain ⟨g1, g2⟩ := h4 i rb hl
      obtain ⟨y, v, o, q1, q2, q3⟩ := g1
      by_cases hib : i = b
      · subst hib
        rw [List.getElem?_set_self hbl] at q1
        cases q1
        cases x with
        | cells l v cs => cases q2
        | map es =>
          refine ⟨⟨_, v, o, hx, rfl, q3⟩, fun _ => ?_⟩
          rintro ⟨l, v, cs, hc⟩
          rw [hx] at hc; cases hc
      · rw [List.getElem?_set_ne (Ne.symm hib)] at q1
        refine ⟨⟨y, v, o, q1, q2, q3⟩, fun hi => ?_⟩
        rcases List.mem_cons.1 hi with rfl | hi
        · exact absurd rfl hib
        · rintro ⟨l, v', cs, hc⟩
          exact g2 hi ⟨l, v', cs, by rw [List.getElem?_set_ne (Ne.symm hib)]; exact hc⟩
/-- What was there is as it was; there may be more. -/
theorem frame_sound (hI : Inv K H p w) {w' : World} (hb : ∀ i, i < w.heap.size → w'.heap[i]? = w.heap[i]?) (hs : w.heap.size ≤ w'.heap.size) (ho : w'.os = w.os) (ht : w'.tape = w.tape) (hu : w'.output = w.output) (hfr : ∀ a, w'.frozen? a = w.frozen? a) :
    Inv K H p w' ∧ PK (kap K H p w) (kap K H p w') := by
  have main := Inv.chg (b := H.length) (H' := H) (p' := p) (w' := w') hI (fun i hi => rfl) (Nat.le_refl _) (fun i hi => .inl hi) (fun i hi => rfl)
    (fun v x h => ⟨v, x, h, .inl ⟨rfl, rfl⟩⟩) (fun rb hl => .inl hl) (fun v rb o h => by rw [hI.dom _ (Nat.le_refl _)] at h; cases h) (fun h => hI.dom _ h)
    (fun i hi hn => hb i hi) hs (fun i k hl hr => by
      obtain ⟨c, e, fr, r1, r2⟩ := hr
      exact ⟨c, e, fr, by rw [hb i (Array.getElem?_eq_some_iff.1 r1).1]; exact r1, r2⟩) ho ht hu hfr
  exact ⟨main.2 fun x hx => by simp at hx, main.1⟩
theorem VRs.isV {κ κ' : Kap} : ∀ {cs : List AV} {us : List Value}, cs.all AV.isV = true → VRs κ cs us → VRs κ' cs us
  | [], us, h, hv => by rw [hv.nil_eq]; exact .nil
  | x :: r, us, h, hv => by
    simp only [List.all_cons, Bool.and_eq_true] at h
    obtain ⟨u, s, rfl, hu, hr⟩ := hv.uncons
    cases x with
    | v y =>
      simp only [VR] at hu
      exact .cons (by simp only [VR]; exact hu) (hr.isV h.2)
    | _ => cases h.1
theorem VR.scalar1 {κ κ' : Kap} {x : AV} {u : Value} (h : x.scalar1 = true) (hu : VR κ x u) : VR κ' x u := by
  cases x with
  | v y => simp only [VR] at hu ⊢; exact hu
  | ag cs =>
    simp only [VR] at hu ⊢
    obtain ⟨us, rfl, h2, h3⟩ := hu
    exact ⟨us, rfl, h2.isV h, h3⟩
  | _ => cases h
theorem VRs.scalar1 {κ κ' : Kap} : ∀ {cs : List AV} {us : List Value}, cs.all AV.scalar1 = true → VRs κ cs us → VRs κ' cs us
  | [], us, h, hv => by rw [hv.nil_eq]; exact .nil
  | x :: r, us, h, hv => by
    simp only [List.all_cons, Bool.and_eq_true] at h
    obtain ⟨u, s, rfl, hu, hr⟩ := hv.uncons
    exact .cons (hu.scalar1 h.1) (hr.scalar1 h.2)
theorem VR.scalar {κ κ' : Kap} {x : AV} {u : Value} (h : x.scalar = true) (hu : VR κ x u) : VR κ' x u := by
  cases x with
  | tu vs =>
    simp only [VR] at hu ⊢
    obtain ⟨us, rfl, h2⟩ := hu
    exact ⟨us, rfl, h2.scalar1 h⟩
  | v y => exact VR.scalar1 h hu
  | ag cs => exact VR.scalar1 h hu
  | _ => cases h

/-- What a call comes to. -/
def Entry (P : Program) (f : FuncId) : Prop := ∃ fn, P.funcs[f]? = some fn ∧ fn.body.isNone = false ∧ (fn.name == "runtime.NumGoroutine") = false
def CallOk (c : Cfg) (f : FuncId) (args : List AV) (H : Heap) (r : AV) (H' : Heap) : Prop :=
  Entry c.P f ∧ (c.shared f = false → r.good = true) ∧
  ∀ (K : Kx) (p : Pl) (w : World) (cargs : List Value), Inv K H p w → VRs (kap K H p w) args cargs →
    Calls c.P f cargs.toArray w fun e w' => ∃ u p', e = .returned u ∧ Inv K H' p' w' ∧ PK (kap K H p w) (kap K H' p' w') ∧ VR (kap K H' p' w') r u
/-- Every answer of C is the program's. -/
def SoundC (c : Cfg) (C : Cl) : Prop := ∀ f args H r H', C f args H = some (r, H') → CallOk c f args H r H'
theorem noP_inv {K : Kx} {w : World} (hf : ∀ b, K.F b → b < w.heap.size) (he : Ext K w) : Inv K [] (fun _ => none) w :=
  ⟨fun b x h => by simp at h, fun b b' v o v' o' rb h => by simp at h, fun b v o rb h => by simp at h, fun b rb h => by obtain ⟨x, v, o, h, _⟩ := h; simp at h, hf, he, fun _ _ => rfl⟩
theorem callA_entry {c : Cfg} {C : Cl} (hC : SoundC c C) {f : FuncId} {args : List AV} {r : AV} {H' : Heap} (h : callA c C f args H = some (r, H')) : Entry c.P f := by
  unfold callA at h
  split at h
  · exact (hC f args H r H' h).1
  · obtain ⟨⟨args', bs⟩, hcl, h⟩ := obind_eq h
    obtain ⟨⟨r0, H0⟩, hr, h⟩ := obind_eq h
    exact (hC f args' [] r0 H0 hr).1
theorem callA_sound {c : Cfg} {C : Cl} (hC : SoundC c C) (hI : Inv K H p w) {f : FuncId} {args : List AV} {r : AV} {H' : Heap} (h : callA c C f args H = some (r, H')) {cargs : List Value} (hv : VRs (kap K H p w) args cargs) :
    Calls c.P f cargs.toArray w fun e w' => ∃ u p', e = .returned u ∧ Inv K H' p' w' ∧ PK (kap K H p w) (kap K H' p' w') ∧ VR (kap K H' p' w') r u := by
  unfold callA at h
  split at h
  · exact (hC f args H r H' h).2.2 K p w cargs hI hv
  · rename_i hsh
    have hsh' : c.shared f = false := by simpa using hsh
    obtain ⟨⟨args', bs⟩, hcl, h⟩ := obind_eq h
    obtain ⟨⟨r0, H0⟩, hr, h⟩ := obind_eq h
    obtain ⟨g1, g2, g3, g4, g5⟩ := mapC_sound (closeA_sound hI depthA) _ _ _ _ hcl hv
    obtain ⟨_, hgood, hcall⟩ := hC f args' [] r0 H0 hr
    have hgood' := hgood hsh'
    let K' : Kx := ⟨fun rb => Avo K H p rb ∧ ∀ b ∈ bs, ∀ v o, p b ≠ some (v, some (rb, o)), fun _ => False, w⟩
    have hI' : Inv K' [] (fun _ => none) w := noP_inv (fun b hb => avo_lt hI hb.1) ⟨rfl, rfl, rfl, Nat.le_refl _, fun _ _ _ => rfl, fun _ => rfl⟩
    have hA : ∀ rb, (kap K' [] (fun _ => none) w).A rb → Avo K H p rb ∧ ∀ b ∈ bs, ∀ v o, p b ≠ some (v, some (rb, o)) := by
      intro rb hrb
      rcases hrb with hrb | ⟨b, x, v, o, q1, _⟩
      · exact hrb
      · simp at q1
    refine (hcall K' (fun _ => none) w cargs hI' (g5 _ rfl hA)).mono fun e w2 ⟨u, p'', he, hI2, hk2, hu2⟩ => ?_
    have hext := hI2.ext
    obtain ⟨f1, f2⟩ := frame_sound hI (w' := w2) (fun i hi => hext.block i hi (fun h => h)) hext.size hext.os hext.tape hext.output hext.froz
    cases bs with
    | nil =>
      simp only at h
      cases h
      have hpg : PG (kap K' H0 p'' w2) (kap K H p w2) := ⟨fun a u _ hc => hc, fun b hb => .inl (.inl ⟨hb, fun b hb => by cases hb⟩)⟩
      exact ⟨u, p, he, f1, f2, VR.goodM hpg _ u (.inl hgood') hu2⟩
    | cons b0 bs =>
      simp only at h
      split at h
      · rename_i hs
        cases h
        exact ⟨u, p, he, f1, f2, hu2.scalar hs⟩
      · cases h
        obtain ⟨m1, m2, m3, m4⟩ := mark_sound (b0 :: bs) f1
        have hpg : PG (kap K' H0 p'' w2) (kap K (markA H (b0 :: bs)) p w2) := by
          refine ⟨fun a u _ hc => hc, fun b hb => .inl (.inl ?_)⟩
          rcases hb with hb | ⟨i, hi⟩
          · refine ⟨.inl hb, fun i hi v o hp => ?_⟩
            obtain ⟨l, vv, cs, hc⟩ := g4 i hi
            exact hI.dis i v o b (List.getElem?_eq_some_iff.1 hc).1 hp hb
          · obtain ⟨n1, n2⟩ := m4 i b hi
            refine ⟨.inr ⟨i, n1⟩, fun j hj v o hp => ?_⟩
            obtain ⟨l, vv, cs, hc⟩ := g4 j hj
            obtain ⟨x, v', o', q1, q2, q3⟩ := n1
            have : i = j := hI.inj i j _ _ _ _ b (List.getElem?_eq_some_iff.1 q1).1 (List.getElem?_eq_some_iff.1 hc).1 q3 hp
            subst this
            exact n2 hj (g4 i hj)
        exact ⟨u, p, he, m1, f2.trans m2, VR.goodM hpg _ u (.inl hgood') hu2⟩
end
end Go.AI

/- The abstract interpreter: one operation. Conditions: the callees' contracts. -/
set_option linter.unusedVariables false
set_option linter.unusedSimpArgs false
namespace Go.AI
section
variable {K : Kx} {H : Heap} {p : Pl} {w : World}
/-- A new map. -/
theorem newMap_sound (hI : Inv K H p w) : Inv K (H ++ [.map []]) (addP p H.length (some (w.heap.size, 0))) (w.alloc (.map #[] 0)) ∧
    PK (kap K H p w) (kap K (H ++ [.map []]) (addP p H.length (some (w.heap.size, 0))) (w.alloc (.map #[] 0))) := by
  have hp0 : p H.length = none := hI.dom _ (Nat.le_refl _)
  have main := Inv.chg (b := H.length) (H' := H ++ [.map []]) (p' := addP p H.length (some (w.heap.size, 0))) (w' := w.alloc (.map #[] 0)) hI
    (fun i hi => by rw [get_push, if_neg hi]) (by simp) (fun i hi => by simp at hi; omega) (fun i hi => by simp [addP, hi])
    (fun v x h => by rw [hp0] at h; cases h)
    (fun rb hl => by
      obtain ⟨x, v, o, q1, q2, q3⟩ := hl
      simp [addP] at q3
      exact .inr q3.2.1.symm)
    (fun v rb o h => by simp [addP] at h; exact .inr h.2.1.symm)
    (fun h => absurd h (by simp))
    (fun i hi hn => RowKit.Below.heap_alloc w _ i hi)
    (by simp)
    (fun i k hl hr => by
      obtain ⟨x, v, o, q1, q2, q3⟩ := hl
      rw [hp0] at q3; cases q3)
    rfl rfl rfl (fun a => RowKit.frozen?_alloc_map w _ _ a)
  refine ⟨main.2 fun x hx => ?_, main.1⟩
  rw [get_push, if_pos rfl] at hx
  cases hx
  exact ⟨w.heap.size, #[], 0, by simp [kap, addP], heap_last w _, rfl⟩
/-- What an operation's walk asks for. -/
def After (K : Kx) (H : Heap) (p : Pl) (w : World) (H1 : Heap) (x : AV) (u : Value) (w' : World) : Prop :=
  ∃ p', Inv K H1 p' w' ∧ PK (kap K H p w) (kap K H1 p' w') ∧ VR (kap K H1 p' w') x u
theorem After.same (hI : Inv K H p w) {x : AV} {u : Value} (h : VR (kap K H p w) x u) : After K H p w H x u w := ⟨p, hI, PK.refl _, h⟩
theorem wp_value {P : Program} {o : Oper} {a : Act} {next : Act → World → Prop} {Q : Exit → Act → World → Prop} {H1 : Heap} {x : AV}
    (hn : ∀ u w', After K H p w H1 x u w' → next (a.put o.dst u) w') {u : Value} {w' : World} (he : (execOp a.eval o).run P w = .ok (.value u) w') (ha : After K H p w H1 x u w') : o.wp P a w next Q := by
  unfold Oper.wp
  rw [he]
  exact hn u w' ha
theorem wp_skipv {P : Program} {o : Oper} {a : Act} {next : Act → World → Prop} {Q : Exit → Act → World → Prop} {H1 : Heap}
    (hn : ∀ u w', After K H p w H1 (.tu []) u w' → next (a.put o.dst u) w') {w' : World} (he : (execOp a.eval o).run P w = .ok .skip w') (ha : ∃ p', Inv K H1 p' w' ∧ PK (kap K H p w) (kap K H1 p' w')) : o.wp P a w next Q := by
  unfold Oper.wp
  rw [he]
  obtain ⟨p', h1, h2⟩ := ha
  refine hn undef w' ⟨p', h1, h2, ?_⟩
  simp only [VR]
  exact ⟨[], rfl, .nil⟩
theorem run_enter {P : Program} {f : FuncId} (h : Entry P f) (args : Array Value) (w : World) : (callFunc f args).run P w = .ok (.enter f args) w := by
  obtain ⟨fn, h1, h2, h3⟩ := h
  simp [callFunc, h1, h2, h3]
  rw [if_neg (by simpa using h3)]
  simp
  intro hb
  simp [hb] at h2
theorem info_of_cells {P : Program} {t : TypeId} (h : 0 < P.cellsOf t) : ∃ i, P.info? t = some i := by
  unfold Program.cellsOf at h
  cases hi : P.info? t with
  | none => rw [hi] at h; simp at h
  | some i => exact ⟨i, rfl⟩
theorem opt_sound {g : G} {a : Act} {κ : Kap} (hE : EnvR κ g a) {o : Option Operand} {x : Option AV} (h : aevO g o = some x) : OptR κ x (o.map a.eval) := by
  cases o with
  | none => cases h; rfl
  | some o =>
    obtain ⟨y, hy, h⟩ := obind_eq h
    cases h
    exact ⟨_, rfl, aev_sound hE hy⟩
theorem builtin_sound (hI : Inv K H p w) {c : Cfg} {b : Builtin} {ats : Array TypeId} {args : List AV} {r : AV} {H1 : Heap} (h : builtinA c b ats args H = some (r, H1)) (ty : TypeId) (cs : Array Bool) {us : List Value} (hv : VRs (kap K H p w) args us) :
    ∃ u w', (builtin b ats ty cs us.toArray).run c.P w = .ok (.value u) w' ∧ After K H p w H1 r u w' := by
  unfold builtinA at h
  split at h
  · rename_i t x h0
    obtain ⟨y, hy, h⟩ := obind_eq h
    obtain ⟨z, hz, h⟩ := obind_eq h
    cases h
    obtain ⟨u, s, rfl, hu, hs⟩ := hv.uncons
    cases hs.nil_eq
    obtain ⟨v, hv1, hv2⟩ := lenA_sound (ty := ty) hI hy hz hu
    refine ⟨v, w, ?_, .same hI hv1⟩
    have e : Builtin.len_ ats ty #[u] = Builtin.len_ #[t] ty #[u] := by
      unfold Builtin.len_
      rw [h0]
      rfl
    simp only [builtin]
    have : (Builtin.len_ ats ty #[u]).run c.P w = .ok v w := by
      rw [e, hv2]
    simp [this]
  · rename_i t s x h0
    split at h
    · rename_i t2 h1
      split at h
      · rename_i hni
        obtain ⟨u, s', rfl, hu, hs⟩ := hv.uncons
        obtain ⟨v, s2, rfl, hv', hs2⟩ := hs.uncons
        cases hs2.nil_eq
        obtain ⟨y, w', p', g1, g2, g3, g4⟩ := appendA_sound (ty := ty) hI hni h hu hv'
        refine ⟨y, w', ?_, p', g2, g3, g4⟩
        have e : Builtin.append_ ats ty #[u, v] = Builtin.append_ #[t, t2] ty #[u, v] := by
          unfold Builtin.append_
          rw [h0, h1]
          rfl
        have : (Builtin.append_ ats ty #[u, v]).run c.P w = .ok y w' := by
          rw [e, g1]
        simp only [builtin]
        simp [this]
      · cases h
    · cases h
  · rename_i t d x h0
    obtain ⟨u, s', rfl, hu, hs⟩ := hv.uncons
    obtain ⟨v, s2, rfl, hv', hs2⟩ := hs.uncons
    cases hs2.nil_eq
    obtain ⟨y, w', g1, g2, g3, g4⟩ := copyA_sound (t2 := 0) (ty := ty) hI h hu hv'
    refine ⟨y, w', ?_, p, g2, g3, g4⟩
    have e : Builtin.copy_ ats ty #[u, v] = Builtin.copy_ #[t, 0] ty #[u, v] := by
      unfold Builtin.copy_
      rw [h0]
      rfl
    have : (Builtin.copy_ ats ty #[u, v]).run c.P w = .ok y w' := by
      rw [e, g1]
    simp only [builtin]
    simp [this]
  · rename_i x y _
    obtain ⟨z, hz, h⟩ := obind_eq h
    cases h
    obtain ⟨u, s', rfl, hu, hs⟩ := hv.uncons
    obtain ⟨v, s2, rfl, hv', hs2⟩ := hs.uncons
    cases hs2.nil_eq
    unfold max2A at hz
    split at hz
    · cases hz
      cases hu.v_eq; cases hv'.v_eq
      exact ⟨_, w, by simp [builtin, Builtin.max_, Builtin.max2], .same hI (VR_v rfl)⟩
    · cases hz
  · rename_i x y _
    obtain ⟨z, hz, h⟩ := obind_eq h
    cases h
    obtain ⟨u, s', rfl, hu, hs⟩ := hv.uncons
    obtain ⟨v, s2, rfl, hv', hs2⟩ := hs.uncons
    cases hs2.nil_eq
    unfold min2A at hz
    split at hz
    · cases hz
      cases hu.v_eq; cases hv'.v_eq
      exact ⟨_, w, by simp [builtin, Builtin.min_, Builtin.min2], .same hI (VR_v rfl)⟩
    · cases hz
  · cases h
theorem opw {c : Cfg} {C : Cl} {g : G} {a : Act} {o : Oper} {x : AV} {H1 : Heap} (hC : SoundC c C) (h : aop c C o.op g H = some (x, H1)) (hI : Inv K H p w) (hE : EnvR (kap K H p w) g a)
    {next : Act → World → Prop} {Q : Exit → Act → World → Prop} (hn : ∀ u w', After K H p w H1 x u w' → next (a.put o.dst u) w') : o.wp c.P a w next Q := by
  unfold aop at h
  split at h
  · rename_i y ho
    obtain ⟨b, hb, h⟩ := obind_eq h
    cases h
    exact wp_value hn (by simp [execOp, ho]) (.same hI (aev_sound hE hb))
  · rename_i y ho
    obtain ⟨b, hb, h⟩ := obind_eq h
    have hv := aev_sound hE hb
    unfold assignA at h
    split at h
    · cases h
      obtain ⟨q1, q2⟩ := empty_sound hI
      exact wp_value hn (by simp [execOp, ho]) ⟨_, q1, q2, VR_empty hv⟩
    · cases h
      exact wp_value hn (by simp [execOp, ho]) (.same hI hv)
  · rename_i t y z ho
    obtain ⟨b, hb, h⟩ := obind_eq h
    obtain ⟨y', hy, h⟩ := obind_eq h
    obtain ⟨z', hz, h⟩ := obind_eq h
    obtain ⟨r, hr, h⟩ := obind_eq h
    cases h
    obtain ⟨v, hv, he⟩ := pickA_sound (P := c.P) hr (aev_sound hE hb) (aev_sound hE hy) (aev_sound hE hz) w
    exact wp_value hn (by simpa only [execOp, ho] using he) (.same hI hv)
  · rename_i t ho
    obtain ⟨z, hz, h⟩ := obind_eq h
    split at h
    · rename_i hc
      cases h
      obtain ⟨zx, i, hi, hzi, rfl, hcst, hrun⟩ := run_zeroT hz
      obtain ⟨f1, f2⟩ := (VR_val (κ := kap K H p w) hcst).flat hc
      obtain ⟨p', q1, q2, q3⟩ := newVarA_sound hI f1 f2 t
      refine wp_value hn (u := .pointer (some ⟨w.heap.size, 0, none⟩)) (w' := w.alloc (.cells zx.cells t)) ?_ ⟨p', by rw [Array.toArray_toList] at q1; exact q1, by rw [Array.toArray_toList] at q2; exact q2, by rw [Array.toArray_toList] at q3; exact q3⟩
      simp [execOp, ho, Instr.alloc, hrun, newVar, newRow]
    · cases h
  · rename_i t y ho
    obtain ⟨z, hz, h⟩ := obind_eq h
    split at h
    · rename_i hc
      cases h
      obtain ⟨f1, f2⟩ := (aev_sound hE hz).flat hc
      obtain ⟨p', q1, q2, q3⟩ := newVarA_sound hI f1 f2 t
      refine wp_value hn (u := .pointer (some ⟨w.heap.size, 0, none⟩)) (w' := w.alloc (.cells (a.eval y).cells t)) ?_ ⟨p', by rw [Array.toArray_toList] at q1; exact q1, by rw [Array.toArray_toList] at q2; exact q2, by rw [Array.toArray_toList] at q3; exact q3⟩
      simp [execOp, ho, Instr.box, newVar, newRow]
    · cases h
  · rename_i t ps ho
    obtain ⟨qs, hq, h⟩ := obind_eq h
    obtain ⟨r, hr, h⟩ := obind_eq h
    cases h
    obtain ⟨y, hy, he⟩ := abuild_sound (w := w) (vs := ps.map fun (i, x) => (i, a.eval x)) hr (by simpa using evP_parts hE hq)
    exact wp_value hn (by simp [execOp, ho, he]) (.same hI hy)
  · rename_i t n ps ho
    obtain ⟨qs, hq, h⟩ := obind_eq h
    split at h
    · obtain ⟨y, w', p', he, q1, q2, q3⟩ := buildOwnA_sound hI (vs := ps.map fun (i, x) => (i, a.eval x)) h (by simpa using evP_parts hE hq)
      exact wp_value hn (by simp [execOp, ho, he]) ⟨p', q1, q2, q3⟩
    · obtain ⟨r, hr, h⟩ := obind_eq h
      cases h
      obtain ⟨y, w', he, q1, q2, q3⟩ := abuildSlice_sound hI (vs := ps.map fun (i, x) => (i, a.eval x)) hr (by simpa using evP_parts hE hq)
      exact wp_value hn (by simp [execOp, ho, he]) ⟨p, q1, q2, q3⟩
  · rename_i t y ho
    obtain ⟨z, hz, h⟩ := obind_eq h
    obtain ⟨r, hr, h⟩ := obind_eq h
    cases h
    obtain ⟨v, he, hv⟩ := loadA_sound hI hr (aev_sound hE hz)
    exact wp_value hn (by simp [execOp, ho, he]) (.same hI hv)
  · rename_i t y z ho
    obtain ⟨y', hy, h⟩ := obind_eq h
    obtain ⟨z', hz, h⟩ := obind_eq h
    split at h
    · rename_i hpos
      obtain ⟨H', hs, h⟩ := obind_eq h
      cases h
      obtain ⟨w', he, q1, q2⟩ := storeA_sound hI hs (aev_sound hE hy) (aev_sound hE hz) (info_of_cells hpos)
      exact wp_skipv hn (by simp [execOp, ho, he]) ⟨p, q1, q2⟩
    · cases h
  · rename_i y ho
    obtain ⟨y', hy, h⟩ := obind_eq h
    obtain ⟨y2, hy2, h⟩ := obind_eq h
    obtain ⟨r, hr, h⟩ := obind_eq h
    cases h
    obtain ⟨q1, q2⟩ := nilCheckA_sound (P := c.P) hI hy2 hr (aev_sound hE hy) a y rfl
    have he := q2 o.dst o.type o.pos o.after o.guard
    rw [← ho] at he
    exact wp_value hn he (.same hI q1)
  · rename_i op t y z t2 ho
    obtain ⟨y', hy, h⟩ := obind_eq h
    obtain ⟨z', hz, h⟩ := obind_eq h
    obtain ⟨r, hr, h⟩ := obind_eq h
    cases h
    obtain ⟨v, hv, he⟩ := abin_sound hr (aev_sound hE hy) (aev_sound hE hz) y z w
    refine wp_value hn (u := v) ?_ (.same hI hv)
    simp only [execOp, ho]
    rw [Sem.run_bind, he]
    rfl
  · rename_i op t y ho
    obtain ⟨y', hy, h⟩ := obind_eq h
    obtain ⟨r, hr, h⟩ := obind_eq h
    cases h
    obtain ⟨v, hv, he⟩ := aun_sound (P := c.P) hr (aev_sound hE hy) w
    exact wp_value hn (by simp [execOp, ho, he]) (.same hI hv)
  · rename_i s d y ho
    obtain ⟨y', hy, h⟩ := obind_eq h
    obtain ⟨r, hr, h⟩ := obind_eq h
    cases h
    obtain ⟨v, hv, he⟩ := aconv_sound hr (aev_sound hE hy) w
    exact wp_value hn (by simp [execOp, ho, he]) (.same hI hv)
  · rename_i f fs cs ho
    split at h
    · rename_i f' h1
      obtain ⟨xs, hxs, h⟩ := obind_eq h
      cases h
      have hv := aevs_sound hE hxs
      have hfs : fs = #[] := by simpa using h1
      subst hfs
      refine wp_value hn (u := .func (.func f') #[] (cs.map a.eval)) (by simp [execOp, ho, Instr.makeFunc]) (.same hI ?_)
      simp only [VR]
      exact ⟨_, by simp [← Array.toList_map], hv⟩
    · cases h
  · rename_i t r ho
    split at h
    · cases h
      obtain ⟨q1, q2⟩ := newMap_sound hI
      refine wp_value hn (u := .map (some w.heap.size)) (w' := w.alloc (.map #[] 0)) (by simp [execOp, ho, Instr.makeMap]) ⟨_, q1, q2, ?_⟩
      simp only [VR]
      exact ⟨rfl, 0, some (w.heap.size, 0), by simp [kap, addP], fun _ => ⟨_, rfl, rfl⟩⟩
    · cases h
  · rename_i t l k ho
    obtain ⟨y', hy, h⟩ := obind_eq h
    obtain ⟨z', hz, h⟩ := obind_eq h
    obtain ⟨y, w', p', he, q1, q2, q3⟩ := makeSliceA_sound hI h (aev_sound hE hy) (aev_sound hE hz)
    exact wp_value hn (by simp [execOp, ho, he]) ⟨p', q1, q2, q3⟩
  · rename_i t y l hh ho
    obtain ⟨y', hy, h⟩ := obind_eq h
    obtain ⟨lo, hlo, h⟩ := obind_eq h
    obtain ⟨hi, hhi, h⟩ := obind_eq h
    obtain ⟨y2, hy2, h⟩ := obind_eq h
    obtain ⟨r, hr, h⟩ := obind_eq h
    cases h
    obtain ⟨v, hv, he⟩ := sliceArrA_sound hI hy2 hr (aev_sound hE hy) (opt_sound hE hlo) (opt_sound hE hhi)
    exact wp_value hn (by simp [execOp, ho, he]) (.same hI hv)
  · rename_i t y f ho
    obtain ⟨y', hy, h⟩ := obind_eq h
    obtain ⟨y2, hy2, h⟩ := obind_eq h
    obtain ⟨r, hr, h⟩ := obind_eq h
    cases h
    obtain ⟨v, hv, he⟩ := fieldAddrA_sound hI hy2 hr (aev_sound hE hy)
    exact wp_value hn (by simp [execOp, ho, he]) (.same hI hv)
  · rename_i t y f ho
    obtain ⟨y', hy, h⟩ := obind_eq h
    obtain ⟨r, hr, h⟩ := obind_eq h
    cases h
    obtain ⟨v, hv, he⟩ := fieldA_sound hr (aev_sound hE hy) w
    exact wp_value hn (by simp [execOp, ho, he]) (.same hI hv)
  · rename_i t y i ho
    obtain ⟨y', hy, h⟩ := obind_eq h
    obtain ⟨y2, hy2, h⟩ := obind_eq h
    obtain ⟨i', hi, h⟩ := obind_eq h
    obtain ⟨r, hr, h⟩ := obind_eq h
    cases h
    obtain ⟨v, hv, he⟩ := indexAddrA_sound hI hy2 hr (aev_sound hE hy) (aev_sound hE hi)
    exact wp_value hn (by simp [execOp, ho, he]) (.same hI hv)
  · rename_i t y i ho
    obtain ⟨y', hy, h⟩ := obind_eq h
    obtain ⟨i', hi, h⟩ := obind_eq h
    obtain ⟨r, hr, h⟩ := obind_eq h
    cases h
    obtain ⟨v, hv, he⟩ := indexA_sound hr (aev_sound hE hy) (aev_sound hE hi) w
    exact wp_value hn (by simp [execOp, ho, he]) (.same hI hv)
  · rename_i t m k ok ho
    obtain ⟨y', hy, h⟩ := obind_eq h
    obtain ⟨i', hi, h⟩ := obind_eq h
    obtain ⟨r, hr, h⟩ := obind_eq h
    cases h
    obtain ⟨v, hv, he⟩ := lookupA_sound hI hr (aev_sound hE hy) (aev_sound hE hi)
    exact wp_value hn (by simp [execOp, ho, he]) (.same hI hv)
  · rename_i t m k y ho
    obtain ⟨m', hm, h⟩ := obind_eq h
    obtain ⟨k', hk, h⟩ := obind_eq h
    obtain ⟨y', hy, h⟩ := obind_eq h
    obtain ⟨H', hs, h⟩ := obind_eq h
    cases h
    obtain ⟨w', he, q1, q2⟩ := mapUpdateA_sound hI hs (aev_sound hE hm) (aev_sound hE hk) (aev_sound hE hy)
    exact wp_skipv hn (by simp [execOp, ho, he]) ⟨p, q1, q2⟩
  · rename_i t m k y ho
    obtain ⟨m', hm, h⟩ := obind_eq h
    obtain ⟨k', hk, h⟩ := obind_eq h
    obtain ⟨y', hy, h⟩ := obind_eq h
    obtain ⟨H', hs, h⟩ := obind_eq h
    cases h
    obtain ⟨w', he, q1, q2⟩ := mapUpdateA_sound hI hs (aev_sound hE hm) (aev_sound hE hk) (aev_sound hE hy)
    exact wp_skipv hn (by simp [execOp, ho, he]) ⟨p, q1, q2⟩
  · rename_i y i ho
    obtain ⟨y', hy, h⟩ := obind_eq h
    obtain ⟨r, hr, h⟩ := obind_eq h
    cases h
    obtain ⟨v, hv, he⟩ := extractA_sound (P := c.P) hr (aev_sound hE hy) w
    exact wp_value hn (by simp [execOp, ho, he]) (.same hI hv)
  · rename_i k ho
    unfold callOpA at h
    obtain ⟨args, hargs, h⟩ := obind_eq h
    have hv := aevs_sound hE hargs
    split at h
    · rename_i b hk
      obtain ⟨u, w', he, ha⟩ := builtin_sound hI h o.type (k.args.map fun | .const _ => true | _ => false) hv
      refine wp_value hn ?_ ha
      simp only [execOp, ho, resolve, hk, Sem.run_bind, Sem.run_pure, Result.andThen_ok, invoke]
      rw [← he, ← Array.toList_map, Array.toArray_toList]
      rfl
    · rename_i f hk
      obtain ⟨x', hx, h⟩ := obind_eq h
      have hf := aev_sound hE hx
      split at h
      · rename_i f' caps
        simp only [VR] at hf
        obtain ⟨us, hf1, hf2⟩ := hf
        have hent := callA_entry hC h
        have hcall := callA_sound hC hI h (hv.append hf2)
        have he : (execOp a.eval o).run c.P w = .ok (.enter f' ((k.args.toList.map a.eval) ++ us).toArray) w := by
          simp only [execOp, ho, resolve, hk, Sem.run_bind, Sem.run_pure, Result.andThen_ok, hf1, Deferred.ofValue, invoke, run_enter hent]
          congr 2
          simp [← Array.toList_map]
        unfold Oper.wp
        rw [he]
        refine hcall.mono fun e w' ⟨u, p', h1, h2, h3, h4⟩ => ?_
        subst h1
        exact hn u w' ⟨p', h2, h3, h4⟩
      · cases h
    · cases h
  · cases h
end
end Go.AI

/- The abstract interpreter: the operations of a region, in the order of the text and in any order. Conditions: the callees' contracts; a check of the region's text. -/
set_option linter.unusedVariables false
set_option linter.unusedSimpArgs false
namespace Go.AI

def upd (g : G) (d : Option Nat) (x : AV) : G := match d with | some i => fun t => if t = i then some x else g t | none => g
theorem get_put (i : Nat) (x : AV) : ∀ (e : Env) (t : Nat), (e.put i x).get t = if t = i then some x else e.get t
  | [], t => by simp only [Env.put, Env.get, eq_comm]
  | (j, y) :: r, t => by
    simp only [Env.put]
    split
    · rename_i hj
      subst hj
      simp only [Env.get]
      by_cases h : t = j
      · subst h; simp
      · rw [if_neg (fun e => h e.symm), if_neg h, if_neg (fun e => h e.symm)]
    · rename_i hj
      split
      · simp only [Env.get]
        by_cases h : t = i
        · subst h; simp
        · rw [if_neg (fun e => h e.symm), if_neg h]
      · simp only [Env.get, get_put i x r t]
        by_cases h : t = i
        · subst h; simp [hj]
        · simp [h]
theorem get_putA (e : Env) (d : Option Nat) (x : AV) : (putA e d x).get = upd e.get d x := by
  cases d with
  | none => rfl
  | some i => funext t; exact get_put i x e t
theorem upd_comm (g : G) {d e : Option Nat} (x y : AV) (h : ∀ i, d = some i → e ≠ some i) : upd (upd g d x) e y = upd (upd g e y) d x := by
  cases d with
  | none => rfl
  | some i =>
    cases e with
    | none => rfl
    | some j =>
      have : j ≠ i := fun hh => h i rfl (by rw [hh])
      funext t
      simp only [upd]
      by_cases h1 : t = j
      · subst h1; simp [this]
      · simp [h1]

/-! ### One operation of a region -/
def stepG (c : Cfg) (C : Cl) (ops : Array Oper) (o : Oper) (g : G) (H : Heap) : Option (G × Heap) :=
  obind (wantA ops o g) fun t => if t then obind (aop c C o.op g H) fun q => some (upd g o.dst q.1, q.2) else some (upd g o.dst (.tu []), H)
def stepsG (c : Cfg) (C : Cl) (ops : Array Oper) : List Oper → G → Heap → Option (G × Heap)
  | [], g, H => some (g, H)
  | o :: r, g, H => obind (stepG c C ops o g H) fun s => stepsG c C ops r s.1 s.2
theorem aops_G {c : Cfg} {C : Cl} {ops : Array Oper} : ∀ {l : List Oper} {e : Env} {H : Heap} {e' : Env} {H' : Heap}, aops c C ops l e H = some (e', H') → stepsG c C ops l e.get H = some (e'.get, H')
  | [], e, H, e', H', h => by cases h; rfl
  | o :: r, e, H, e', H', h => by
    obtain ⟨t, ht, h⟩ := obind_eq h
    simp only [stepsG, stepG, ht, obind_some]
    cases t with
    | true =>
      simp only [if_true] at h ⊢
      obtain ⟨q, hq, h⟩ := obind_eq h
      rw [hq]
      simp only [obind_some]
      have := aops_G h
      rw [get_putA] at this
      exact this
    | false =>
      simp only [Bool.false_eq_true, if_false] at h ⊢
      have := aops_G h
      rw [get_putA] at this
      exact this

section
variable {K : Kx} {H : Heap} {p : Pl} {w : World}
theorem EnvR.upd {κ : Kap} {g : G} {a : Act} (hE : EnvR κ g a) {d : Option Nat} {x : AV} {u : Value} (hu : VR κ x u) (hd : ∀ i, d = some i → i < a.tmps.size) : EnvR κ (upd g d x) (a.put d u) := by
  cases d with
  | none => exact hE
  | some i =>
    intro t y ht
    simp only [AI.upd] at ht
    simp only [Act.put]
    split at ht
    · rename_i h
      subst h
      cases ht
      have : (a.tmps.setIfInBounds t u).getD t undef = u := by simp [hd t rfl]
      rw [this]; exact hu
    · rename_i h
      have : (a.tmps.setIfInBounds i u).getD t undef = a.tmps.getD t undef := by
        simp [Array.getElem?_setIfInBounds_ne (Ne.symm h)]
      rw [this]; exact hE t y ht
theorem want_sound {κ : Kap} {ops : Array Oper} {o : Oper} {g : G} {a : Act} {t : Bool} (h : wantA ops o g = some t) (hE : EnvR κ g a) : Region.wanted o (yielded ops a.tmps) = t := by
  unfold wantA at h
  unfold Region.wanted
  split at h
  · rename_i hg; rw [hg]; cases h; rfl
  · rename_i j want hg
    rw [hg]
    simp only
    unfold yielded
    split at h
    · cases h
    · rename_i d hd
      rw [hd]
      simp only [Option.bind_some]
      split at h
      · rename_i b hb
        cases h
        have := (hE d _ hb).v_eq
        have h2 : a.tmps[d]? = some (.bool b) := by
          cases h3 : a.tmps[d]? with
          | none => simp [h3, undef] at this
          | some y => simp [h3] at this; rw [this]
        rw [h2]
        simp
      · rename_i hb
        cases h
        have hu := hE d _ hb
        simp only [VR] at hu
        obtain ⟨us, h4, h5⟩ := hu
        cases h3 : a.tmps[d]? with
        | none => simp
        | some y =>
          simp [h3] at h4
          subst h4
          simp
      · cases h
/-- What one operation of a region does in the program. -/
theorem step_sound {c : Cfg} {C : Cl} {ops : Array Oper} {o : Oper} {g g' : G} {H' : Heap} {a : Act} (hC : SoundC c C) (h : stepG c C ops o g H = some (g', H')) (hI : Inv K H p w) (hE : EnvR (kap K H p w) g a)
    (hd : ∀ i, o.dst = some i → i < a.tmps.size) {next : Act → World → Prop} {Q : Exit → Act → World → Prop}
    (hn : ∀ a' w' p', Inv K H' p' w' → PK (kap K H p w) (kap K H' p' w') → EnvR (kap K H' p' w') g' a' → a'.tmps.size = a.tmps.size → a'.defers = a.defers → next a' w') :
    if Region.wanted o (yielded ops a.tmps) then o.wp c.P a w next Q ∨ (o.asks c.P a w ∧ LetsOut Q) else next (a.put o.dst undef) w := by
  have hsz : ∀ u, (a.put o.dst u).tmps.size = a.tmps.size := by
    intro u
    cases o.dst <;> simp [Act.put]
  have hdf : ∀ u, (a.put o.dst u).defers = a.defers := by
    intro u
    cases o.dst <;> simp [Act.put]
  obtain ⟨t, ht, h⟩ := obind_eq h
  have hw := want_sound ht hE
  cases t with
  | true =>
    simp only [if_true] at h
    obtain ⟨q, hq, h⟩ := obind_eq h
    cases h
    rw [if_pos hw]
    refine .inl (opw hC hq hI hE fun u w' ⟨p', h1, h2, h3⟩ => ?_)
    exact hn _ w' p' h1 h2 ((hE.mono h2).upd h3 hd) (hsz u) (hdf u)
  | false =>
    simp only [Bool.false_eq_true, if_false] at h
    cases h
    rw [if_neg (by rw [hw]; decide)]
    refine hn _ w p hI (PK.refl _) (hE.upd ?_ hd) (hsz _) (hdf _)
    simp only [VR]
    exact ⟨[], rfl, .nil⟩
theorem steps_sound {c : Cfg} {C : Cl} {ops : Array Oper} (hC : SoundC c C) {Q : Exit → Act → World → Prop} {n : Nat} : ∀ (l : List Oper) {g g' : G} {H H' : Heap} {p : Pl} {w : World} {a : Act},
    stepsG c C ops l g H = some (g', H') → Inv K H p w → EnvR (kap K H p w) g a → a.tmps.size = n → (∀ o ∈ l, ∀ i, o.dst = some i → i < n) →
    (∀ a' w' p', Inv K H' p' w' → PK (kap K H p w) (kap K H' p' w') → EnvR (kap K H' p' w') g' a' → a'.tmps.size = n → a'.defers = a.defers → Q .normal a' w') → wpList c.P ops Q l a w
  | [], g, g', H, H', p, w, a, h, hI, hE, hs, hd, hn => by cases h; exact hn a w p hI (PK.refl _) hE hs rfl
  | o :: r, g, g', H, H', p, w, a, h, hI, hE, hs, hd, hn => by
    obtain ⟨⟨g1, H1⟩, h1, h⟩ := obind_eq h
    unfold wpList
    refine step_sound hC h1 hI hE (fun i hi => by rw [hs]; exact hd o (by simp) i hi) fun a' w' p' i1 i2 i3 i4 i5 => ?_
    refine steps_sound hC r h i1 i3 (by rw [i4, hs]) (fun o' ho' => hd o' (by simp [ho'])) fun a2 w2 p2 j1 j2 j3 j4 j5 => ?_
    exact hn a2 w2 p2 j1 (i2.trans j2) j3 j4 (by rw [j5, i5])
end
end Go.AI

/- The abstract interpreter: which operations of a region may change places. No conditions. -/
set_option linter.unusedVariables false
set_option linter.unusedSimpArgs false
namespace Go.AI

/-! ### Heaps that differ only in what may still be written -/
def fr (H : Heap) : Heap := H.map AB.freeze
theorem freeze_freeze (x : AB) : x.freeze.freeze = x.freeze := by cases x <;> rfl
theorem fr_get (H : Heap) (b : Nat) : (fr H)[b]? = (H[b]?).map AB.freeze := by simp [fr]
theorem markA_get : ∀ (bs : List Nat) (H : Heap) (i : Nat), (markA H bs)[i]? = (H[i]?).map fun x => if bs.contains i then x.freeze else x
  | [], H, i => by simp [markA]
  | b :: bs, H, i => by
    simp only [markA]
    rw [markA_get bs]
    cases hb : H[b]? with
    | none =>
      simp only
      cases hi : H[i]? with
      | none => rfl
      | some x =>
        have : i ≠ b := by intro e; rw [e, hb] at hi; cases hi
        simp [this]
    | some y =>
      simp only
      have hbl : b < H.length := (List.getElem?_eq_some_iff.1 hb).1
      by_cases hib : i = b
      · subst hib
        rw [List.getElem?_set_self hbl, hb]
        simp [freeze_freeze]
      · rw [List.getElem?_set_ne (Ne.symm hib)]
        simp [hib]
theorem markA_fr (H : Heap) (bs : List Nat) : fr (markA H bs) = fr H := by
  apply List.ext_getElem?
  intro i
  rw [fr_get, fr_get, markA_get]
  cases H[i]? with
  | none => rfl
  | some x =>
    simp only [Option.map_some]
    split
    · rw [freeze_freeze]
    · rfl
theorem markA_comm (H : Heap) (as bs : List Nat) : markA (markA H as) bs = markA (markA H bs) as := by
  apply List.ext_getElem?
  intro i
  simp only [markA_get]
  cases H[i]? with
  | none => rfl
  | some x =>
    simp only [Option.map_some]
    by_cases h1 : i ∈ as <;> by_cases h2 : i ∈ bs <;> simp [h1, h2, freeze_freeze]
theorem slc_fr (H : Heap) (x : AV) : slc (fr H) x = slc H x := by
  cases x <;> simp only [slc]
  rename_i b ver off n sz
  rw [fr_get]
  cases H[b]? with
  | none => rfl
  | some y => cases y <;> rfl
theorem refA_fr (H : Heap) (x : AV) : refA (fr H) x = refA H x := by
  cases x <;> simp only [refA]
  · rename_i b ver off n sz
    rw [fr_get]
    cases H[b]? with
    | none => rfl
    | some y => cases y <;> rfl
  · rename_i b ver off
    rw [fr_get]
    cases H[b]? with
    | none => rfl
    | some y => cases y <;> rfl
theorem cellsAt_fr (H : Heap) (x : AV) : cellsAt (fr H) x = cellsAt H x := by
  cases x <;> simp only [cellsAt]
  rename_i b ver off
  rw [fr_get]
  cases H[b]? with
  | none => rfl
  | some y => cases y <;> rfl
theorem mapC_congr {f f' : AV → Option (AV × List Nat)} (h : ∀ x, f x = f' x) : ∀ l, mapC f l = mapC f' l
  | [] => rfl
  | x :: r => by simp only [mapC, h x, mapC_congr h r]
theorem closeA_fr (H : Heap) : ∀ k x, closeA k (fr H) x = closeA k H x
  | 0, x => rfl
  | k + 1, x => by
    have ih := mapC_congr (closeA_fr H k)
    cases x <;> simp only [closeA, ih]
    · rename_i b ver off n sz
      rw [fr_get]
      cases H[b]? with
      | none => rfl
      | some y => cases y <;> rfl
    · rename_i b ver off
      rw [fr_get]
      cases H[b]? with
      | none => rfl
      | some y => cases y <;> rfl
theorem lenA_fr (P : Program) (t : TypeId) (H : Heap) (x : AV) : lenA P t x (fr H) = lenA P t x H := by
  unfold lenA
  split <;> try rfl
  rename_i b _
  rw [fr_get]
  cases H[b]? with
  | none => rfl
  | some y => cases y <;> rfl
theorem lookupA_fr (P : Program) (t : TypeId) (H : Heap) (m k : AV) (ok : Bool) : lookupA P t m k ok (fr H) = lookupA P t m k ok H := by
  unfold lookupA
  split <;> try rfl
  rename_i b _
  rw [fr_get]
  cases H[b]? with
  | none => rfl
  | some y => cases y <;> rfl
theorem sliceArrA_fr (P : Program) (t : TypeId) (H : Heap) (x : AV) (lo hi : Option AV) : sliceArrA P t x lo hi (fr H) = sliceArrA P t x lo hi H := by
  simp only [sliceArrA, cellsAt_fr]

/-! ### Kinds of operations -/
def cls (sh : FuncId → Bool) : Op → Nat
  | .buildSlice t n ps => if ownLit t n ps.toList then 2 else 0
  | .move _ | .pick .. | .build .. | .binOp .. | .unOp .. | .convert .. | .makeFunc .. | .field .. | .index .. | .extract .. => 0
  | .load .. | .nilCheck .. | .slice .. | .fieldAddr .. | .indexAddr .. | .lookup .. => 1
  | .call k => match k.callee with
    | .builtin .len => 1
    | .builtin .max => 0
    | .builtin .min => 0
    | .value (.func f) => if sh f then 2 else 1
    | _ => 2
  | _ => 2
def isApp : Op → Bool
  | .call k => match k.callee with | .builtin .append => true | _ => false
  | _ => false
def isSlice : Op → Bool
  | .slice .. => true
  | _ => false
section
variable {c : Cfg} {C : Cl} {g : G} {H H1 : Heap} {r : AV}
theorem cls0 {o : Op} (hc : cls c.shared o = 0) (h : aop c C o g H = some (r, H1)) : H1 = H ∧ ∀ H', aop c C o g H' = some (r, H') := by
  cases o <;> first | (exfalso; simp [cls] at hc; done) | skip
  case call k =>
    simp only [aop, callOpA] at h ⊢
    obtain ⟨args, ha, h⟩ := obind_eq h
    simp only [ha, obind_some]
    split at h
    · rename_i b hk
      simp only [cls, hk] at hc
      try simp only [hk]
      cases b <;> first | (exfalso; simp at hc; done) | skip
      all_goals
        simp only [builtinA] at h ⊢
        split at h <;> first | contradiction | (cases h; done) | skip
        obtain ⟨z, hz, h⟩ := obind_eq h
        cases h
        exact ⟨rfl, fun H' => by simp [hz, obind_some]⟩
    · rename_i f hk
      exfalso
      simp only [cls, hk] at hc
      cases f <;> simp at hc
      split at hc <;> simp at hc
    · cases h
  case makeFunc f fs cs =>
    simp only [aop] at h ⊢
    split at h
    · obtain ⟨z, hz, h⟩ := obind_eq h
      cases h
      rename_i h1
      exact ⟨rfl, fun H' => by simp [h1, hz, obind_some]⟩
    · cases h
  case buildSlice t n ps =>
    have ho : ownLit t n ps.toList = false := by
      cases hb : ownLit t n ps.toList with
      | false => rfl
      | true => simp [cls, hb] at hc
    simp only [aop, ho, Bool.false_eq_true, if_false] at h ⊢
    obtain ⟨_, h1, h⟩ := obind_eq h
    simp only [h1, obind_some]
    obtain ⟨_, h2, h⟩ := obind_eq h
    simp only [h2, obind_some]
    cases h
    exact ⟨rfl, fun _ => rfl⟩
  all_goals
    simp only [aop] at h ⊢
    repeat (obtain ⟨_, h1, h⟩ := obind_eq h; simp only [h1, obind_some])
    cases h
    exact ⟨rfl, fun _ => rfl⟩

theorem refA_of {H H' : Heap} (h : fr H' = fr H) (x : AV) : refA H' x = refA H x := by rw [← refA_fr H', h, refA_fr]
theorem cellsAt_of {H H' : Heap} (h : fr H' = fr H) (x : AV) : cellsAt H' x = cellsAt H x := by rw [← cellsAt_fr H', h, cellsAt_fr]
theorem closeA_of {H H' : Heap} (h : fr H' = fr H) (k : Nat) (x : AV) : closeA k H' x = closeA k H x := by rw [← closeA_fr H', h, closeA_fr]
theorem lenA_of {H H' : Heap} (h : fr H' = fr H) (P : Program) (t : TypeId) (x : AV) : lenA P t x H' = lenA P t x H := by rw [← lenA_fr P t H', h, lenA_fr]
theorem lookupA_of {H H' : Heap} (h : fr H' = fr H) (P : Program) (t : TypeId) (m k : AV) (ok : Bool) : lookupA P t m k ok H' = lookupA P t m k ok H := by rw [← lookupA_fr P t H', h, lookupA_fr]
theorem sliceArrA_of {H H' : Heap} (h : fr H' = fr H) (P : Program) (t : TypeId) (x : AV) (lo hi : Option AV) : sliceArrA P t x lo hi H' = sliceArrA P t x lo hi H := by rw [← sliceArrA_fr P t H', h, sliceArrA_fr]
theorem callA_cls1 {f : FuncId} {args : List AV} (hs : c.shared f = false) (h : callA c C f args H = some (r, H1)) :
    ∃ bs, H1 = markA H bs ∧ ∀ H', fr H' = fr H → callA c C f args H' = some (r, markA H' bs) := by
  have hcl : ∀ H', fr H' = fr H → closeL H' args = closeL H args := fun H' hH => mapC_congr (fun x => closeA_of hH depthA x) args
  unfold callA at h
  simp only [hs, Bool.false_eq_true, if_false] at h
  obtain ⟨⟨args', bs⟩, hc, h⟩ := obind_eq h
  obtain ⟨⟨r0, H0⟩, hr, h⟩ := obind_eq h
  cases bs with
  | nil =>
    cases h
    refine ⟨[], rfl, fun H' hH => ?_⟩
    simp [callA, hs, hcl H' hH, hc, obind_some, hr, markA]
  | cons b bs =>
    simp only at h
    split at h
    · rename_i hsc
      cases h
      refine ⟨[], rfl, fun H' hH => ?_⟩
      simp [callA, hs, hcl H' hH, hc, obind_some, hr, markA, hsc]
    · rename_i hsc
      cases h
      refine ⟨b :: bs, rfl, fun H' hH => ?_⟩
      simp [callA, hs, hcl H' hH, hc, obind_some, hr, hsc]
theorem cls1 {o : Op} (hc : cls c.shared o ≤ 1) (h : aop c C o g H = some (r, H1)) : ∃ bs, H1 = markA H bs ∧ ∀ H', fr H' = fr H → aop c C o g H' = some (r, markA H' bs) := by
  rcases Nat.lt_or_ge (cls c.shared o) 1 with h0 | h1
  · obtain ⟨q1, q2⟩ := cls0 (by omega) h
    exact ⟨[], q1, fun H' _ => q2 H'⟩
  have hc1 : cls c.shared o = 1 := by omega
  clear hc h1
  cases o <;> first | (exfalso; simp [cls] at hc1; done) | (exfalso; simp only [cls] at hc1; split at hc1 <;> cases hc1; done) | skip
  case load t x =>
    simp only [aop] at h ⊢
    obtain ⟨a, ha, h⟩ := obind_eq h
    obtain ⟨y, hy, h⟩ := obind_eq h
    cases h
    refine ⟨[], rfl, fun H' hH => ?_⟩
    have : loadA c.P t a H' = loadA c.P t a H := by unfold loadA; rw [cellsAt_of hH a]
    simp [ha, obind_some, this, hy, markA]
  case nilCheck x =>
    simp only [aop] at h ⊢
    obtain ⟨a, ha, h⟩ := obind_eq h
    obtain ⟨y, hy, h⟩ := obind_eq h
    obtain ⟨z, hz, h⟩ := obind_eq h
    cases h
    refine ⟨[], rfl, fun H' hH => ?_⟩
    simp [ha, obind_some, refA_of hH a, hy, hz, markA]
  case fieldAddr t x f =>
    simp only [aop] at h ⊢
    obtain ⟨a, ha, h⟩ := obind_eq h
    obtain ⟨y, hy, h⟩ := obind_eq h
    obtain ⟨z, hz, h⟩ := obind_eq h
    cases h
    refine ⟨[], rfl, fun H' hH => ?_⟩
    simp [ha, obind_some, refA_of hH a, hy, hz, markA]
  case indexAddr t x i =>
    simp only [aop] at h ⊢
    obtain ⟨a, ha, h⟩ := obind_eq h
    obtain ⟨y, hy, h⟩ := obind_eq h
    obtain ⟨b, hb, h⟩ := obind_eq h
    obtain ⟨z, hz, h⟩ := obind_eq h
    cases h
    refine ⟨[], rfl, fun H' hH => ?_⟩
    simp [ha, obind_some, refA_of hH a, hy, hb, hz, markA]
  case slice t x l hh m =>
    cases m with
    | some _ => cases h
    | none =>
      simp only [aop] at h ⊢
      obtain ⟨a, ha, h⟩ := obind_eq h
      obtain ⟨lo, hlo, h⟩ := obind_eq h
      obtain ⟨hi, hhi, h⟩ := obind_eq h
      obtain ⟨y, hy, h⟩ := obind_eq h
      obtain ⟨z, hz, h⟩ := obind_eq h
      cases h
      refine ⟨[], rfl, fun H' hH => ?_⟩
      simp [ha, obind_some, refA_of hH a, hy, hlo, hhi, sliceArrA_of hH, hz, markA]
  case lookup t m k ok =>
    simp only [aop] at h ⊢
    obtain ⟨a, ha, h⟩ := obind_eq h
    obtain ⟨b, hb, h⟩ := obind_eq h
    obtain ⟨z, hz, h⟩ := obind_eq h
    cases h
    refine ⟨[], rfl, fun H' hH => ?_⟩
    simp [ha, obind_some, hb, lookupA_of hH, hz, markA]
  case call k =>
    simp only [aop, callOpA] at h ⊢
    obtain ⟨args, ha, h⟩ := obind_eq h
    simp only [ha, obind_some]
    split at h
    · rename_i b hk
      simp only [cls, hk] at hc1
      try simp only [hk]
      cases b <;> first | (exfalso; simp at hc1; done) | skip
      simp only [builtinA] at h ⊢
      split at h <;> first | contradiction | (cases h; done) | skip
      rename_i x h0
      obtain ⟨y, hy, h⟩ := obind_eq h
      obtain ⟨z, hz, h⟩ := obind_eq h
      cases h
      refine ⟨[], rfl, fun H' hH => ?_⟩
      simp [h0, obind_some, refA_of hH, hy, lenA_of hH, hz, markA]
    · rename_i f hk
      simp only [cls, hk] at hc1
      try simp only [hk]
      cases f <;> first | (exfalso; simp at hc1; done) | skip
      rename_i f
      simp only [aev, obind_some] at h ⊢
      have hs : c.shared f = false := by
        cases hsf : c.shared f with
        | false => rfl
        | true => simp [hsf] at hc1
      exact callA_cls1 hs h
    · cases h

/-! ### What an operation reads -/
theorem aevs_congr {g g' : G} : ∀ {l : List Operand}, (∀ x ∈ l, aev g x = aev g' x) → aevs g l = aevs g' l
  | [], _ => rfl
  | x :: r, h => by simp only [aevs, h x (by simp), aevs_congr (l := r) fun y hy => h y (by simp [hy])]
theorem evP_congr {g g' : G} : ∀ {l : List (Nat × Operand)}, (∀ x ∈ l.map (·.2), aev g x = aev g' x) → evP g l = evP g' l
  | [], _ => rfl
  | (i, x) :: r, h => by simp only [evP, h x (by simp), evP_congr (l := r) fun y hy => h y (by simp at hy ⊢; exact .inr hy)]
theorem aevO_congr {g g' : G} {o : Option Operand} (h : ∀ x, o = some x → aev g x = aev g' x) : aevO g o = aevO g' o := by
  cases o with
  | none => rfl
  | some x => simp only [aevO, h x rfl]
theorem aop_congr {g g' : G} {o : Op} (h : ∀ x ∈ o.operands.toList, aev g x = aev g' x) (H : Heap) : aop c C o g H = aop c C o g' H := by
  cases o
  case call k =>
    simp only [aop, callOpA]
    have h1 : aevs g k.args.toList = aevs g' k.args.toList := aevs_congr fun x hx => h x (by
      simp only [Op.operands, Call.operands]
      cases k.callee <;> simp_all)
    rw [h1]
    congr 1
    funext args
    cases hk : k.callee with
    | builtin b => rfl
    | value f =>
      simp only
      rw [h f (by simp [Op.operands, Call.operands, hk])]
    | invoke => rfl
  case makeFunc f fs cs =>
    simp only [aop]
    rw [aevs_congr (g := g) (g' := g') (l := cs.toList) fun x hx => h x (by simp [Op.operands] at hx ⊢; exact .inr hx)]
  case build t ps =>
    simp only [aop]
    rw [evP_congr (g := g) (g' := g') (l := ps.toList) fun x hx => h x (by simpa [Op.operands] using hx)]
  case buildSlice t n ps =>
    simp only [aop]
    rw [evP_congr (g := g) (g' := g') (l := ps.toList) fun x hx => h x (by simpa [Op.operands] using hx)]
  case slice t x l hh m =>
    cases m with
    | some _ => rfl
    | none =>
      simp only [aop]
      rw [h x (by simp [Op.operands]), aevO_congr (g := g) (g' := g') (o := l) fun y hy => h y (by simp [Op.operands, hy]), aevO_congr (g := g) (g' := g') (o := hh) fun y hy => h y (by simp [Op.operands, hy])]
  all_goals first
    | rfl
    | (simp only [Op.operands, List.mem_cons, List.not_mem_nil, or_false, forall_eq_or_imp, forall_eq] at h
       simp only [aop, h])
end
end Go.AI

/- The abstract interpreter: regions whose operations come in any order. Conditions: a check of the region's text. -/
set_option linter.unusedVariables false
set_option linter.unusedSimpArgs false
namespace Go.AI

/-! ### Versions only grow -/
def VM (H H' : Heap) : Prop := H.length ≤ H'.length ∧ ∀ b, b < H.length → ∀ l v cs, H'[b]? = some (.cells l v cs) → ∃ l0 v0 cs0, H[b]? = some (.cells l0 v0 cs0) ∧ v0 ≤ v ∧ (v0 = v → cs0 = cs)
def vld (H : Heap) : AV → Prop
  | .ms b ver _ _ _ => b < H.length ∧ ∀ l v cs, H[b]? = some (.cells l v cs) → ver ≤ v
  | .mp b ver _ => b < H.length ∧ ∀ l v cs, H[b]? = some (.cells l v cs) → ver ≤ v
  | _ => True
theorem VM.refl (H : Heap) : VM H H := ⟨Nat.le_refl _, fun b _ l v cs h => ⟨l, v, cs, h, Nat.le_refl _, fun _ => rfl⟩⟩
theorem markA_length : ∀ (bs : List Nat) (H : Heap), (markA H bs).length = H.length
  | [], H => rfl
  | b :: bs, H => by
    simp only [markA]
    rw [markA_length bs]
    split <;> simp
theorem VM.mark (H : Heap) (bs : List Nat) : VM H (markA H bs) := by
  refine ⟨by rw [markA_length]; exact Nat.le_refl _, fun b hb l v cs h => ?_⟩
  rw [markA_get] at h
  cases hx : H[b]? with
  | none => simp [hx] at h
  | some x =>
    simp only [hx, Option.map_some, Option.some.injEq] at h
    split at h
    · cases x with
      | cells l0 v0 cs0 => simp only [AB.freeze] at h; cases h; exact ⟨_, _, _, rfl, Nat.le_refl _, fun _ => rfl⟩
      | map es => simp [AB.freeze] at h
    · subst h; exact ⟨_, _, _, rfl, Nat.le_refl _, fun _ => rfl⟩
theorem vld.mono {H H' : Heap} (h : VM H H') {x : AV} (hx : vld H x) : vld H' x := by
  cases x <;> simp only [vld] at hx ⊢
  all_goals
    refine ⟨Nat.lt_of_lt_of_le hx.1 h.1, fun l v cs hc => ?_⟩
    obtain ⟨l0, v0, cs0, h1, h2, h3⟩ := h.2 _ hx.1 l v cs hc
    exact Nat.le_trans (hx.2 _ _ _ h1) h2
theorem refA_back {H H' : Heap} (h : VM H H') {x y : AV} (hx : vld H x) (hr : refA H' x = some y) : refA H x = some y := by
  cases x <;> simp only [refA] at hr ⊢ <;> try exact hr
  all_goals
    simp only [vld] at hx
    split at hr
    · rename_i l v cs hc
      split at hr
      · rename_i hv
        obtain ⟨l0, v0, cs0, h1, h2, h3⟩ := h.2 _ hx.1 _ _ _ hc
        have := hx.2 _ _ _ h1
        have : v0 = v := by omega
        rw [h1]
        simp only [this, hv, if_true]
        exact hr
      · cases hr
    · cases hr
theorem cellsAt_back {H H' : Heap} (h : VM H H') {x : AV} {q : List AV × Nat} (hx : vld H x) (hr : cellsAt H' x = some q) : cellsAt H x = some q := by
  cases x <;> simp only [cellsAt] at hr ⊢ <;> try exact hr
  rename_i b ver off
  simp only [vld] at hx
  split at hr
  · rename_i l v cs hc
    split at hr
    · rename_i hv
      obtain ⟨l0, v0, cs0, h1, h2, h3⟩ := h.2 _ hx.1 _ _ _ hc
      have := hx.2 _ _ _ h1
      have he : v0 = v := by omega
      rw [h1]
      simp only [he, hv, if_true]
      rw [h3 he]
      exact hr
    · cases hr
  · cases hr
theorem appendA_VM {P : Program} {t : TypeId} {s x r : AV} {H H' : Heap} (h : appendA P t s x H = some (r, H')) : VM H H' := by
  unfold appendA at h
  split at h
  · dsimp only at h
    obtain ⟨q1, hq1, h⟩ := obind_eq h
    obtain ⟨q2, hq2, h⟩ := obind_eq h
    obtain ⟨z, hz, h⟩ := obind_eq h
    split at h
    · split at h
      · rename_i b ver off n sz' _ _ _
        split at h
        · rename_i v cs hb
          split at h
          · cases h
            refine ⟨by simp, fun i hi l v' cs' hc => ?_⟩
            by_cases hib : i = b
            · subst hib
              rw [List.getElem?_set_self hi] at hc
              cases hc
              simp only [slc, hb] at hq1
              split at hq1
              · rename_i hv; exact ⟨_, _, _, hb, by omega, fun e => by omega⟩
              · cases hq1
            · rw [List.getElem?_set_ne (Ne.symm hib)] at hc
              exact ⟨_, _, _, hc, Nat.le_refl _, fun _ => rfl⟩
          · cases h
        · cases h
      · split at h
        · cases h
          refine ⟨by simp, fun i hi l v' cs' hc => ?_⟩
          rw [List.getElem?_append_left hi] at hc
          exact ⟨_, _, _, hc, Nat.le_refl _, fun _ => rfl⟩
        · cases h
      · cases h
    · cases h
  · cases h

/-! ### Two neighbours change places -/
def indep (sh : FuncId → Bool) (ops : Array Oper) (x y : Oper) : Bool :=
  x.apart ops y && (cls sh x.op == 0 || cls sh y.op == 0 || (decide (cls sh x.op ≤ 1) && decide (cls sh y.op ≤ 1)) || (isApp x.op && isSlice y.op))
section
variable {c : Cfg} {C : Cl} {ops : Array Oper}
theorem aev_upd {g : G} {d : Option Nat} {v : AV} {x : Operand} (h : ∀ i, d = some i → x ≠ .tmp i) : aev (upd g d v) x = aev g x := by
  cases d with
  | none => rfl
  | some i =>
    cases x with
    | tmp t =>
      have : t ≠ i := fun e => h i rfl (by rw [e])
      simp [aev, upd, this]
    | _ => rfl
theorem look_op {o : Oper} {d : Nat} (h : d ∉ o.looksAt ops) : ∀ x ∈ o.op.operands.toList, x ≠ .tmp d := by
  intro x hx e
  subst e
  apply h
  simp only [Oper.looksAt, List.mem_append, List.mem_filterMap]
  exact .inl ⟨_, hx, rfl⟩
theorem want_upd {o : Oper} {g : G} {d : Option Nat} {v : AV} (h : ∀ i, d = some i → i ∉ o.looksAt ops) : wantA ops o (upd g d v) = wantA ops o g := by
  cases d with
  | none => rfl
  | some i =>
    have := h i rfl
    unfold wantA
    cases hg : o.guard with
    | none => rfl
    | some q =>
      obtain ⟨j, want⟩ := q
      simp only
      cases hj : (ops[j]?).bind (·.dst) with
      | none => rfl
      | some e =>
        have hne : e ≠ i := by
          intro he
          subst he
          apply this
          simp [Oper.looksAt, hg, hj]
        simp [upd, hne]
/-- A step, as its value and what it does to the heap. -/
def valG (c : Cfg) (C : Cl) (ops : Array Oper) (o : Oper) (g : G) (H : Heap) : Option (AV × Heap) :=
  obind (wantA ops o g) fun t => if t then aop c C o.op g H else some (.tu [], H)
theorem step_val (o : Oper) (g : G) (H : Heap) : stepG c C ops o g H = obind (valG c C ops o g H) fun q => some (upd g o.dst q.1, q.2) := by
  unfold stepG valG
  cases wantA ops o g with
  | none => rfl
  | some t => cases t <;> rfl
theorem val_upd {o : Oper} {g : G} {d : Option Nat} {v : AV} (h : ∀ i, d = some i → i ∉ o.looksAt ops) (H : Heap) : valG c C ops o (upd g d v) H = valG c C ops o g H := by
  unfold valG
  rw [want_upd h]
  congr 1
  funext t
  cases t with
  | false => rfl
  | true =>
    simp only [if_true]
    exact aop_congr (fun x hx => aev_upd fun i hi => look_op (h i hi) x hx) H
theorem val0 {o : Oper} {g : G} {H H1 : Heap} {r : AV} (hc : cls c.shared o.op = 0) (h : valG c C ops o g H = some (r, H1)) : H1 = H ∧ ∀ H', valG c C ops o g H' = some (r, H') := by
  obtain ⟨t, ht, h⟩ := obind_eq h
  cases t with
  | false => cases h; exact ⟨rfl, fun H' => by simp [valG, ht, obind_some]⟩
  | true =>
    obtain ⟨q1, q2⟩ := cls0 hc (by simpa using h)
    exact ⟨q1, fun H' => by simp [valG, ht, obind_some, q2]⟩
theorem val1 {o : Oper} {g : G} {H H1 : Heap} {r : AV} (hc : cls c.shared o.op ≤ 1) (h : valG c C ops o g H = some (r, H1)) :
    ∃ bs, H1 = markA H bs ∧ ∀ H', fr H' = fr H → valG c C ops o g H' = some (r, markA H' bs) := by
  obtain ⟨t, ht, h⟩ := obind_eq h
  cases t with
  | false => cases h; exact ⟨[], rfl, fun H' _ => by simp [valG, ht, obind_some, markA]⟩
  | true =>
    obtain ⟨bs, q1, q2⟩ := cls1 hc (by simpa using h)
    exact ⟨bs, q1, fun H' hH => by simp [valG, ht, obind_some, q2 H' hH]⟩
theorem app_VM {o : Oper} {g : G} {H H1 : Heap} {r : AV} (ha : isApp o.op = true) (h : valG c C ops o g H = some (r, H1)) : VM H H1 := by
  obtain ⟨t, ht, h⟩ := obind_eq h
  cases t with
  | false => cases h; exact VM.refl _
  | true =>
    simp only [if_true] at h
    generalize ho : o.op = op at h ha
    cases op <;> first | (cases ha; done) | skip
    rename_i k
    simp only [aop, callOpA] at h
    obtain ⟨args, hargs, h⟩ := obind_eq h
    simp only [isApp] at ha
    split at h
    · rename_i b hk
      cases b <;> first | (simp [hk] at ha; done) | skip
      simp only [builtinA] at h
      split at h <;> first | contradiction | (cases h; done) | skip
      split at h
      · split at h
        · exact appendA_VM h
        · cases h
      · cases h
    · rename_i f hk; simp [hk] at ha
    · cases h
/-- The value that a slice operation looks at. -/
def vldO (o : Oper) (g : G) (H : Heap) : Prop := isSlice o.op = true → ∀ x ∈ o.op.operands.toList, ∀ a, aev g x = some a → vld H a
theorem slice_back {o : Oper} {g : G} {H H1 H2 : Heap} {r : AV} (hs : isSlice o.op = true) (hv : vldO o g H) (hm : VM H H1) (h : valG c C ops o g H1 = some (r, H2)) : H2 = H1 ∧ valG c C ops o g H = some (r, H) := by
  obtain ⟨t, ht, h⟩ := obind_eq h
  cases t with
  | false => cases h; exact ⟨rfl, by simp [valG, ht, obind_some]⟩
  | true =>
    simp only [if_true] at h
    have hv' := hv hs
    simp only [valG, ht, obind_some, if_true]
    generalize ho : o.op = op at h hs hv' ⊢
    cases op <;> first | (cases hs; done) | skip
    rename_i t x l hh m
    cases m with
    | some _ => cases h
    | none =>
      simp only [aop] at h ⊢
      obtain ⟨a, ha, h⟩ := obind_eq h
      obtain ⟨lo, hlo, h⟩ := obind_eq h
      obtain ⟨hi, hhi, h⟩ := obind_eq h
      obtain ⟨y, hy, h⟩ := obind_eq h
      obtain ⟨z, hz, h⟩ := obind_eq h
      cases h
      have hva := hv' x (by simp [Op.operands]) a ha
      have hya := refA_sound hy
      subst hya
      refine ⟨rfl, ?_⟩
      simp only [ha, obind_some, hlo, hhi, refA_back hm hva hy]
      have : sliceArrA c.P t y lo hi H = some r := by
        unfold sliceArrA at hz ⊢
        split at hz
        · obtain ⟨h0, hh0, hz⟩ := obind_eq hz
          obtain ⟨l0, hl0, hz⟩ := obind_eq hz
          obtain ⟨q, hq, hz⟩ := obind_eq hz
          simp only [hh0, hl0, obind_some, cellsAt_back hm hva hq]
          exact hz
        · exact hz
      rw [this]
      rfl
theorem swap {x y : Oper} {g g1 g2 : G} {H H1 H2 : Heap} (hi : indep c.shared ops x y = true) (hv : vldO y g H) (h1 : stepG c C ops x g H = some (g1, H1)) (h2 : stepG c C ops y g1 H1 = some (g2, H2)) :
    ∃ g1' H1', stepG c C ops y g H = some (g1', H1') ∧ stepG c C ops x g1' H1' = some (g2, H2) := by
  simp only [indep, Bool.and_eq_true] at hi
  obtain ⟨hap, hi⟩ := hi
  obtain ⟨a1, a2, a3⟩ := Oper.apart_spec hap
  rw [step_val] at h1 h2
  obtain ⟨⟨r1, H1'⟩, v1, h1⟩ := obind_eq h1
  cases h1
  obtain ⟨⟨r2, H2'⟩, v2, h2⟩ := obind_eq h2
  cases h2
  rw [val_upd a1] at v2
  have key : ∀ {Hm : Heap}, valG c C ops y g H = some (r2, Hm) → valG c C ops x g Hm = some (r1, H2') →
      ∃ g1' H1', stepG c C ops y g H = some (g1', H1') ∧ stepG c C ops x g1' H1' = some (upd (upd g x.dst r1) y.dst r2, H2') := by
    intro Hm k1 k2
    refine ⟨upd g y.dst r2, Hm, by rw [step_val, k1]; rfl, ?_⟩
    rw [step_val, val_upd a3, k2]
    simp only [obind_some]
    rw [upd_comm g r1 r2 a2]
  simp only [Bool.or_eq_true, beq_iff_eq, Bool.and_eq_true, decide_eq_true_eq] at hi
  rcases hi with ((h0 | h0) | ⟨h0, h0'⟩) | ⟨h0, h0'⟩
  · obtain ⟨e1, e2⟩ := val0 h0 v1
    subst e1
    exact key v2 (e2 _)
  · obtain ⟨e1, e2⟩ := val0 h0 v2
    subst e1
    exact key (e2 H) v1
  · obtain ⟨bs1, e1, f1⟩ := val1 h0 v1
    obtain ⟨bs2, e2, f2⟩ := val1 h0' v2
    subst e1
    refine key (f2 H (markA_fr H bs1).symm) ?_
    rw [f1 _ (markA_fr H bs2), e2, markA_comm]
  · obtain ⟨e1, e2⟩ := slice_back h0' hv (app_VM h0 v1) v2
    subst e1
    exact key e2 v1
/-- What lies before an operation that it does not wait for. -/
theorem vldO_step {x y : Oper} {g g1 : G} {H H1 : Heap} (hi : indep c.shared ops x y = true) (hv : vldO y g H) (h1 : stepG c C ops x g H = some (g1, H1)) : vldO y g1 H1 := by
  intro hs z hz a ha
  simp only [indep, Bool.and_eq_true] at hi
  obtain ⟨hap, hi⟩ := hi
  obtain ⟨a1, a2, a3⟩ := Oper.apart_spec hap
  rw [step_val] at h1
  obtain ⟨⟨r1, H1'⟩, v1, h1⟩ := obind_eq h1
  cases h1
  rw [aev_upd fun i hi' => look_op (a1 i hi') z hz] at ha
  have := hv hs z hz a ha
  refine this.mono ?_
  have hy : cls c.shared y.op = 1 := by
    generalize y.op = op at hs
    cases op <;> first | (cases hs; done) | rfl
  simp only [Bool.or_eq_true, beq_iff_eq, Bool.and_eq_true, decide_eq_true_eq] at hi
  rcases hi with ((h0 | h0) | ⟨h0, h0'⟩) | ⟨h0, h0'⟩
  · rw [(val0 h0 v1).1]; exact VM.refl _
  · omega
  · obtain ⟨bs1, e1, f1⟩ := val1 h0 v1
    rw [e1]; exact VM.mark _ _
  · exact app_VM h0 v1
theorem bubble {y : Oper} {post : List Oper} : ∀ {pre : List Oper} {g g' : G} {H H' : Heap}, (∀ x ∈ pre, indep c.shared ops x y = true) → vldO y g H → stepsG c C ops (pre ++ y :: post) g H = some (g', H') →
    ∃ g1 H1, stepG c C ops y g H = some (g1, H1) ∧ stepsG c C ops (pre ++ post) g1 H1 = some (g', H')
  | [], g, g', H, H', hi, hv, h => by
    obtain ⟨s, h1, h⟩ := obind_eq h
    exact ⟨s.1, s.2, h1, h⟩
  | x :: pre, g, g', H, H', hi, hv, h => by
    obtain ⟨s, h1, h⟩ := obind_eq h
    obtain ⟨ga, Ha⟩ := s
    have hxy := hi x (by simp)
    obtain ⟨gb, Hb, k1, k2⟩ := bubble (pre := pre) (fun z hz => hi z (by simp [hz])) (vldO_step hxy hv h1) h
    obtain ⟨gc, Hc, k3, k4⟩ := swap hxy hv h1 k1
    refine ⟨gc, Hc, k3, ?_⟩
    simp only [List.cons_append, stepsG, k4, obind_some]
    exact k2
end

/-! ### The check of a region's text, and what it gives -/
def reach (ops : Array Oper) : Nat → Nat → Nat → Bool
  | 0, _, _ => false
  | n + 1, j, x => match ops[j]? with
    | some o => o.after.toList.any fun e => Region.binds .any e && (e.on == x || reach ops n e.on x)
    | none => false
def okAny (sh : FuncId → Bool) (ops : Array Oper) : Bool :=
  (List.range ops.size).all fun j => match ops[j]? with
    | some o => (o.after.toList.all fun e => !Region.binds .any e || decide (e.on < j)) && (List.range j).all fun i => match ops[i]? with
      | some x => indep sh ops x o || reach ops 3 j i
      | none => false
    | none => false
def Shut (ops : Array Oper) (listed : Array Bool) : Prop := ∀ (j : Nat) (o : Oper), listed[j]? = some true → ops[j]? = some o → ∀ e ∈ o.after.toList, Region.binds .any e = true → listed[e.on]? = some true
theorem reach_listed {ops : Array Oper} {listed : Array Bool} (hs : Shut ops listed) : ∀ (n j x : Nat), (∀ o : Oper, ops[j]? = some o → ∀ e ∈ o.after.toList, Region.binds .any e = true → listed[e.on]? = some true) → reach ops n j x = true → listed[x]? = some true
  | 0, j, x, _, h => by cases h
  | n + 1, j, x, hj, h => by
    unfold reach at h
    split at h
    · rename_i o ho
      simp only [List.any_eq_true, Bool.and_eq_true, Bool.or_eq_true, beq_iff_eq] at h
      obtain ⟨e, he, hb, h | h⟩ := h
      · rw [← h]; exact hj o ho e he hb
      · exact reach_listed hs n e.on x (fun o' ho' e' he' hb' => hs e.on o' (hj o ho e he hb) ho' e' he' hb') h
    · cases h
end Go.AI
