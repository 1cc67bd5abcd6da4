/- Plain rewriting laws of the abstract interpreter, for simp. No conditions. -/
import Derived.Test.YtdodfimekcoclaaAiDefs
set_option linter.unusedVariables false
namespace Go.AI

@[congr] theorem obind_congr {α β : Type} {x x' : Option α} {f : α → Option β} (h : x = x') : obind x f = obind x' f := by rw [h]
@[congr] theorem arun_congr {c : Cfg} {f : FuncId} {lp : Lp} {C : Cl} {k : Nat} {a : Code} {e e' : Env} {H H' : Heap} (h : e = e') (h' : H = H') :
    arun c f lp C k a e H = arun c f lp C k a e' H' := by rw [h, h']
@[congr] theorem aops_congr {c : Cfg} {C : Cl} {ops : Array Oper} {l : List Oper} {e e' : Env} {H H' : Heap} (h : e = e') (h' : H = H') :
    aops c C ops l e H = aops c C ops l e' H' := by rw [h, h']
@[congr] theorem acond_congr {x x' : Option AV} {a b : Option (Ex × St)} (h : x = x') : acond x a b = acond x' a b := by rw [h]
@[congr] theorem blockA_congr {id : Nat} {a : Option Ann} {r r' : Option (Ex × St)} (h : r = r') : blockA id a r = blockA id a r' := by rw [h]
theorem acond_true (a b : Option (Ex × St)) : acond (some (.v (.bool true))) a b = a := rfl
theorem acond_false (a b : Option (Ex × St)) : acond (some (.v (.bool false))) a b = b := rfl
theorem obind_ite {α β : Type} {p : Prop} [Decidable p] (a b : Option α) (f : α → Option β) : obind (if p then a else b) f = if p then obind a f else obind b f := by split <;> rfl

/-- What follows a part of the code. -/
def thenA (c : Cfg) (f : FuncId) (lp : Lp) (C : Cl) (k : Nat) (b : Code) (r : Option (Ex × St)) : Option (Ex × St) :=
  obind r fun r => match r.1 with | .normal => arun c f lp C k b r.2.1 r.2.2 | _ => some r
@[congr] theorem thenA_congr {c : Cfg} {f : FuncId} {lp : Lp} {C : Cl} {k : Nat} {b : Code} {r r' : Option (Ex × St)} (h : r = r') : thenA c f lp C k b r = thenA c f lp C k b r' := by rw [h]
/-- The rest of a row of operations. -/
def nextA (c : Cfg) (C : Cl) (ops : Array Oper) (r : List Oper) (d : Option Nat) (e : Env) (q : Option (AV × Heap)) : Option (Env × Heap) :=
  obind q fun q => aops c C ops r (putA e d q.1) q.2
@[congr] theorem nextA_congr {c : Cfg} {C : Cl} {ops : Array Oper} {r : List Oper} {d : Option Nat} {e : Env} {q q' : Option (AV × Heap)} (h : q = q') : nextA c C ops r d e q = nextA c C ops r d e q' := by rw [h]
def guardA (c : Cfg) (C : Cl) (ops : Array Oper) (r : List Oper) (d : Option Nat) (o : Op) (e : Env) (H : Heap) (t : Option Bool) : Option (Env × Heap) :=
  obind t fun t => if t then nextA c C ops r d e (aop c C o e.get H) else aops c C ops r (putA e d (.tu [])) H
@[congr] theorem guardA_congr {c : Cfg} {C : Cl} {ops : Array Oper} {r : List Oper} {d : Option Nat} {o : Op} {e : Env} {H : Heap} {t t' : Option Bool} (h : t = t') :
    guardA c C ops r d o e H t = guardA c C ops r d o e H t' := by rw [h]
/-- The answer of the operation that guards. -/
def wantB (want : Bool) : Option AV → Option Bool
  | some (.v (.bool b)) => some (b == want)
  | some (.tu []) => some false
  | _ => none
def wantD (want : Bool) (g : G) : Option Nat → Option Bool
  | none => none
  | some d => wantB want (g d)
/-- Where an operation of a row puts its answer. -/
def dstAt : List Oper → Nat → Option Nat
  | [], _ => none
  | o :: _, 0 => o.dst
  | _ :: r, n + 1 => dstAt r n
theorem dstAt_zero (d : Option Nat) (o : Op) (t : TypeId) (p : String) (l : Array Edge) (g : Option (Nat × Bool)) (r : List Oper) : dstAt (⟨d, o, t, p, l, g⟩ :: r) 0 = d := rfl
theorem dstAt_succ (o : Oper) (r : List Oper) (n : Nat) : dstAt (o :: r) (n + 1) = dstAt r n := rfl
theorem dstAt_eq (l : List Oper) (j : Nat) : dstAt l j = (l[j]?).bind (·.dst) := by
  induction l generalizing j with
  | nil => rfl
  | cons o r ih =>
    cases j with
    | zero => rfl
    | succ n => simp only [dstAt, ih, List.getElem?_cons_succ]
theorem wantA_eq (ops : Array Oper) (d : Option Nat) (o : Op) (t : TypeId) (p : String) (l : Array Edge) (j : Nat) (want : Bool) (g : G) :
    wantA ops ⟨d, o, t, p, l, some (j, want)⟩ g = wantD want g ((ops[j]?).bind (·.dst)) := by
  unfold wantA
  dsimp only
  generalize ops[j]?.bind (·.dst) = x
  cases x <;> rfl
def mapNewA (d : Option TypeDesc) (H : Heap) : Option (AV × Heap) := match d with | some (.map _ _) => some (.mm H.length, H ++ [.map []]) | _ => none
section
variable (c : Cfg) (f : FuncId) (lp : Lp) (C : Cl) (k : Nat) (e : Env) (H : Heap)
theorem thenA_normal (b : Code) : thenA c f lp C k b (some (.normal, e, H)) = arun c f lp C k b e H := rfl
theorem thenA_ret (b : Code) (s : St) : thenA c f lp C k b (some (.ret, s)) = some (.ret, s) := rfl
theorem thenA_exit (b : Code) (i : Nat) (s : St) : thenA c f lp C k b (some (.exit i, s)) = some (.exit i, s) := rfl
theorem blockA_normal (id : Nat) (a : Option Ann) : blockA id a (some (.normal, e, H)) = obind (tailA a e H) fun s => some (.normal, s) := rfl
theorem blockA_ret (id : Nat) (a : Option Ann) (s : St) : blockA id a (some (.ret, s)) = some (.ret, s) := rfl
theorem blockA_exit (id j : Nat) (a : Option Ann) : blockA id a (some (.exit j, e, H)) = if j = id then obind (tailA a e H) fun s => some (.normal, s) else some (.exit j, e, H) := rfl
theorem nextA_some (ops : Array Oper) (r : List Oper) (d : Option Nat) (x : AV) : nextA c C ops r d e (some (x, H)) = aops c C ops r (putA e d x) H := rfl
theorem guardA_true (ops : Array Oper) (r : List Oper) (d : Option Nat) (o : Op) : guardA c C ops r d o e H (some true) = nextA c C ops r d e (aop c C o e.get H) := rfl
theorem guardA_false (ops : Array Oper) (r : List Oper) (d : Option Nat) (o : Op) : guardA c C ops r d o e H (some false) = aops c C ops r (putA e d (.tu [])) H := rfl
def regA (p : Option (List Nat)) (s : Option St) : Option (Ex × St) := obind s fun s => some (.normal, pruneA p s.1, s.2)
theorem regA_some (p : Option (List Nat)) : regA p (some (e, H)) = some (.normal, pruneA p e, H) := rfl
theorem pruneA_none : pruneA none e = e := rfl
theorem pruneA_some (ks : List Nat) : pruneA (some ks) e = e.keep ks := rfl
theorem arun_skip : arun c f lp C k .skip e H = some (.normal, e, H) := rfl
theorem arun_region (id : Nat) (ops : List Oper) (d : Bool) : arun c f lp C k (.region id ops.toArray d) e H = regA (c.pr f id) (aops c C ops.toArray ops e H) := rfl
theorem arun_seq (a b : Code) : arun c f lp C k (.seq a b) e H = thenA c f lp C k b (arun c f lp C k a e H) := rfl
theorem arun_cond (x : Operand) (a b : Code) : arun c f lp C k (.cond x a b) e H = acond (aev e.get x) (arun c f lp C k a e H) (arun c f lp C k b e H) := rfl
theorem arun_block (id : Nat) (a : Code) : arun c f lp C k (.block id a) e H = blockA id (c.ann f id) (arun c f lp C id a e H) := rfl
/-- A round of a loop. -/
def roundA (k : Nat) (a : Code) (s : St) : Option (Ex × St) := obind (arun c f lp C k a s.1 s.2) (endA (c.ann f k))
def loopA (lp : Lp) (F : St → Option (Ex × St)) (x : Option St) : Option (Ex × St) := obind x (lp F)
@[congr] theorem loopA_congr {lp : Lp} {F : St → Option (Ex × St)} {x x' : Option St} (h : x = x') : loopA lp F x = loopA lp F x' := by rw [h]
theorem loopA_some (F : St → Option (Ex × St)) (s : St) : loopA lp F (some s) = lp F s := rfl
theorem arun_loop (a : Code) : arun c f lp C k (.loop a) e H = loopA lp (roundA c f lp C k a) (headA (c.ann f k) (e, H)) := rfl
theorem endA_normal (an : Option Ann) : endA an (.normal, e, H) = obind (headA an (e, H)) fun s => some (.normal, s) := rfl
theorem endA_ret (an : Option Ann) (s : St) : endA an (.ret, s) = some (.ret, s) := rfl
theorem endA_exit (an : Option Ann) (i : Nat) (s : St) : endA an (.exit i, s) = some (.exit i, s) := rfl
theorem arun_exit (id : Nat) : arun c f lp C k (.exit id) e H = some (.exit id, exitA (c.ann f id) e, H) := rfl
theorem arun_ret : arun c f lp C k .ret e H = some (.ret, exitA (c.ann f 999999) e, H) := rfl
theorem aops_nil (ops : Array Oper) : aops c C ops [] e H = some (e, H) := rfl
theorem aops_cons (ops : Array Oper) (d : Option Nat) (o : Op) (t : TypeId) (p : String) (l : Array Edge) (r : List Oper) :
    aops c C ops (⟨d, o, t, p, l, none⟩ :: r) e H = nextA c C ops r d e (aop c C o e.get H) := rfl
theorem aops_cons_guard (ops : List Oper) (d : Option Nat) (o : Op) (t : TypeId) (p : String) (l : Array Edge) (r : List Oper) (j : Nat) (want : Bool) :
    aops c C ops.toArray (⟨d, o, t, p, l, some (j, want)⟩ :: r) e H = guardA c C ops.toArray r d o e H (wantD want e.get (dstAt ops j)) := by
  rw [dstAt_eq, ← List.getElem?_toArray, ← wantA_eq ops.toArray d o t p l j want e.get]; rfl
theorem putA_some (i : Nat) (x : AV) : putA e (some i) x = e.put i x := rfl
theorem putA_none (x : AV) : putA e none x = e := rfl
theorem get_nil (i : Nat) : Env.get [] i = none := rfl
theorem get_cons (j i : Nat) (x : AV) : Env.get ((j, x) :: e) i = if j = i then some x else Env.get e i := rfl
theorem put_nil (i : Nat) (x : AV) : Env.put [] i x = [(i, x)] := rfl
theorem put_cons (j i : Nat) (x y : AV) : Env.put ((j, x) :: e) i y = if j = i then (i, y) :: e else if i < j then (i, y) :: (j, x) :: e else (j, x) :: Env.put e i y := rfl
theorem aev_tmp (g : G) (t : Nat) : aev g (.tmp t) = g t := rfl
theorem aev_func (g : G) (i : FuncId) : aev g (.func i) = some (.fn i []) := rfl
theorem aev_int (g : G) (k : IntKind) (n : Int) : aev g (.const (.int k n)) = some (.v (.int k n)) := rfl
theorem aev_bool (g : G) (b : Bool) : aev g (.const (.bool b)) = some (.v (.bool b)) := rfl
theorem aev_string (g : G) (b : ByteArray) : aev g (.const (.string b)) = some (.v (.string b)) := rfl
theorem aev_nilslice (g : G) : aev g (.const (.slice none 0 0)) = some (.sl true 0 []) := rfl
theorem aev_nilptr (g : G) : aev g (.const (.pointer none)) = some (.v (.pointer none)) := rfl
section
variable (g : G)
theorem aop_move (x : Operand) : aop c C (.move x) g H = obind (aev g x) fun a => some (a, H) := rfl
theorem aop_assign (x : Operand) : aop c C (.assign x) g H = obind (aev g x) (assignA H) := rfl
theorem aop_pick (t x y : Operand) : aop c C (.pick t x y) g H = obind (aev g t) fun b => obind (aev g x) fun a => obind (aev g y) fun d => obind (pickA b a d) fun r => some (r, H) := rfl
theorem aop_alloc (t : TypeId) : aop c C (.alloc t) g H = obind (zeroT c.P t) fun z => if (flat z).all AV.cellB then some (newVarA (flat z) H) else none := rfl
theorem aop_box (t : TypeId) (x : Operand) : aop c C (.box t x) g H = obind (aev g x) fun a => if (flat a).all AV.cellB then some (newVarA (flat a) H) else none := rfl
theorem aop_build (t : TypeId) (ps : List (Nat × Operand)) : aop c C (.build t ps.toArray) g H = obind (evP g ps) fun qs => obind (abuild c.P t qs) fun r => some (r, H) := rfl
theorem aop_buildSlice (t : TypeId) (n : Nat) (ps : List (Nat × Operand)) : aop c C (.buildSlice t n ps.toArray) g H = obind (evP g ps) fun qs => obind (abuildSlice c.P t n qs) fun r => some (r, H) := rfl
theorem aop_load (t : TypeId) (x : Operand) : aop c C (.load t x) g H = obind (aev g x) fun a => obind (loadA c.P t a H) fun r => some (r, H) := rfl
theorem aop_store (t : TypeId) (x y : Operand) : aop c C (.store t x y) g H = obind (aev g x) fun a => obind (aev g y) fun b => if 0 < c.P.cellsOf t then obind (storeA c.P t a b H) fun H' => some (.tu [], H') else none := rfl
theorem aop_nilCheck (x : Operand) : aop c C (.nilCheck x) g H = obind (aev g x) fun a => obind (refA H a) fun a => obind (nilCheckA a) fun r => some (r, H) := rfl
theorem aop_binOp (op : BinOp) (t : TypeId) (x y : Operand) (u : TypeId) : aop c C (.binOp op t x y u) g H = obind (aev g x) fun a => obind (aev g y) fun b => obind (abin c.P op t a b) fun r => some (r, H) := rfl
theorem aop_unOp (op : UnOp) (t : TypeId) (x : Operand) : aop c C (.unOp op t x) g H = obind (aev g x) fun a => obind (aun op a) fun r => some (r, H) := rfl
theorem aop_convert (s d : TypeId) (x : Operand) : aop c C (.convert s d x) g H = obind (aev g x) fun a => obind (aconv c.P s d a) fun r => some (r, H) := rfl
theorem aop_makeSlice (t : TypeId) (l k : Operand) : aop c C (.makeSlice t l k) g H = obind (aev g l) fun a => obind (aev g k) fun b => makeSliceA c.P t a b H := rfl
theorem aop_fieldAddr (t : TypeId) (x : Operand) (f : Nat) : aop c C (.fieldAddr t x f) g H = obind (aev g x) fun a => obind (refA H a) fun a => obind (fieldAddrA c.P t a f) fun r => some (r, H) := rfl
theorem aop_field (t : TypeId) (x : Operand) (f : Nat) : aop c C (.field t x f) g H = obind (aev g x) fun a => obind (fieldA c.P t a f) fun r => some (r, H) := rfl
theorem aop_indexAddr (t : TypeId) (x i : Operand) : aop c C (.indexAddr t x i) g H = obind (aev g x) fun a => obind (refA H a) fun a => obind (aev g i) fun b => obind (indexAddrA c.P t a b) fun r => some (r, H) := rfl
theorem aop_index (t : TypeId) (x i : Operand) : aop c C (.index t x i) g H = obind (aev g x) fun a => obind (aev g i) fun b => obind (indexA c.P t a b) fun r => some (r, H) := rfl
theorem aop_lookup (t : TypeId) (m k : Operand) (ok : Bool) : aop c C (.lookup t m k ok) g H = obind (aev g m) fun a => obind (aev g k) fun b => obind (lookupA c.P t a b ok H) fun r => some (r, H) := rfl
theorem aop_mapUpdate (t : TypeId) (m k x : Operand) : aop c C (.mapUpdate t m k x) g H = obind (aev g m) fun a => obind (aev g k) fun b => obind (aev g x) fun y => obind (mapUpdateA c.P t a b y H) fun H' => some (.tu [], H') := rfl
theorem aop_insert (t : TypeId) (m k x : Operand) : aop c C (.insert t m k x) g H = obind (aev g m) fun a => obind (aev g k) fun b => obind (aev g x) fun y => obind (mapUpdateA c.P t a b y H) fun H' => some (.tu [], H') := rfl
theorem aop_extract (x : Operand) (i : Nat) : aop c C (.extract x i) g H = obind (aev g x) fun a => obind (extractA a i) fun r => some (r, H) := rfl
theorem aop_callB (b : Builtin) (l : List Operand) (ats : Array TypeId) : aop c C (.call ⟨.builtin b, l.toArray, ats⟩) g H = obind (aevs g l) fun as => builtinA c b ats as H := rfl
theorem aop_callF (f : FuncId) (l : List Operand) (ats : Array TypeId) : aop c C (.call ⟨.value (.func f), l.toArray, ats⟩) g H = obind (aevs g l) fun as => callA c C f (as ++ []) H := rfl
theorem aop_callT (t : Tmp) (l : List Operand) (ats : Array TypeId) : aop c C (.call ⟨.value (.tmp t), l.toArray, ats⟩) g H = obind (aevs g l) fun as => obind (g t) fun x => match x with | .fn f caps => callA c C f (as ++ caps) H | _ => none := rfl
theorem aop_makeFunc (f : FuncId) (cs : List Operand) : aop c C (.makeFunc (.func f) (List.toArray []) cs.toArray) g H = obind (aevs g cs) fun xs => some (.fn f xs, H) := rfl
theorem aop_makeMap (t : TypeId) : aop c C (.makeMap t none) g H = mapNewA (c.P.underlying t) H := by
  simp only [aop, mapNewA]
  cases c.P.underlying t with
  | none => rfl
  | some d => cases d <;> rfl
theorem blt_len (t : TypeId) (ts : List TypeId) (x : AV) : builtinA c .len (t :: ts).toArray [x] H = obind (refA H x) fun x => obind (lenA c.P t x H) fun r => some (r, H) := rfl
theorem blt_append (t u : TypeId) (ts : List TypeId) (x y : AV) : builtinA c .append (t :: u :: ts).toArray [x, y] H = if noInt c.P u then appendA c.P t x y H else none := rfl
theorem blt_copy (t : TypeId) (ts : List TypeId) (x y : AV) : builtinA c .copy (t :: ts).toArray [x, y] H = copyA c.P t x y H := rfl
theorem blt_max (ats : Array TypeId) (x y : AV) : builtinA c .max ats [x, y] H = obind (max2A x y) fun r => some (r, H) := by
  simp only [builtinA]
theorem blt_min (ats : Array TypeId) (x y : AV) : builtinA c .min ats [x, y] H = obind (min2A x y) fun r => some (r, H) := by
  simp only [builtinA]
theorem aop_slice (t : TypeId) (x : Operand) (l h : Option Operand) : aop c C (.slice t x l h none) g H = obind (aev g x) fun a => obind (aevO g l) fun lo => obind (aevO g h) fun hi => obind (refA H a) fun a => obind (sliceArrA c.P t a lo hi H) fun r => some (r, H) := rfl
end
end
end Go.AI
