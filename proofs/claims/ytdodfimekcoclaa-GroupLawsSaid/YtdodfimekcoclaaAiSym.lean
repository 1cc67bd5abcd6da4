/- The abstract interpreter: laws for values that are known only by name. No conditions. -/
import Derived.Test.YtdodfimekcoclaaAiTop
import Derived.Test.YtdodfimekcoclaaAiSimp
set_option linter.unusedVariables false
namespace Go.AI
/-- Whole numbers, bools, strings, rows of them as abstract values. -/
abbrev I (n : Int) : AV := .v (.int .i64 n)
abbrev B (b : Bool) : AV := .v (.bool b)
abbrev Ss (s : ByteArray) : AV := .v (.string s)
def Is (l : List Int) : AV := .sl false l.length (l.map I)
def Bs (l : List Bool) : List AV := l.map B
def Iss (l : List (List Int)) : AV := .sl false l.length (l.map Is)
def Ni : AV := .sl true 0 []
theorem I_eq (n : Int) : AV.v (.int .i64 n) = I n := rfl
theorem B_eq (b : Bool) : AV.v (.bool b) = B b := rfl
theorem dtrue {p : Prop} [Decidable p] (h : p) : decide p = true := decide_eq_true h
theorem dfalse {p : Prop} [Decidable p] (h : ¬ p) : decide p = false := decide_eq_false h
theorem wrap64 {n : Int} (h : -9223372036854775808 ≤ n) (h' : n < 9223372036854775808) : IntKind.i64.wrap n = n := by
  show (if (true && decide (n % 18446744073709551616 ≥ 9223372036854775808)) = true then n % 18446744073709551616 - 18446744073709551616 else n % 18446744073709551616) = n
  simp only [Bool.true_and, decide_eq_true_eq]
  split <;> omega
section
variable (P : Program) (t : TypeId)
theorem abin_add (k : IntKind) (a b : Int) : abin P .add t (.v (.int k a)) (.v (.int k b)) = some (.v (.int k (k.wrap (a + b)))) := by simp [abin, aint, obind]
theorem abin_sub (k : IntKind) (a b : Int) : abin P .sub t (.v (.int k a)) (.v (.int k b)) = some (.v (.int k (k.wrap (a - b)))) := by simp [abin, aint, obind]
theorem abin_mul (k : IntKind) (a b : Int) : abin P .mul t (.v (.int k a)) (.v (.int k b)) = some (.v (.int k (k.wrap (a * b)))) := by simp [abin, aint, obind]
theorem abin_quo (k : IntKind) {a b : Int} (h : b ≠ 0) : abin P .quo t (.v (.int k a)) (.v (.int k b)) = some (.v (.int k (k.wrap (a.tdiv b)))) := by simp [abin, aint, obind, h]
theorem abin_rem (k : IntKind) {a b : Int} (h : b ≠ 0) : abin P .rem t (.v (.int k a)) (.v (.int k b)) = some (.v (.int k (a.tmod b))) := by simp [abin, aint, obind, h]
theorem abin_lss (k : IntKind) (a b : Int) : abin P .lss t (.v (.int k a)) (.v (.int k b)) = some (.v (.bool (decide (a < b)))) := by simp [abin, aint, acmp, obind]
theorem abin_leq (k : IntKind) (a b : Int) : abin P .leq t (.v (.int k a)) (.v (.int k b)) = some (.v (.bool (decide (a ≤ b)))) := by simp [abin, aint, acmp, obind]
theorem abin_gtr (k : IntKind) (a b : Int) : abin P .gtr t (.v (.int k a)) (.v (.int k b)) = some (.v (.bool (decide (b < a)))) := by simp [abin, aint, acmp, obind]
theorem abin_geq (k : IntKind) (a b : Int) : abin P .geq t (.v (.int k a)) (.v (.int k b)) = some (.v (.bool (decide (b ≤ a)))) := by simp [abin, aint, acmp, obind]
theorem abin_eql (k : IntKind) (a b : Int) : abin P .eql t (.v (.int k a)) (.v (.int k b)) = some (.v (.bool (decide (a = b)))) := by
  by_cases h : a = b <;> simp [abin, aint, acmp, obind, h]
theorem abin_neq (k : IntKind) (a b : Int) : abin P .neq t (.v (.int k a)) (.v (.int k b)) = some (.v (.bool (decide (a ≠ b)))) := by
  by_cases h : a = b <;> simp [abin, aint, acmp, obind, h]
theorem aun_not (b : Bool) : aun .not (.v (.bool b)) = some (.v (.bool !b)) := rfl
theorem wantB_t (b : Bool) : wantB true (some (.v (.bool b))) = some b := by cases b <;> rfl
theorem wantB_f (b : Bool) : wantB false (some (.v (.bool b))) = some (!b) := by cases b <;> rfl
theorem wantB_u (w : Bool) : wantB w (some (.tu [])) = some false := rfl
theorem wantD_some (w : Bool) (g : G) (d : Nat) : wantD w g (some d) = wantB w (g d) := rfl
theorem pick_true (a b : AV) : pickA (.v (.bool true)) a b = some a := rfl
theorem pick_false (a b : AV) : pickA (.v (.bool false)) a b = some b := rfl
end
def memN : List Nat → Nat → Bool
  | [], _ => false
  | a :: r, i => if a = i then true else memN r i
theorem memN_eq (l : List Nat) (i : Nat) : l.contains i = memN l i := by
  induction l with
  | nil => rfl
  | cons a r ih =>
    simp only [List.contains_cons, memN, ih]
    by_cases h : i = a
    · subst h; simp
    · rw [if_neg (fun e => h e.symm)]; simp [h]
theorem memN_nil (i : Nat) : memN [] i = false := rfl
theorem memN_cons (a : Nat) (r : List Nat) (i : Nat) : memN (a :: r) i = if a = i then true else memN r i := rfl
theorem keep_nil (ks : List Nat) : Env.keep ks [] = [] := rfl
theorem keep_cons (ks : List Nat) (j : Nat) (x : AV) (r : Env) : Env.keep ks ((j, x) :: r) = if memN ks j then (j, x) :: Env.keep ks r else Env.keep ks r := by
  rw [← memN_eq]; rfl
theorem tailA_none (e : Env) (H : Heap) : tailA none e H = some (e, H) := rfl
theorem tailA_some (i o cl : List Nat) (tr : Option Nat) (z : List Nat) (e : Env) (H : Heap) : tailA (some (i, o, cl, tr, z)) e H = closeSlots z (e.keep o, H) := rfl
theorem exitA_none (e : Env) : exitA none e = e := rfl
theorem exitA_some (i o : List Nat) (r : List Nat × Option Nat × List Nat) (e : Env) : exitA (some (i, o, r)) e = e.keep o := rfl
theorem closeSlots_nil (s : St) : closeSlots [] s = some s := rfl
theorem headA_none (s : St) : headA none s = some s := rfl
theorem headA_plain (i o z : List Nat) (s : St) : headA (some (i, o, [], none, z)) s = some (s.1.keep i, s.2) := rfl
theorem evP_nil (g : G) : evP g [] = some [] := rfl
theorem evP_cons (g : G) (i : Nat) (o : Operand) (r : List (Nat × Operand)) : evP g ((i, o) :: r) = obind (aev g o) fun x => obind (evP g r) fun xs => some ((i, x) :: xs) := rfl
theorem aevs_nil (g : G) : aevs g [] = some [] := rfl
theorem aevs_cons (g : G) (o : Operand) (r : List Operand) : aevs g (o :: r) = obind (aev g o) fun x => obind (aevs g r) fun xs => some (x :: xs) := rfl
theorem aevO_none (g : G) : aevO g none = some none := rfl
theorem aevO_some (g : G) (o : Operand) : aevO g (some o) = obind (aev g o) fun x => some (some x) := rfl
section
variable (H : Heap)
theorem goodL_nil : goodL [] = true := rfl
theorem goodL_cons (x : AV) (r : List AV) : goodL (x :: r) = (x.good && goodL r) := rfl
theorem good_v (x : Value) : (AV.v x).good = true := rfl
theorem good_sl (f : Bool) (n : Nat) (cs : List AV) : (AV.sl f n cs).good = !f := rfl
theorem good_pt (cs : List AV) (o : Nat) : (AV.pt cs o).good = true := rfl
theorem good_ag (cs : List AV) : (AV.ag cs).good = goodL cs := rfl
theorem good_tu (cs : List AV) : (AV.tu cs).good = goodL cs := rfl
theorem good_ms (b v o n s : Nat) : (AV.ms b v o n s).good = false := rfl
theorem good_mp (b v o : Nat) : (AV.mp b v o).good = false := rfl
theorem goodL_I (l : List Int) : goodL (l.map I) = true := by
  induction l with
  | nil => rfl
  | cons a r ih => simp only [List.map_cons, goodL, ih]; rfl
theorem goodL_B (l : List Bool) : goodL (l.map B) = true := by
  induction l with
  | nil => rfl
  | cons a r ih => simp only [List.map_cons, goodL, ih]; rfl
theorem goodL_Is (l : List (List Int)) : goodL (l.map Is) = true := by
  induction l with
  | nil => rfl
  | cons a r ih => simp only [List.map_cons, goodL, ih]; rfl
theorem closeA_id (k : Nat) {x : AV} (h : x.good = true) : closeA (k + 1) H x = some (x, []) := by
  unfold closeA
  rw [if_pos h]
theorem mapC_all (k : Nat) : ∀ (l : List AV), goodL l = true → mapC (closeA (k + 1) H) l = some (l, [])
  | [], h => rfl
  | x :: r, h => by
    simp only [goodL, Bool.and_eq_true] at h
    unfold mapC
    rw [closeA_id H k h.1, obind_some, mapC_all k r h.2]
    rfl
theorem closeA_v (x : Value) : closeA depthA H (.v x) = some (.v x, []) := rfl
theorem closeA_sl (f : Bool) (n : Nat) (cs : List AV) : closeA depthA H (.sl f n cs) = some (.sl false n cs, []) := by cases f <;> rfl
theorem closeA_pt (cs : List AV) (o : Nat) : closeA depthA H (.pt cs o) = some (.pt cs o, []) := rfl
theorem closeA_ag (cs : List AV) : closeA depthA H (.ag cs) = if goodL cs then some (.ag cs, []) else obind (mapC (closeA 39 H) cs) fun q => some (.ag q.1, q.2) := rfl
theorem closeA_tu (cs : List AV) : closeA depthA H (.tu cs) = if goodL cs then some (.tu cs, []) else obind (mapC (closeA 39 H) cs) fun q => some (.tu q.1, q.2) := rfl
/-- A row of cells, closed. -/
def rowA (k : Nat) (H : Heap) (cs : List AV) : Option (List AV × List Nat) := if goodL cs then some (cs, []) else mapC (closeA k H) cs
theorem rowA_eq (k : Nat) (cs : List AV) : mapC (closeA (k + 1) H) cs = rowA (k + 1) H cs := by
  unfold rowA
  split
  · rename_i h; exact mapC_all H k cs h
  · rfl
def closeRow (k : Nat) (H : Heap) (x : Option AB) (b ver off n sz : Nat) : Option (AV × List Nat) :=
  match x with
  | some (.cells _ ver' cs) => if ver' = ver then if off + n * sz ≤ cs.length then obind (rowA k H ((cs.drop off).take (n * sz))) fun q => some (.sl false n q.1, b :: q.2) else none else none
  | _ => none
theorem closeA_ms_gen (k b ver off n sz : Nat) : closeA (k + 2) H (.ms b ver off n sz) = closeRow (k + 1) H H[b]? b ver off n sz := by
  rw [closeA]
  simp only [AV.good, Bool.false_eq_true, if_false, closeRow]
  cases H[b]? with
  | none => rfl
  | some x =>
    cases x with
    | cells l v cs => simp only [rowA_eq H k]
    | map es => rfl
theorem closeA_ms (b ver off n sz : Nat) : closeA depthA H (.ms b ver off n sz) = closeRow 39 H H[b]? b ver off n sz := closeA_ms_gen H 38 b ver off n sz
theorem closeRow_cells (k : Nat) (l : Bool) (v : Nat) (cs : List AV) (b ver off n sz : Nat) : closeRow k H (some (.cells l v cs)) b ver off n sz =
    if v = ver then if off + n * sz ≤ cs.length then obind (rowA k H ((cs.drop off).take (n * sz))) fun q => some (.sl false n q.1, b :: q.2) else none else none := rfl
theorem closeA39_v (x : Value) : closeA 39 H (.v x) = some (.v x, []) := rfl
theorem closeA39_sl (f : Bool) (n : Nat) (cs : List AV) : closeA 39 H (.sl f n cs) = some (.sl false n cs, []) := by cases f <;> rfl
theorem closeA39_ms (b ver off n sz : Nat) : closeA 39 H (.ms b ver off n sz) = closeRow 38 H H[b]? b ver off n sz := closeA_ms_gen H 37 b ver off n sz
theorem mapC_nil' (f : AV → Option (AV × List Nat)) : mapC f [] = some ([], []) := rfl
theorem mapC_cons' (f : AV → Option (AV × List Nat)) (x : AV) (r : List AV) : mapC f (x :: r) = obind (f x) fun y => obind (mapC f r) fun q => some (y.1 :: q.1, y.2 ++ q.2) := rfl
theorem cellB_v (x : Value) : (AV.v x).cellB = true := rfl
theorem cellB_sl (f : Bool) (n : Nat) (cs : List AV) : (AV.sl f n cs).cellB = true := rfl
theorem cellB_ms (b v o n s : Nat) : (AV.ms b v o n s).cellB = true := rfl
theorem cellB_mp (b v o : Nat) : (AV.mp b v o).cellB = true := rfl
theorem cellB_pt (cs : List AV) (o : Nat) : (AV.pt cs o).cellB = true := rfl
theorem cellB_mm (b : Nat) : (AV.mm b).cellB = true := rfl
theorem cellB_fn (f : FuncId) (cs : List AV) : (AV.fn f cs).cellB = true := rfl
end
theorem repl_one (n : Nat) (x : AV) : repl n [x] = List.replicate n x := by
  induction n with
  | zero => rfl
  | succ n ih => simp only [repl, ih]; rfl
theorem repl_N (n : Nat) : repl n [.sl true 0 []] = List.replicate n (.sl true 0 []) := repl_one n _
theorem repl_I (n : Nat) (x : Int) : repl n [.v (.int .i64 x)] = (List.replicate n x).map I := by rw [repl_one, List.map_replicate]
theorem repl_B (n : Nat) (b : Bool) : repl n [.v (.bool b)] = (List.replicate n b).map B := by rw [repl_one, List.map_replicate]
theorem ms_take {α : Type} {f : α → AV} {n : Nat} {l : List α} (h : l.length ≤ n) : (l.map f).take n = l.map f := List.take_of_length_le (by simpa using h)
/-- A row that is filled from the left. -/
def upto {α : Type} (g : Nat → α) (z : α) (n i : Nat) : List α := (List.range n).map fun j => if j < i then g j else z
theorem upto_zero {α : Type} (g : Nat → α) (z : α) (n : Nat) : upto g z n 0 = List.replicate n z := by
  apply List.ext_getElem?
  intro j
  simp only [upto, List.getElem?_map, List.getElem?_replicate, Nat.not_lt_zero, if_false]
  by_cases h : j < n
  · simp [h]
  · simp [h]
theorem upto_set {α : Type} (g : Nat → α) (z : α) {n i : Nat} (hi : i < n) : (upto g z n i).set i (g i) = upto g z n (i + 1) := by
  apply List.ext_getElem?
  intro j
  by_cases hj : j = i
  · subst hj
    rw [List.getElem?_set_self (by simpa [upto] using hi)]
    simp [upto, hi]
  · rw [List.getElem?_set_ne (Ne.symm hj)]
    simp only [upto, List.getElem?_map]
    by_cases h : j < n
    · have e : (j < i) = (j < i + 1) := by apply propext; constructor <;> intro h <;> omega
      simp [h, e]
    · simp [h]
theorem upto_all {α : Type} (g : Nat → α) (z : α) (n : Nat) : upto g z n n = (List.range n).map g := by
  apply List.map_congr_left
  intro j hj
  rw [if_pos (by simpa using hj)]
theorem upto_length {α : Type} (g : Nat → α) (z : α) (n i : Nat) : (upto g z n i).length = n := by simp [upto]
/-- A counting loop. -/
theorem iter_run {F : St → Option (Ex × St)} {S : Nat → St} {n : Nat} {r : Ex × St} (hs : ∀ i, i < n → F (S i) = some (.normal, S (i + 1))) (hl : F (S n) = some r) (hr : r.1 ≠ .normal) : ∀ k i, i + k = n → iter F (S i) = some r
  | 0, i, h => by
    have : i = n := by omega
    subst this
    exact iter_last hl hr
  | k + 1, i, h => iter_normal (hs i (by omega)) (iter_run hs hl hr k (i + 1) (by omega))
/-- A loop that looks at each place in turn, and leaves at the first that fails. -/
theorem iter_all {F : St → Option (Ex × St)} {S : Nat → St} {n : Nat} {q : Nat → Bool} {rt rf : Ex × St} (hs : ∀ i, i < n → q i = true → F (S i) = some (.normal, S (i + 1))) (hf : ∀ i, i < n → q i = false → F (S i) = some rf) (hl : F (S n) = some rt)
    (ht : rt.1 ≠ .normal) (hf' : rf.1 ≠ .normal) : ∀ k i, i + k = n → iter F (S i) = some (if (List.range' i k).all q then rt else rf)
  | 0, i, h => by
    have : i = n := by omega
    subst this
    exact iter_last hl ht
  | k + 1, i, h => by
    simp only [List.range'_succ, List.all_cons]
    cases hq : q i with
    | true =>
      simp only [Bool.true_and]
      exact iter_normal (hs i (by omega) hq) (iter_all hs hf hl ht hf' k (i + 1) (by omega))
    | false =>
      simp only [Bool.false_and, Bool.false_eq_true, if_false]
      exact iter_last (hf i (by omega) hq) hf'
theorem all_eq {α : Type} [DecidableEq α] {A C : List α} (d : α) (h : A.length = C.length) : ((List.range' 0 A.length).all fun i => decide (A.getD i d = C.getD i d)) = decide (A = C) := by
  rw [← List.range_eq_range']
  apply Bool.eq_iff_iff.2
  simp only [List.all_eq_true, List.mem_range, decide_eq_true_eq]
  constructor
  · intro hh
    apply List.ext_getElem h
    intro i h1 h2
    have := hh i h1
    simpa [h1, h2] using this
  · intro e i _
    rw [e]
theorem mapC_mapI (H : Heap) (l : List Int) : mapC (closeA depthA H) (l.map I) = some (l.map I, []) := mapC_all H 39 _ (goodL_I l)
theorem set_mapI (l : List Int) (k : Nat) (x : Int) : (l.map I).set k (.v (.int .i64 x)) = (l.set k x).map I := (List.map_set ..).symm
theorem set_mapB (l : List Bool) (k : Nat) (x : Bool) : (l.map B).set k (.v (.bool x)) = (l.set k x).map B := (List.map_set ..).symm
theorem app_oneIs (l : List (List Int)) (c : List Int) : l.map Is ++ [.sl false c.length (c.map I)] = (l ++ [c]).map Is := by rw [List.map_append]; rfl
theorem cons_mapIs (c : List Int) (l : List (List Int)) : .sl false c.length (c.map I) :: l.map Is = (c :: l).map Is := rfl
theorem take_mapI (k : Nat) (l : List Int) : (l.map I).take k = (l.take k).map I := (List.map_take ..).symm
theorem drop_mapI (k : Nat) (l : List Int) : (l.map I).drop k = (l.drop k).map I := (List.map_drop ..).symm
theorem app_mapI (l m : List Int) : l.map I ++ m.map I = (l ++ m).map I := (List.map_append ..).symm
theorem cons_mapI (x : Int) (l : List Int) : .v (.int .i64 x) :: l.map I = (x :: l).map I := rfl
theorem app_oneI (l : List Int) (x : Int) : l.map I ++ [.v (.int .i64 x)] = (l ++ [x]).map I := by rw [List.map_append]; rfl
theorem closeSlots_cons (t : Nat) (r : List Nat) (e : Env) (H : Heap) : closeSlots (t :: r) (e, H) = obind (e.get t) fun x => obind (closeA depthA H x) fun q => closeSlots r (e.put t q.1, markA H q.2) := rfl
theorem headA_close (i o cl z : List Nat) (e : Env) (H : Heap) : headA (some (i, o, cl, none, z)) (e, H) = obind (closeSlots cl (e.keep i, H)) fun s => some s := rfl
theorem headA_cut (i o cl z : List Nat) (m : Nat) (e : Env) (H : Heap) : headA (some (i, o, cl, some m, z)) (e, H) = obind (closeSlots cl (e.keep i, H)) fun s => truncA m s := rfl
theorem truncA_eq (m : Nat) (e : Env) (H : Heap) : truncA m (e, H) = if (e.all fun p => p.2.under m) && (H.take m).all (AB.under m) then some (e, H.take m) else none := rfl
theorem under_v (m : Nat) (x : Value) : (AV.v x).under m = true := rfl
theorem under_sl (m : Nat) (f : Bool) (n : Nat) (cs : List AV) : (AV.sl f n cs).under m = true := rfl
theorem under_pt (m : Nat) (cs : List AV) (o : Nat) : (AV.pt cs o).under m = true := rfl
theorem under_ms (m b v o n s : Nat) : (AV.ms b v o n s).under m = decide (b < m) := rfl
theorem under_mp (m b v o : Nat) : (AV.mp b v o).under m = decide (b < m) := rfl
theorem under_mm (m b : Nat) : (AV.mm b).under m = decide (b < m) := rfl
theorem under_cells (m : Nat) (l : Bool) (v : Nat) (cs : List AV) : (AB.cells l v cs).under m = underL m cs := rfl
theorem underL_nil (m : Nat) : underL m [] = true := rfl
theorem underL_cons (m : Nat) (x : AV) (r : List AV) : underL m (x :: r) = (x.under m && underL m r) := rfl
theorem underL_I (m : Nat) (l : List Int) : underL m (l.map I) = true := by
  induction l with
  | nil => rfl
  | cons a r ih => simp only [List.map_cons, underL, ih]; rfl
theorem underL_B (m : Nat) (l : List Bool) : underL m (l.map B) = true := by
  induction l with
  | nil => rfl
  | cons a r ih => simp only [List.map_cons, underL, ih]; rfl
theorem underL_Is (m : Nat) (l : List (List Int)) : underL m (l.map Is) = true := by
  induction l with
  | nil => rfl
  | cons a r ih => simp only [List.map_cons, underL, ih]; rfl
theorem underL_app (m : Nat) (a b : List AV) : underL m (a ++ b) = (underL m a && underL m b) := by
  induction a with
  | nil => simp [underL]
  | cons x r ih => simp only [List.cons_append, underL, ih, Bool.and_assoc]
theorem take_map_cons {α : Type} (f : α → AV) (y : α) (l : List α) : List.take (l.length + 1) (List.map f (y :: l)) = List.map f (y :: l) := List.take_of_length_le (by simp)
theorem markA_nil (H : Heap) : markA H [] = H := rfl
def freezeAt (H : Heap) (b : Nat) (x : Option AB) : Heap := match x with | some x => H.set b x.freeze | none => H
theorem markA_cons (H : Heap) (b : Nat) (r : List Nat) : markA H (b :: r) = markA (freezeAt H b H[b]?) r := rfl
theorem freezeAt_cells (H : Heap) (b : Nat) (l : Bool) (v : Nat) (cs : List AV) : freezeAt H b (some (.cells l v cs)) = H.set b (.cells false v cs) := rfl
/-- The body of the loop in a block. -/
def loopIn (k : Nat) : Nat → Code → Option Code
  | cur, .loop a => if cur = k then some a else loopIn k cur a
  | _, .block id a => loopIn k id a
  | cur, .seq a b => match loopIn k cur a with | some x => some x | none => loopIn k cur b
  | cur, .cond _ a b => match loopIn k cur a with | some x => some x | none => loopIn k cur b
  | _, _ => none
def loopOf (k : Nat) (fn : Func) : Option Code := fn.body.bind (loopIn k 999998)
/- The rewriting laws, gathered. -/
attribute [push_cast]
  acond_true acond_false thenA_normal thenA_ret thenA_exit blockA_normal blockA_ret blockA_exit nextA_some guardA_true guardA_false regA_some pruneA_none pruneA_some loopA_some endA_normal
  endA_ret endA_exit get_nil get_cons put_nil put_cons aev_tmp aev_func aev_int aev_bool aev_string aev_nilslice aev_nilptr blt_len blt_append blt_copy blt_max blt_min obind_some roundA
  callA closeL mapC_nil' mapC_cons' closeA_v closeA_sl closeA_pt closeA_ag closeA_tu closeA_ms closeRow_cells closeA39_v closeA39_sl closeA39_ms rowA goodL_nil goodL_cons good_v good_sl
  good_pt good_ag good_tu good_ms good_mp goodL_I goodL_B goodL_Is Bool.and_true Bool.true_and Bool.and_self List.append_nil List.drop_zero Env.ofList keep_nil keep_cons memN_nil memN_cons
  tailA_none tailA_some exitA_none exitA_some pruneA_none pruneA_some closeSlots_nil headA_none headA_plain abin_add abin_sub abin_mul abin_lss abin_leq abin_gtr abin_geq abin_eql abin_neq
  aun_not wantB_t wantB_f wantB_u wantD_some pick_true pick_false lenA refA assignA indexAddrA indexA fieldA fieldAddrA loadA storeA storeCellsA cellsAt partA slc splice nilCheckA extractA
  flat makeSliceA appendA sourceA newVarA virt resA tupA Option.bind_some Bool.not_true Bool.not_false Bool.false_eq_true List.all_cons List.all_nil cellB_v cellB_sl cellB_ms cellB_mp
  cellB_pt cellB_mm cellB_fn set_mapI set_mapB List.getElem?_cons_zero List.getElem?_cons_succ List.length_cons List.length_nil List.set_cons_zero List.set_cons_succ dtrue dfalse wrap64
  take_mapI drop_mapI app_mapI app_oneI closeSlots_cons headA_close headA_cut truncA_eq under_v under_sl under_pt under_ms under_mp under_mm under_cells underL_nil underL_cons underL_I
  underL_B underL_Is markA_nil markA_cons freezeAt_cells List.take_succ_cons List.take_zero Int.toNat_zero Nat.sub_zero List.length_take true_or or_true List.length_append List.length_drop
  Nat.sub_self abuildSlice fillA List.replicate_zero List.replicate_succ Nat.zero_mul Nat.mul_zero Nat.zero_le boundA sliceA sliceArrA repl_N repl_I repl_B ms_take List.length_replicate
  List.nil_append List.cons_append cons_mapI mapC_mapI List.map_nil Is Bs Ni List.getElem?_map Option.map_some Nat.mul_one Int.toNat_natCast Nat.zero_add Nat.add_zero List.length_map
  and_true true_and List.length_set decide_true decide_false underL_app
end Go.AI