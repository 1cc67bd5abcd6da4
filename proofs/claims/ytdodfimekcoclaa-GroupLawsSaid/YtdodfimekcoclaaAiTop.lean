/- The abstract interpreter: calls and loops without a bound. Conditions: none. -/
import Derived.Test.YtdodfimekcoclaaAiRun
set_option linter.unusedVariables false
set_option linter.unusedSimpArgs false
namespace Go.AI
def Ev {α : Type} (X : Nat → Option α) (r : α) : Prop := ∃ n, ∀ m, n ≤ m → X m = some r
open Classical in
noncomputable def lim {α : Type} (X : Nat → Option α) : Option α := if h : ∃ r, Ev X r then some h.choose else none
theorem Ev.uniq {α : Type} {X : Nat → Option α} {r s : α} (h : Ev X r) (h' : Ev X s) : r = s := by
  obtain ⟨n, hn⟩ := h
  obtain ⟨m, hm⟩ := h'
  have h1 := hn (max n m) (Nat.le_max_left _ _)
  have h2 := hm (max n m) (Nat.le_max_right _ _)
  rw [h1] at h2
  cases h2; rfl
theorem lim_iff {α : Type} {X : Nat → Option α} {r : α} : lim X = some r ↔ Ev X r := by
  unfold lim
  split
  · rename_i h
    constructor
    · intro e; cases e; exact h.choose_spec
    · intro e; rw [h.choose_spec.uniq e]
  · rename_i h
    constructor
    · intro e; cases e
    · intro e; exact absurd ⟨r, e⟩ h
theorem Ev.bind {α β : Type} {X : Nat → Option α} {f : Nat → α → Option β} {a : α} {r : β} (h : Ev X a) (h' : Ev (fun n => f n a) r) : Ev (fun n => obind (X n) (f n)) r := by
  obtain ⟨n, hn⟩ := h
  obtain ⟨m, hm⟩ := h'
  refine ⟨max n m, fun k hk => ?_⟩
  have h1 := hn k (Nat.le_trans (Nat.le_max_left _ _) hk)
  have h2 := hm k (Nat.le_trans (Nat.le_max_right _ _) hk)
  simp only [h1, obind_some]
  exact h2
theorem Ev.const {α : Type} {x : Option α} {r : α} (h : x = some r) : Ev (fun _ => x) r := ⟨0, fun _ _ => h⟩
noncomputable def call (c : Cfg) : Cl := fun f args H => lim fun n => acallN c n f args H
noncomputable def iter : Lp := fun F s => lim fun n => iterN n F s
/-- What is eventually found by bounded calls, bounded loops. -/
def LimC (c : Cfg) (C : Cl) : Prop := ∀ f args H r, C f args H = some r → Ev (fun n => acallN c n f args H) r
def LimL (lp : Lp) : Prop := ∀ (F : St → Option (Ex × St)) (Fn : Nat → St → Option (Ex × St)), (∀ s r, F s = some r → Ev (fun n => Fn n s) r) → ∀ s r, lp F s = some r → Ev (fun n => iterN n (Fn n) s) r
theorem iter_ev {F : St → Option (Ex × St)} {Fn : Nat → St → Option (Ex × St)} (hF : ∀ s r, F s = some r → Ev (fun n => Fn n s) r) : ∀ (N : Nat) (s : St) (r : Ex × St), iterN N F s = some r → ∃ n, ∀ m, n ≤ m → ∀ k, N ≤ k → iterN k (Fn m) s = some r
  | 0, s, r, h => by cases h
  | N + 1, s, r, h => by
    unfold iterN at h
    obtain ⟨q, hq, h⟩ := obind_eq h
    obtain ⟨n1, h1⟩ := hF s q hq
    obtain ⟨x, s'⟩ := q
    cases x with
    | normal =>
      obtain ⟨n2, h2⟩ := iter_ev hF N s' r h
      refine ⟨max n1 n2, fun m hm k hk => ?_⟩
      obtain ⟨k', rfl⟩ : ∃ k', k = k' + 1 := ⟨k - 1, by omega⟩
      unfold iterN
      simp only at h1
      rw [h1 m (by omega), obind_some]
      exact h2 m (by omega) k' (by omega)
    | exit id =>
      cases h
      refine ⟨n1, fun m hm k hk => ?_⟩
      obtain ⟨k', rfl⟩ : ∃ k', k = k' + 1 := ⟨k - 1, by omega⟩
      unfold iterN
      simp only at h1
      rw [h1 m hm, obind_some]
    | ret =>
      cases h
      refine ⟨n1, fun m hm k hk => ?_⟩
      obtain ⟨k', rfl⟩ : ∃ k', k = k' + 1 := ⟨k - 1, by omega⟩
      unfold iterN
      simp only at h1
      rw [h1 m hm, obind_some]
theorem callA_ev {c : Cfg} {C : Cl} (hC : LimC c C) {f : FuncId} {args : List AV} {H : Heap} {r : AV × Heap} (h : callA c C f args H = some r) : Ev (fun n => callA c (acallN c n) f args H) r := by
  unfold callA at h ⊢
  split
  · rename_i hs
    simp only [hs, if_true] at h
    exact hC _ _ _ _ h
  · rename_i hs
    rw [if_neg hs] at h
    obtain ⟨q, hq, h⟩ := obind_eq h
    obtain ⟨s, hs, h⟩ := obind_eq h
    refine Ev.bind (Ev.const hq) (Ev.bind (hC _ _ _ _ hs) (Ev.const h))
theorem callOpA_ev {c : Cfg} {C : Cl} (hC : LimC c C) {k : Call} {g : G} {H : Heap} {r : AV × Heap} (h : callOpA c C k g H = some r) : Ev (fun n => callOpA c (acallN c n) k g H) r := by
  unfold callOpA at h ⊢
  obtain ⟨args, ha, h⟩ := obind_eq h
  refine Ev.bind (Ev.const ha) ?_
  cases hk : k.callee with
  | builtin b => simp only [hk] at h ⊢; exact Ev.const h
  | value f =>
    simp only [hk] at h ⊢
    obtain ⟨x, hx, h⟩ := obind_eq h
    refine Ev.bind (Ev.const hx) ?_
    cases x with
    | fn f caps => exact callA_ev hC h
    | _ => cases h
  | invoke => simp only [hk] at h; cases h
theorem aop_ev {c : Cfg} {C : Cl} (hC : LimC c C) {o : Op} {g : G} {H : Heap} {r : AV × Heap} (h : aop c C o g H = some r) : Ev (fun n => aop c (acallN c n) o g H) r := by
  cases o
  case call k => exact callOpA_ev hC h
  case slice t x l hh m => cases m <;> exact Ev.const h
  all_goals exact Ev.const h
theorem aops_ev {c : Cfg} {C : Cl} (hC : LimC c C) {ops : Array Oper} : ∀ {l : List Oper} {e : Env} {H : Heap} {r : Env × Heap}, aops c C ops l e H = some r → Ev (fun n => aops c (acallN c n) ops l e H) r
  | [], e, H, r, h => Ev.const h
  | o :: l, e, H, r, h => by
    obtain ⟨t, ht, h⟩ := obind_eq h
    refine Ev.bind (Ev.const ht) ?_
    cases t with
    | true =>
      simp only [if_true] at h ⊢
      obtain ⟨q, hq, h⟩ := obind_eq h
      exact Ev.bind (aop_ev hC hq) (aops_ev hC h)
    | false =>
      simp only [Bool.false_eq_true, if_false] at h ⊢
      exact aops_ev hC h
theorem arun_ev {c : Cfg} {C : Cl} {lp : Lp} (hC : LimC c C) (hl : LimL lp) {f : FuncId} : ∀ (code : Code) (k : Nat) {e : Env} {H : Heap} {r : Ex × St}, arun c f lp C k code e H = some r → Ev (fun n => arun c f (iterN n) (acallN c n) k code e H) r := by
  intro code
  induction code with
  | region id ops dr =>
    intro k e H r h
    simp only [arun] at h ⊢
    obtain ⟨s, hs, h⟩ := obind_eq h
    exact Ev.bind (aops_ev hC hs) (Ev.const h)
  | seq u v ihu ihv =>
    intro k e H r h
    simp only [arun] at h ⊢
    obtain ⟨s, hs, h⟩ := obind_eq h
    refine Ev.bind (ihu k hs) ?_
    obtain ⟨x, s'⟩ := s
    cases x with
    | normal => exact ihv k h
    | _ => exact Ev.const h
  | cond o u v ihu ihv =>
    intro k e H r h
    simp only [arun, acond] at h ⊢
    split at h
    · rename_i t ht
      cases t with
      | true => exact ihu k h
      | false => exact ihv k h
    · cases h
  | block id u ihu =>
    intro k e H r h
    simp only [arun, blockA] at h ⊢
    obtain ⟨s, hs, h⟩ := obind_eq h
    exact Ev.bind (ihu id hs) (Ev.const h)
  | loop u ihu =>
    intro k e H r h
    simp only [arun] at h ⊢
    obtain ⟨s0, h0, h⟩ := obind_eq h
    refine Ev.bind (Ev.const h0) ?_
    exact hl _ (fun n s => obind (arun c f (iterN n) (acallN c n) k u s.1 s.2) (endA (c.ann f k))) (fun s r hr => by
      obtain ⟨s', hs', hr⟩ := obind_eq hr
      exact Ev.bind (ihu k hs') (Ev.const hr)) _ _ h
  | skip => intro k e H r h; exact Ev.const h
  | exit id => intro k e H r h; exact Ev.const h
  | ret => intro k e H r h; exact Ev.const h
  | label l => intro k e H r h; exact Ev.const h
  | _ => intro k e H r h; cases h
theorem bodyA_ev {c : Cfg} {C : Cl} {lp : Lp} (hC : LimC c C) (hl : LimL lp) {f : FuncId} {args : List AV} {H : Heap} {r : AV × Heap} (h : bodyA c lp C f args H = some r) : Ev (fun n => bodyA c (iterN n) (acallN c n) f args H) r := by
  unfold bodyA at h ⊢
  split
  · rename_i fn hf
    simp only [hf] at h
    split
    · rename_i code hb
      simp only [hb] at h
      obtain ⟨s, hs, h⟩ := obind_eq h
      exact Ev.bind (arun_ev hC hl code 0 hs) (Ev.const h)
    · rename_i hb
      simp only [hb] at h
      cases h
  · rename_i hf
    simp only [hf] at h
    cases h
theorem stepA_ev {c : Cfg} {C : Cl} {lp : Lp} (hC : LimC c C) (hl : LimL lp) {f : FuncId} {args : List AV} {H : Heap} {r : AV × Heap} (h : stepA c lp C f args H = some r) : Ev (fun n => acallN c n f args H) r := by
  have : Ev (fun n => stepA c (iterN n) (acallN c n) f args H) r := by
    unfold stepA at h ⊢
    split
    · rename_i g hg
      simp only [hg] at h
      exact Ev.const h
    · rename_i hg
      simp only [hg] at h
      split
      · rename_i hs
        simp only [hs, if_true] at h
        exact bodyA_ev hC hl h
      · rename_i hs
        rw [if_neg hs] at h
        split
        · obtain ⟨q, hq, h⟩ := obind_eq h
          exact Ev.bind (bodyA_ev hC hl hq) (Ev.const h)
        · rename_i hH
          split at h
          · exact absurd rfl hH
          · cases h
  obtain ⟨n, hn⟩ := this
  refine ⟨n + 1, fun m hm => ?_⟩
  obtain ⟨k, rfl⟩ : ∃ k, m = k + 1 := ⟨m - 1, by omega⟩
  exact hn k (by omega)
theorem limL_iterN (N : Nat) : LimL (iterN N) := by
  intro F Fn hF s r h
  obtain ⟨n, hn⟩ := iter_ev hF N s r h
  exact ⟨max n N, fun m hm => hn m (by omega) m (by omega)⟩
theorem limL_iter : LimL iter := by
  intro F Fn hF s r h
  obtain ⟨N, hN⟩ := lim_iff.1 h
  exact limL_iterN N F Fn hF s r (hN N (Nat.le_refl _))
theorem limC_call (c : Cfg) : LimC c (call c) := fun f args H r h => lim_iff.1 h
theorem limC_acallN (c : Cfg) : ∀ n, LimC c (acallN c n)
  | 0 => fun f args H r h => by cases h
  | n + 1 => fun f args H r h => stepA_ev (limC_acallN c n) (limL_iterN n) h
/-- A bounded run will do. -/
theorem call_run {c : Cfg} (n : Nat) {f : FuncId} {args : List AV} {H : Heap} {r : AV × Heap} (h : acallN c n f args H = some r) : call c f args H = some r := lim_iff.2 (limC_acallN c n f args H r h)
theorem call_step {c : Cfg} {f : FuncId} {args : List AV} {H : Heap} {r : AV × Heap} (h : stepA c iter (call c) f args H = some r) : call c f args H = some r := lim_iff.2 (stepA_ev (limC_call c) limL_iter h)
/-- A function that keeps its own heap to itself. -/
theorem call_pure {c : Cfg} {f : FuncId} {args : List AV} (ho : c.ov f = none) (hs : c.shared f = false) {fn : Func} {code : Code} (hf : c.P.funcs[f]? = some fn) (hb : fn.body = some code) {s : Ex × St} {xs : List AV} {y : AV × List Nat}
    (h : arun c f iter (call c) 0 code (Env.ofList 0 args) [] = some s) (hx : ∀ id, s.1 ≠ .exit id) (hr : resA c.P s.2.2 s.2.1.get fn.results.toList = some xs) (hc : closeA depthA s.2.2 (tupA xs) = some y) : call c f args [] = some (y.1, []) := by
  refine call_step ?_
  have hB : bodyA c iter (call c) f args [] = some (tupA xs, s.2.2) := by
    unfold bodyA
    simp only [hf, hb, h, obind_some]
    obtain ⟨x, e, H⟩ := s
    cases x with
    | exit id => exact absurd rfl (hx id)
    | normal => simp only [hr, obind_some]
    | ret => simp only [hr, obind_some]
  unfold stepA
  simp only [ho, hs, Bool.false_eq_true, if_false, hB, obind_some, hc]
theorem iter_unfold {F : St → Option (Ex × St)} {s : St} {r : Ex × St} (h : obind (F s) (fun q => match q.1 with | .normal => iter F q.2 | _ => some q) = some r) : iter F s = some r := by
  obtain ⟨⟨x, s'⟩, hq, h⟩ := obind_eq h
  refine lim_iff.2 ?_
  cases x with
  | normal =>
    obtain ⟨n, hn⟩ := lim_iff.1 h
    refine ⟨n + 1, fun m hm => ?_⟩
    obtain ⟨k, rfl⟩ : ∃ k, m = k + 1 := ⟨m - 1, by omega⟩
    show iterN (k + 1) F s = some r
    unfold iterN
    rw [hq, obind_some]
    exact hn k (by omega)
  | exit id =>
    refine ⟨1, fun m hm => ?_⟩
    obtain ⟨k, rfl⟩ : ∃ k, m = k + 1 := ⟨m - 1, by omega⟩
    show iterN (k + 1) F s = some r
    unfold iterN
    rw [hq, obind_some]
    exact h
  | ret =>
    refine ⟨1, fun m hm => ?_⟩
    obtain ⟨k, rfl⟩ : ∃ k, m = k + 1 := ⟨m - 1, by omega⟩
    show iterN (k + 1) F s = some r
    unfold iterN
    rw [hq, obind_some]
    exact h
theorem iter_normal {F : St → Option (Ex × St)} {s s' : St} {r : Ex × St} (h : F s = some (.normal, s')) (h' : iter F s' = some r) : iter F s = some r := iter_unfold (by rw [h, obind_some]; exact h')
theorem iter_last {F : St → Option (Ex × St)} {s : St} {r : Ex × St} (h : F s = some r) (hn : r.1 ≠ .normal) : iter F s = some r := iter_unfold (by
  rw [h, obind_some]
  split
  · rename_i e; exact absurd e hn
  · rfl)
theorem call_sound {c : Cfg} (hF : Fit c) : SoundC c (call c) := by
  intro f args H r H' h
  obtain ⟨n, hn⟩ := lim_iff.1 h
  exact acallN_sound hF n f args H r H' (hn n (Nat.le_refl _))
/-- A table of what is kept behind regions. -/
def prOf1 : List (Nat × List Nat) → Nat → Option (List Nat)
  | [], _ => none
  | (k, ks) :: r, i => if k = i then some ks else prOf1 r i
def prOf : List (Nat × List (Nat × List Nat)) → FuncId → Nat → Option (List Nat)
  | [], _, _ => none
  | (f', l) :: r, f, i => if f' = f then prOf1 l i else prOf r f i
theorem prOf_none : ∀ {T : List (Nat × List (Nat × List Nat))} {f : FuncId}, (T.all fun e => !(e.1 == f)) = true → ∀ i, prOf T f i = none
  | [], f, _, i => rfl
  | (f', l) :: r, f, h, i => by
    simp only [List.all_cons, Bool.and_eq_true, Bool.not_eq_true', beq_eq_false_iff_ne] at h
    rw [prOf, if_neg h.1]
    exact prOf_none h.2 i
/-- A table of what is known of blocks. -/
def annOf : List (Nat × Nat × Ann) → FuncId → Nat → Option Ann
  | [], _, _ => none
  | (f', k', a) :: r, f, k => if f' = f ∧ k' = k then some a else annOf r f k
theorem annOf_mem : ∀ {T : List (Nat × Nat × Ann)} {f : FuncId} {k : Nat} {a : Ann}, annOf T f k = some a → (f, k, a) ∈ T
  | [], f, k, a, h => by cases h
  | (f', k', a') :: r, f, k, a, h => by
    simp only [annOf] at h
    split at h
    · rename_i hh
      obtain ⟨rfl, rfl⟩ := hh
      cases h
      simp
    · exact List.mem_cons_of_mem _ (annOf_mem h)
def noCut (sh : FuncId → Bool) (T : List (Nat × Nat × Ann)) : Bool := T.all fun e => !(sh e.1) || e.2.2.2.2.2.1.isNone
theorem annOf_cut {sh : FuncId → Bool} {T : List (Nat × Nat × Ann)} (hc : noCut sh T = true) {f : FuncId} (hf : sh f = true) {k m : Nat} {i o cl z : List Nat} (h : annOf T f k = some (i, o, cl, some m, z)) : False := by
  have := List.all_eq_true.1 hc _ (annOf_mem h)
  simp [hf] at this
end Go.AI
