/- The abstract interpreter: the operations of a region, in the order of the text and in any order. Conditions: the callees' contracts; a check of the region's text. -/
import Derived.Test.YtdodfimekcoclaaAiCode1
set_option linter.unusedVariables false
set_option linter.unusedSimpArgs false
namespace Go.AI

def upd (g : G) (d : Option Nat) (x : AV) : G := match d with | some i => fun t => if t = i then some x else g t | none => g
theorem get_put (i : Nat) (x : AV) : ∀ (e : Env) (t : Nat), (e.put i x).get t = if t = i then some x else e.get t
  | [], t => by simp only [Env.put, Env.get, eq_comm]
  | (j, y) :: r, t => by
    simp only [Env.put]
    split
    · rename_i hj
      subst hj
      simp only [Env.get]
      by_cases h : t = j
      · subst h; simp
      · rw [if_neg (fun e => h e.symm), if_neg h, if_neg (fun e => h e.symm)]
    · rename_i hj
      split
      · simp only [Env.get]
        by_cases h : t = i
        · subst h; simp
        · rw [if_neg (fun e => h e.symm), if_neg h]
      · simp only [Env.get, get_put i x r t]
        by_cases h : t = i
        · subst h; simp [hj]
        · simp [h]
theorem get_putA (e : Env) (d : Option Nat) (x : AV) : (putA e d x).get = upd e.get d x := by
  cases d with
  | none => rfl
  | some i => funext t; exact get_put i x e t
theorem upd_comm (g : G) {d e : Option Nat} (x y : AV) (h : ∀ i, d = some i → e ≠ some i) : upd (upd g d x) e y = upd (upd g e y) d x := by
  cases d with
  | none => rfl
  | some i =>
    cases e with
    | none => rfl
    | some j =>
      have : j ≠ i := fun hh => h i rfl (by rw [hh])
      funext t
      simp only [upd]
      by_cases h1 : t = j
      · subst h1; simp [this]
      · simp [h1]

/-! ### One operation of a region -/
def stepG (c : Cfg) (C : Cl) (ops : Array Oper) (o : Oper) (g : G) (H : Heap) : Option (G × Heap) :=
  obind (wantA ops o g) fun t => if t then obind (aop c C o.op g H) fun q => some (upd g o.dst q.1, q.2) else some (upd g o.dst (.tu []), H)
def stepsG (c : Cfg) (C : Cl) (ops : Array Oper) : List Oper → G → Heap → Option (G × Heap)
  | [], g, H => some (g, H)
  | o :: r, g, H => obind (stepG c C ops o g H) fun s => stepsG c C ops r s.1 s.2
theorem aops_G {c : Cfg} {C : Cl} {ops : Array Oper} : ∀ {l : List Oper} {e : Env} {H : Heap} {e' : Env} {H' : Heap}, aops c C ops l e H = some (e', H') → stepsG c C ops l e.get H = some (e'.get, H')
  | [], e, H, e', H', h => by cases h; rfl
  | o :: r, e, H, e', H', h => by
    obtain ⟨t, ht, h⟩ := obind_eq h
    simp only [stepsG, stepG, ht, obind_some]
    cases t with
    | true =>
      simp only [if_true] at h ⊢
      obtain ⟨q, hq, h⟩ := obind_eq h
      rw [hq]
      simp only [obind_some]
      have := aops_G h
      rw [get_putA] at this
      exact this
    | false =>
      simp only [Bool.false_eq_true, if_false] at h ⊢
      have := aops_G h
      rw [get_putA] at this
      exact this

section
variable {K : Kx} {H : Heap} {p : Pl} {w : World}
theorem EnvR.upd {κ : Kap} {g : G} {a : Act} (hE : EnvR κ g a) {d : Option Nat} {x : AV} {u : Value} (hu : VR κ x u) (hd : ∀ i, d = some i → i < a.tmps.size) : EnvR κ (upd g d x) (a.put d u) := by
  cases d with
  | none => exact hE
  | some i =>
    intro t y ht
    simp only [AI.upd] at ht
    simp only [Act.put]
    split at ht
    · rename_i h
      subst h
      cases ht
      have : (a.tmps.setIfInBounds t u).getD t undef = u := by simp [hd t rfl]
      rw [this]; exact hu
    · rename_i h
      have : (a.tmps.setIfInBounds i u).getD t undef = a.tmps.getD t undef := by
        simp [Array.getElem?_setIfInBounds_ne (Ne.symm h)]
      rw [this]; exact hE t y ht
theorem want_sound {κ : Kap} {ops : Array Oper} {o : Oper} {g : G} {a : Act} {t : Bool} (h : wantA ops o g = some t) (hE : EnvR κ g a) : Region.wanted o (yielded ops a.tmps) = t := by
  unfold wantA at h
  unfold Region.wanted
  split at h
  · rename_i hg; rw [hg]; cases h; rfl
  · rename_i j want hg
    rw [hg]
    simp only
    unfold yielded
    split at h
    · cases h
    · rename_i d hd
      rw [hd]
      simp only [Option.bind_some]
      split at h
      · rename_i b hb
        cases h
        have := (hE d _ hb).v_eq
        have h2 : a.tmps[d]? = some (.bool b) := by
          cases h3 : a.tmps[d]? with
          | none => simp [h3, undef] at this
          | some y => simp [h3] at this; rw [this]
        rw [h2]
        simp
      · rename_i hb
        cases h
        have hu := hE d _ hb
        simp only [VR] at hu
        obtain ⟨us, h4, h5⟩ := hu
        cases h3 : a.tmps[d]? with
        | none => simp
        | some y =>
          simp [h3] at h4
          subst h4
          simp
      · cases h
/-- What one operation of a region does in the program. -/
theorem step_sound {c : Cfg} {C : Cl} {ops : Array Oper} {o : Oper} {g g' : G} {H' : Heap} {a : Act} (hC : SoundC c C) (h : stepG c C ops o g H = some (g', H')) (hI : Inv K H p w) (hE : EnvR (kap K H p w) g a)
    (hd : ∀ i, o.dst = some i → i < a.tmps.size) {next : Act → World → Prop} {Q : Exit → Act → World → Prop}
    (hn : ∀ a' w' p', Inv K H' p' w' → PK (kap K H p w) (kap K H' p' w') → EnvR (kap K H' p' w') g' a' → a'.tmps.size = a.tmps.size → a'.defers = a.defers → next a' w') :
    if Region.wanted o (yielded ops a.tmps) then o.wp c.P a w next Q ∨ (o.asks c.P a w ∧ LetsOut Q) else next (a.put o.dst undef) w := by
  have hsz : ∀ u, (a.put o.dst u).tmps.size = a.tmps.size := by
    intro u
    cases o.dst <;> simp [Act.put]
  have hdf : ∀ u, (a.put o.dst u).defers = a.defers := by
    intro u
    cases o.dst <;> simp [Act.put]
  obtain ⟨t, ht, h⟩ := obind_eq h
  have hw := want_sound ht hE
  cases t with
  | true =>
    simp only [if_true] at h
    obtain ⟨q, hq, h⟩ := obind_eq h
    cases h
    rw [if_pos hw]
    refine .inl (opw hC hq hI hE fun u w' ⟨p', h1, h2, h3⟩ => ?_)
    exact hn _ w' p' h1 h2 ((hE.mono h2).upd h3 hd) (hsz u) (hdf u)
  | false =>
    simp only [Bool.false_eq_true, if_false] at h
    cases h
    rw [if_neg (by rw [hw]; decide)]
    refine hn _ w p hI (PK.refl _) (hE.upd ?_ hd) (hsz _) (hdf _)
    simp only [VR]
    exact ⟨[], rfl, .nil⟩
theorem steps_sound {c : Cfg} {C : Cl} {ops : Array Oper} (hC : SoundC c C) {Q : Exit → Act → World → Prop} {n : Nat} : ∀ (l : List Oper) {g g' : G} {H H' : Heap} {p : Pl} {w : World} {a : Act},
    stepsG c C ops l g H = some (g', H') → Inv K H p w → EnvR (kap K H p w) g a → a.tmps.size = n → (∀ o ∈ l, ∀ i, o.dst = some i → i < n) →
    (∀ a' w' p', Inv K H' p' w' → PK (kap K H p w) (kap K H' p' w') → EnvR (kap K H' p' w') g' a' → a'.tmps.size = n → a'.defers = a.defers → Q .normal a' w') → wpList c.P ops Q l a w
  | [], g, g', H, H', p, w, a, h, hI, hE, hs, hd, hn => by cases h; exact hn a w p hI (PK.refl _) hE hs rfl
  | o :: r, g, g', H, H', p, w, a, h, hI, hE, hs, hd, hn => by
    obtain ⟨⟨g1, H1⟩, h1, h⟩ := obind_eq h
    unfold wpList
    refine step_sound hC h1 hI hE (fun i hi => by rw [hs]; exact hd o (by simp) i hi) fun a' w' p' i1 i2 i3 i4 i5 => ?_
    refine steps_sound hC r h i1 i3 (by rw [i4, hs]) (fun o' ho' => hd o' (by simp [ho'])) fun a2 w2 p2 j1 j2 j3 j4 j5 => ?_
    exact hn a2 w2 p2 j1 (i2.trans j2) j3 j4 (by rw [j5, i5])
end
end Go.AI
