/- The abstract interpreter: what an abstract value says of a value in a world; that it goes on saying so. No conditions. -/
import Derived.Test.YtdodfimekcoclaaAiDefs
set_option linter.unusedVariables false
namespace Go.AI

/-- Where a block of the own heap lies: its version; nowhere (it is empty), or a block and the place of its first cell. -/
abbrev Pl := Nat → Option (Nat × Option (Nat × Nat))
structure Kap where
  w : World
  A : Nat → Prop
  p : Pl

def RowSz (w : World) (b k : Nat) : Prop := ∃ c e fr, w.heap[b]? = some (.cells c e fr) ∧ k ≤ c.size
def RowAt (κ : Kap) (b o : Nat) (us : List Value) : Prop :=
  (∀ j u, us[j]? = some u → κ.w.cell? ⟨b, o + j, none⟩ = some u) ∧ (us ≠ [] → ¬ κ.A b) ∧ ∀ u ∈ us, u.oneCell' = true
def SlAt (κ : Kap) (n : Nat) (ad : Option Addr) (us : List Value) : Prop :=
  match ad with
  | none => us = []
  | some a => (0 < n ∨ us ≠ [] → a.spot = none) ∧ RowAt κ a.block a.off us
def MsR (w : World) (off n sz : Nat) (u : Value) : Option (Nat × Nat) → Prop
  | none => n = 0 ∧ ∃ ad, u = .slice ad 0 0
  | some (rb, o) => sz ≠ 0 ∧ ∃ cap ao, u = .slice (some ⟨rb, ao, none⟩) n cap ∧ n ≤ cap ∧ (0 < n → ao = o + off) ∧ RowSz w rb (ao + cap * sz)

mutual
def VR (κ : Kap) : AV → Value → Prop
  | .v x, u => u = x ∧ x.oneCell' = true
  | .sl full n cs, u => ∃ ad cap, u = .slice ad n cap ∧ n ≤ cap ∧ (full = true → cap = n) ∧ (0 < n → ad.isSome = true) ∧ goodL cs = true ∧ ∃ us, VRs κ cs us ∧ SlAt κ n ad us
  | .pt cs off, u => ∃ b o, u = .pointer (some ⟨b, o + off, none⟩) ∧ goodL cs = true ∧ ∃ us, VRs κ cs us ∧ RowAt κ b o us
  | .ms b ver off n sz, u => u.oneCell' = true ∧ ∃ v x, κ.p b = some (v, x) ∧ ver ≤ v ∧ (v = ver → MsR κ.w off n sz u x)
  | .mp b ver off, u => u.oneCell' = true ∧ ∃ v x, κ.p b = some (v, x) ∧ ver ≤ v ∧ (v = ver → ∃ rb o, x = some (rb, o) ∧ u = .pointer (some ⟨rb, o + off, none⟩))
  | .mm b, u => u.oneCell' = true ∧ ∃ v x, κ.p b = some (v, x) ∧ (v = 0 → ∃ rb, x = some (rb, 0) ∧ u = .map (some rb))
  | .ag cs, u => ∃ us : List Value, u = .agg us.toArray ∧ VRs κ cs us ∧ ∀ y ∈ us, y.oneCell' = true
  | .tu cs, u => ∃ us : List Value, u = .tuple us.toArray ∧ VRs κ cs us
  | .fn f cs, u => ∃ us : List Value, u = .func (.func f) #[] us.toArray ∧ VRs κ cs us
def VRs (κ : Kap) : List AV → List Value → Prop
  | [], us => us = []
  | x :: r, us => ∃ u s, us = u :: s ∧ VR κ x u ∧ VRs κ r s
end

/-- One world after another: what was said goes on to be true. -/
structure PK (κ κ' : Kap) : Prop where
  cell : ∀ a u, ¬ κ.A a.block → κ.w.cell? a = some u → κ'.w.cell? a = some u
  avo : ∀ b, κ'.A b → κ.A b ∨ κ.w.heap.size ≤ b
  size : κ.w.heap.size ≤ κ'.w.heap.size
  row : ∀ b k, RowSz κ.w b k → RowSz κ'.w b k
  pl : ∀ b v x, κ.p b = some (v, x) → ∃ v' x', κ'.p b = some (v', x') ∧ ((v' = v ∧ x' = x) ∨ v < v')

theorem PK.refl (κ : Kap) : PK κ κ := ⟨fun _ _ _ h => h, fun _ h => .inl h, Nat.le_refl _, fun _ _ h => h, fun b v x h => ⟨v, x, h, .inl ⟨rfl, rfl⟩⟩⟩
theorem PK.trans {κ κ' κ'' : Kap} (h : PK κ κ') (h' : PK κ' κ'') : PK κ κ'' := by
  refine ⟨fun a u hA hc => h'.cell a u (fun h1 => ?_) (h.cell a u hA hc), fun b hb => ?_, Nat.le_trans h.size h'.size, fun b k hr => h'.row b k (h.row b k hr), fun b v x hp => ?_⟩
  · rcases h.avo _ h1 with h2 | h2
    · exact hA h2
    · have := World.block_lt_of_cell? _ _ hc
      omega
  · rcases h'.avo b hb with h1 | h1
    · exact h.avo b h1
    · exact .inr (Nat.le_trans h.size h1)
  · obtain ⟨v1, x1, h1, h2⟩ := h.pl b v x hp
    obtain ⟨v2, x2, h3, h4⟩ := h'.pl b v1 x1 h1
    refine ⟨v2, x2, h3, ?_⟩
    rcases h2 with ⟨rfl, rfl⟩ | h2
    · exact h4
    · rcases h4 with ⟨rfl, rfl⟩ | h4
      · exact .inr h2
      · exact .inr (Nat.lt_trans h2 h4)

theorem RowAt.mono {κ κ' : Kap} (h : PK κ κ') {b o : Nat} {us : List Value} (hr : RowAt κ b o us) : RowAt κ' b o us := by
  refine ⟨fun j u hj => ?_, fun hne => ?_, hr.2.2⟩
  · have hne : us ≠ [] := by intro h0; rw [h0] at hj; simp at hj
    exact h.cell _ _ (hr.2.1 hne) (hr.1 j u hj)
  · intro hA
    obtain ⟨u, us', rfl⟩ := List.exists_cons_of_ne_nil hne
    have hc := hr.1 0 u rfl
    have hlt := World.block_lt_of_cell? _ _ hc
    rcases h.avo _ hA with h1 | h1
    · exact hr.2.1 hne h1
    · simp at hlt; omega
theorem SlAt.mono {κ κ' : Kap} (h : PK κ κ') {n : Nat} {ad : Option Addr} {us : List Value} (hr : SlAt κ n ad us) : SlAt κ' n ad us := by
  cases ad with
  | none => exact hr
  | some a => exact ⟨hr.1, hr.2.mono h⟩
theorem MsR.mono {w w' : World} (h : ∀ b k, RowSz w b k → RowSz w' b k) {off n sz : Nat} {u : Value} {x : Option (Nat × Nat)} (hr : MsR w off n sz u x) : MsR w' off n sz u x := by
  cases x with
  | none => exact hr
  | some q =>
    obtain ⟨rb, o⟩ := q
    obtain ⟨hz, cap, ao, h1, h2, h3, h4⟩ := hr
    exact ⟨hz, cap, ao, h1, h2, h3, h _ _ h4⟩
mutual
theorem VR.mono {κ κ' : Kap} (h : PK κ κ') : ∀ (x : AV) (u : Value), VR κ x u → VR κ' x u
  | .v _, u, hx => by simp only [VR] at hx ⊢; exact hx
  | .sl full n cs, u, hx => by
    simp only [VR] at hx ⊢
    obtain ⟨ad, cap, h1, h2, h3, h4, h5, us, h6, h7⟩ := hx
    exact ⟨ad, cap, h1, h2, h3, h4, h5, us, VRs.mono h cs us h6, h7.mono h⟩
  | .pt cs off, u, hx => by
    simp only [VR] at hx ⊢
    obtain ⟨b, o, h1, h2, us, h3, h4⟩ := hx
    exact ⟨b, o, h1, h2, us, VRs.mono h cs us h3, h4.mono h⟩
  | .ms b ver off n sz, u, hx => by
    simp only [VR] at hx ⊢
    obtain ⟨h0, v, x, h1, h2, h3⟩ := hx
    obtain ⟨v', x', h4, h5⟩ := h.pl b v x h1
    rcases h5 with ⟨rfl, rfl⟩ | h5
    · exact ⟨h0, _, _, h4, h2, fun e => (h3 e).mono h.row⟩
    · exact ⟨h0, _, _, h4, by omega, fun e => by omega⟩
  | .mp b ver off, u, hx => by
    simp only [VR] at hx ⊢
    obtain ⟨h0, v, x, h1, h2, h3⟩ := hx
    obtain ⟨v', x', h4, h5⟩ := h.pl b v x h1
    rcases h5 with ⟨rfl, rfl⟩ | h5
    · exact ⟨h0, _, _, h4, h2, h3⟩
    · exact ⟨h0, _, _, h4, by omega, fun e => by omega⟩
  | .mm b, u, hx => by
    simp only [VR] at hx ⊢
    obtain ⟨h0, v, x, h1, h3⟩ := hx
    obtain ⟨v', x', h4, h5⟩ := h.pl b v x h1
    rcases h5 with ⟨rfl, rfl⟩ | h5
    · exact ⟨h0, _, _, h4, h3⟩
    · exact ⟨h0, _, _, h4, fun e => by omega⟩
  | .ag cs, u, hx => by
    simp only [VR] at hx ⊢
    obtain ⟨us, h1, h2, h3⟩ := hx
    exact ⟨us, h1, VRs.mono h cs us h2, h3⟩
  | .tu cs, u, hx => by
    simp only [VR] at hx ⊢
    obtain ⟨us, h1, h2⟩ := hx
    exact ⟨us, h1, VRs.mono h cs us h2⟩
  | .fn f cs, u, hx => by
    simp only [VR] at hx ⊢
    obtain ⟨us, h1, h2⟩ := hx
    exact ⟨us, h1, VRs.mono h cs us h2⟩
theorem VRs.mono {κ κ' : Kap} (h : PK κ κ') : ∀ (xs : List AV) (us : List Value), VRs κ xs us → VRs κ' xs us
  | [], us, hx => by simp only [VRs] at hx ⊢; exact hx
  | x :: r, us, hx => by
    simp only [VRs] at hx ⊢
    obtain ⟨u, s, h1, h2, h3⟩ := hx
    exact ⟨u, s, h1, VR.mono h x u h2, VRs.mono h r s h3⟩
end

/-! ### Lists of values -/
section
variable {κ : Kap}
theorem VRs.cons {x : AV} {r : List AV} {u : Value} {s : List Value} (h : VR κ x u) (hr : VRs κ r s) : VRs κ (x :: r) (u :: s) := by
  simp only [VRs]; exact ⟨u, s, rfl, h, hr⟩
theorem VRs.nil : VRs κ [] [] := by simp only [VRs]
theorem VRs.uncons {x : AV} {r : List AV} {us : List Value} (h : VRs κ (x :: r) us) : ∃ u s, us = u :: s ∧ VR κ x u ∧ VRs κ r s := by
  simpa only [VRs] using h
theorem VRs.nil_eq {us : List Value} (h : VRs κ [] us) : us = [] := by simpa only [VRs] using h
theorem VRs.length : ∀ {xs : List AV} {us : List Value}, VRs κ xs us → us.length = xs.length
  | [], us, h => by rw [h.nil_eq]; rfl
  | x :: r, us, h => by
    obtain ⟨u, s, rfl, _, hr⟩ := h.uncons
    simp [hr.length]
theorem VRs.get : ∀ {xs : List AV} {us : List Value}, VRs κ xs us → ∀ (i : Nat) (x : AV), xs[i]? = some x → ∃ u, us[i]? = some u ∧ VR κ x u
  | [], us, h, i, x, hi => by simp at hi
  | y :: r, us, h, i, x, hi => by
    obtain ⟨u, s, rfl, hu, hr⟩ := h.uncons
    cases i with
    | zero => simp at hi; subst hi; exact ⟨u, rfl, hu⟩
    | succ i => simp at hi; simpa using hr.get i x hi
theorem VRs.append : ∀ {xs ys : List AV} {us vs : List Value}, VRs κ xs us → VRs κ ys vs → VRs κ (xs ++ ys) (us ++ vs)
  | [], ys, us, vs, h, h' => by rw [h.nil_eq]; exact h'
  | x :: r, ys, us, vs, h, h' => by
    obtain ⟨u, s, rfl, hu, hr⟩ := h.uncons
    exact .cons hu (hr.append h')
theorem VRs.take : ∀ {xs : List AV} {us : List Value} (k : Nat), VRs κ xs us → VRs κ (xs.take k) (us.take k)
  | xs, us, 0, h => by simp only [List.take_zero]; exact .nil
  | [], us, k + 1, h => by rw [h.nil_eq]; exact .nil
  | x :: r, us, k + 1, h => by
    obtain ⟨u, s, rfl, hu, hr⟩ := h.uncons
    exact .cons hu (hr.take k)
theorem VRs.drop : ∀ {xs : List AV} {us : List Value} (k : Nat), VRs κ xs us → VRs κ (xs.drop k) (us.drop k)
  | xs, us, 0, h => h
  | [], us, k + 1, h => by rw [h.nil_eq]; exact .nil
  | x :: r, us, k + 1, h => by
    obtain ⟨u, s, rfl, hu, hr⟩ := h.uncons
    exact hr.drop k
theorem VRs.set : ∀ {xs : List AV} {us : List Value} (k : Nat) {y : AV} {v : Value}, VRs κ xs us → VR κ y v → VRs κ (xs.set k y) (us.set k v)
  | [], us, k, y, v, h, hy => by rw [h.nil_eq]; exact .nil
  | x :: r, us, 0, y, v, h, hy => by
    obtain ⟨u, s, rfl, hu, hr⟩ := h.uncons
    exact .cons hy hr
  | x :: r, us, k + 1, y, v, h, hy => by
    obtain ⟨u, s, rfl, hu, hr⟩ := h.uncons
    exact .cons hu (hr.set k hy)
theorem VRs.mem : ∀ {xs : List AV} {us : List Value}, VRs κ xs us → ∀ u ∈ us, ∃ x ∈ xs, VR κ x u
  | [], us, h, u, hu => by rw [h.nil_eq] at hu; cases hu
  | x :: r, us, h, u, hu => by
    obtain ⟨u', s, rfl, hu', hr⟩ := h.uncons
    rcases List.mem_cons.1 hu with rfl | hm
    · exact ⟨x, by simp, hu'⟩
    · obtain ⟨y, hy, hv⟩ := hr.mem u hm
      exact ⟨y, by simp [hy], hv⟩
/-- What stands in one cell. -/
theorem VR.one {x : AV} {u : Value} (h : VR κ x u) (hc : x.cellB = true) : u.oneCell' = true := by
  cases x with
  | v y => simp only [VR] at h; rw [h.1]; exact h.2
  | sl => simp only [VR] at h; obtain ⟨_, _, rfl, _⟩ := h; rfl
  | pt => simp only [VR] at h; obtain ⟨_, _, rfl, _⟩ := h; rfl
  | ms => simp only [VR] at h; exact h.1
  | mp => simp only [VR] at h; exact h.1
  | mm => simp only [VR] at h; exact h.1
  | ag => cases hc
  | tu => cases hc
  | fn => simp only [VR] at h; obtain ⟨_, rfl, _⟩ := h; rfl
theorem VRs.one : ∀ {xs : List AV} {us : List Value}, VRs κ xs us → xs.all AV.cellB = true → ∀ u ∈ us, u.oneCell' = true
  | [], us, h, _, u, hu => by rw [h.nil_eq] at hu; cases hu
  | x :: r, us, h, ha, u, hu => by
    obtain ⟨u', s, rfl, hu', hr⟩ := h.uncons
    simp only [List.all_cons, Bool.and_eq_true] at ha
    rcases List.mem_cons.1 hu with rfl | hm
    · exact hu'.one ha.1
    · exact hr.one ha.2 u hm
/-- A value as cells. -/
theorem VR.flat {x : AV} {u : Value} (h : VR κ x u) (hc : (AI.flat x).all AV.cellB = true) : VRs κ (AI.flat x) u.cells.toList ∧ ∀ y ∈ u.cells.toList, y.oneCell' = true := by
  cases x with
  | ag cs =>
    simp only [VR] at h
    obtain ⟨us, rfl, h2, h3⟩ := h
    exact ⟨by simpa [AI.flat, Value.cells] using h2, by simpa [Value.cells] using h3⟩
  | tu cs => simp [AI.flat, AV.cellB] at hc
  | _ =>
    have h1 := h.one (by simpa [AI.flat] using hc)
    have h2 : u.cells.toList = [u] := by cases u <;> first | rfl | simp [Value.oneCell'] at h1
    rw [h2]
    exact ⟨.cons h .nil, by simpa using h1⟩
theorem flat_length {x : AV} {u : Value} (h : VR κ x u) (hc : (AI.flat x).all AV.cellB = true) : u.cells.size = (AI.flat x).length := by
  have := (h.flat hc).1.length
  simpa using this
end

/-! ### The own heap in a world -/
/-- What a function's run may count on and must keep: `F` blocks that others own; `L` blocks that it was handed to write; `w` the world in which it began. -/
structure Kx where
  F : Nat → Prop
  L : Nat → Prop
  w : World
def AB.live : AB → Bool
  | .cells l _ _ => l
  | .map _ => true
def LiveAt (H : Heap) (p : Pl) (b rb : Nat) : Prop := ∃ x v o, H[b]? = some x ∧ x.live = true ∧ p b = some (v, some (rb, o))
def Avo (K : Kx) (H : Heap) (p : Pl) (rb : Nat) : Prop := K.F rb ∨ ∃ b, LiveAt H p b rb
def kap (K : Kx) (H : Heap) (p : Pl) (w : World) : Kap := ⟨w, Avo K H p, p⟩
def EntR (κ : Kap) : List (AV × AV) → List MapEntry → Prop
  | [], es => es = []
  | (k, x) :: r, es => ∃ e s, es = e :: s ∧ VR κ k e.key ∧ VR κ x e.val ∧ EntR κ r s
def BlkR (κ : Kap) (b : Nat) : AB → Prop
  | .cells live ver cs => ∃ x, κ.p b = some (ver, x) ∧ match x with
    | none => cs = []
    | some (rb, o) => ∃ c e fr us, κ.w.heap[rb]? = some (.cells c e fr) ∧ VRs κ cs us ∧ (∀ j u, us[j]? = some u → c[o + j]? = some u) ∧ (∀ y ∈ us, y.oneCell' = true) ∧ (live = true → fr = (0, 0))
  | .map es => ∃ rb ents clock, κ.p b = some (0, some (rb, 0)) ∧ κ.w.heap[rb]? = some (.map ents clock) ∧ EntR κ es ents.toList
structure Ext (K : Kx) (w : World) : Prop where
  os : w.os = K.w.os
  tape : w.tape = K.w.tape
  output : w.output = K.w.output
  size : K.w.heap.size ≤ w.heap.size
  block : ∀ b, b < K.w.heap.size → ¬ K.L b → w.heap[b]? = K.w.heap[b]?
  froz : ∀ a, w.frozen? a = K.w.frozen? a
structure Inv (K : Kx) (H : Heap) (p : Pl) (w : World) : Prop where
  blk : ∀ b x, H[b]? = some x → BlkR (kap K H p w) b x
  inj : ∀ b b' v o v' o' rb, b < H.length → b' < H.length → p b = some (v, some (rb, o)) → p b' = some (v', some (rb, o')) → b = b'
  dis : ∀ b v o rb, b < H.length → p b = some (v, some (rb, o)) → ¬ K.F rb
  old : ∀ b rb, LiveAt H p b rb → K.L rb ∨ K.w.heap.size ≤ rb
  fsz : ∀ b, K.F b → b < w.heap.size
  ext : Ext K w
  dom : ∀ b, H.length ≤ b → p b = none
theorem EntR.mono {κ κ' : Kap} (h : PK κ κ') : ∀ {es : List (AV × AV)} {xs : List MapEntry}, EntR κ es xs → EntR κ' es xs
  | [], xs, hx => hx
  | (k, x) :: r, xs, hx => by
    obtain ⟨e, s, rfl, h1, h2, h3⟩ := hx
    exact ⟨e, s, rfl, VR.mono h _ _ h1, VR.mono h _ _ h2, EntR.mono h h3⟩
theorem VR.mono' {κ κ' : Kap} {x : AV} {u : Value} (hx : VR κ x u) (h : PK κ κ') : VR κ' x u := VR.mono h x u hx
theorem VRs.mono' {κ κ' : Kap} {xs : List AV} {us : List Value} (hx : VRs κ xs us) (h : PK κ κ') : VRs κ' xs us := VRs.mono h xs us hx
/-- What the temporaries hold. -/
def EnvR (κ : Kap) (g : G) (a : Act) : Prop := ∀ t x, g t = some x → VR κ x (a.tmps.getD t undef)
theorem EnvR.mono {κ κ' : Kap} (h : PK κ κ') {g : G} {a : Act} (hx : EnvR κ g a) : EnvR κ' g a := fun t x ht => (hx t x ht).mono' h
end Go.AI
