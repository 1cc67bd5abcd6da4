/- The abstract interpreter: closed copies. No conditions. -/
import Derived.Test.YtdodfimekcoclaaAiMem2
set_option linter.unusedVariables false
namespace Go.AI
/-- What is needed that a closed value goes on saying what it says. -/
structure PG (κ κ' : Kap) : Prop where
  cell : ∀ a u, ¬ κ.A a.block → κ.w.cell? a = some u → κ'.w.cell? a = some u
  avo : ∀ b, κ'.A b → κ.A b ∨ κ.w.heap.size ≤ b
theorem PK.toPG {κ κ' : Kap} (h : PK κ κ') : PG κ κ' := ⟨h.cell, h.avo⟩
theorem RowAt.good {κ κ' : Kap} (h : PG κ κ') {b o : Nat} {us : List Value} (hr : RowAt κ b o us) : RowAt κ' b o us := by
  refine ⟨fun j u hj => ?_, fun hne => ?_, hr.2.2⟩
  · have hne : us ≠ [] := by intro h0; rw [h0] at hj; simp at hj
    exact h.cell _ _ (hr.2.1 hne) (hr.1 j u hj)
  · intro hA
    obtain ⟨u, us', rfl⟩ := List.exists_cons_of_ne_nil hne
    have hc := hr.1 0 u rfl
    have hlt := World.block_lt_of_cell? _ _ hc
    rcases h.avo _ hA with h1 | h1
    · exact hr.2.1 hne h1
    · simp at hlt; omega
theorem SlAt.good {κ κ' : Kap} (h : PG κ κ') {n : Nat} {ad : Option Addr} {us : List Value} (hr : SlAt κ n ad us) : SlAt κ' n ad us := by
  cases ad with
  | none => exact hr
  | some a => exact ⟨hr.1, hr.2.good h⟩
mutual
theorem VR.goodM {κ κ' : Kap} (h : PG κ κ') : ∀ (x : AV) (u : Value), (x.good = true ∨ ∃ n cs, x = .sl true n cs) → VR κ x u → VR κ' x u
  | .v _, u, hg, hx => by simp only [VR] at hx ⊢; exact hx
  | .sl full n cs, u, hg, hx => by
    simp only [VR] at hx ⊢
    obtain ⟨ad, cap, h1, h2, h3, h4, h5, us, h6, h7⟩ := hx
    exact ⟨ad, cap, h1, h2, h3, h4, h5, us, VRs.goodM h cs us h5 h6, h7.good h⟩
  | .pt cs off, u, hg, hx => by
    simp only [VR] at hx ⊢
    obtain ⟨b, o, h1, h2, us, h3, h4⟩ := hx
    exact ⟨b, o, h1, h2, us, VRs.goodM h cs us h2 h3, h4.good h⟩
  | .ms .., u, hg, hx => by rcases hg with hg | ⟨n, cs, hg⟩ <;> cases hg
  | .mp .., u, hg, hx => by rcases hg with hg | ⟨n, cs, hg⟩ <;> cases hg
  | .mm _, u, hg, hx => by rcases hg with hg | ⟨n, cs, hg⟩ <;> cases hg
  | .ag cs, u, hg, hx => by
    simp only [VR] at hx ⊢
    obtain ⟨us, h1, h2, h3⟩ := hx
    have hg' : goodL cs = true := by
      rcases hg with hg | ⟨n, cs, hg⟩
      · exact hg
      · cases hg
    exact ⟨us, h1, VRs.goodM h cs us hg' h2, h3⟩
  | .tu cs, u, hg, hx => by
    simp only [VR] at hx ⊢
    obtain ⟨us, h1, h2⟩ := hx
    have hg' : goodL cs = true := by
      rcases hg with hg | ⟨n, cs, hg⟩
      · exact hg
      · cases hg
    exact ⟨us, h1, VRs.goodM h cs us hg' h2⟩
  | .fn f cs, u, hg, hx => by
    simp only [VR] at hx ⊢
    obtain ⟨us, h1, h2⟩ := hx
    have hg' : goodL cs = true := by
      rcases hg with hg | ⟨n, cs, hg⟩
      · exact hg
      · cases hg
    exact ⟨us, h1, VRs.goodM h cs us hg' h2⟩
theorem VRs.goodM {κ κ' : Kap} (h : PG κ κ') : ∀ (xs : List AV) (us : List Value), goodL xs = true → VRs κ xs us → VRs κ' xs us
  | [], us, hg, hx => by simp only [VRs] at hx ⊢; exact hx
  | x :: r, us, hg, hx => by
    simp only [VRs] at hx ⊢
    simp only [goodL, Bool.and_eq_true] at hg
    obtain ⟨u, s, h1, h2, h3⟩ := hx
    exact ⟨u, s, h1, VR.goodM h x u (.inl hg.1) h2, VRs.goodM h r s hg.2 h3⟩
end

/-- A block of cells. -/
def CellB (H : Heap) (b : Nat) : Prop := ∃ l v cs, H[b]? = some (.cells l v cs)
/-- Each copy is closed, and says the same where the blocks that were read are avoided no more. -/
def CloseOk (K : Kx) (H : Heap) (p : Pl) (w : World) (f : AV → Option (AV × List Nat)) : Prop :=
  ∀ x y bs u, f x = some (y, bs) → VR (kap K H p w) x u → y.good = true ∧ (x.cellB = true → y.cellB = true) ∧ (∀ b ∈ bs, CellB H b) ∧
    ∀ κ' : Kap, κ'.w = w → (∀ rb, κ'.A rb → Avo K H p rb ∧ ∀ b ∈ bs, ∀ v o, p b ≠ some (v, some (rb, o))) → VR κ' y u
section
variable {K : Kx} {H : Heap} {p : Pl} {w : World}
theorem mapC_sound {f : AV → Option (AV × List Nat)} (hf : CloseOk K H p w f) : ∀ (xs ys : List AV) (bs : List Nat) (us : List Value), mapC f xs = some (ys, bs) → VRs (kap K H p w) xs us →
    goodL ys = true ∧ (xs.all AV.cellB = true → ys.all AV.cellB = true) ∧ ys.length = xs.length ∧ (∀ b ∈ bs, CellB H b) ∧
    ∀ κ' : Kap, κ'.w = w → (∀ rb, κ'.A rb → Avo K H p rb ∧ ∀ b ∈ bs, ∀ v o, p b ≠ some (v, some (rb, o))) → VRs κ' ys us
  | [], ys, bs, us, h, hv => by
    cases h
    rw [hv.nil_eq]
    exact ⟨rfl, fun _ => rfl, rfl, fun b hb => (by cases hb), fun _ _ _ => .nil⟩
  | x :: r, ys, bs, us, h, hv => by
    obtain ⟨⟨y, b1⟩, h1, h⟩ := obind_eq h
    obtain ⟨⟨ys', b2⟩, h2, h⟩ := obind_eq h
    cases h
    obtain ⟨u, s, rfl, hu, hr⟩ := hv.uncons
    obtain ⟨g1, g1', g2, g3⟩ := hf x y b1 u h1 hu
    obtain ⟨k1, k1', k2, k3, k4⟩ := mapC_sound hf r ys' b2 s h2 hr
    refine ⟨by simp [goodL, g1, k1], fun hc => ?_, by simp [k2], fun b hb => ?_, fun κ' hw hA => ?_⟩
    · simp only [List.all_cons, Bool.and_eq_true] at hc ⊢
      exact ⟨g1' hc.1, k1' hc.2⟩
    · rcases List.mem_append.1 hb with hb | hb
      · exact g2 b hb
      · exact k3 b hb
    · exact .cons (g3 κ' hw fun rb hrb => ⟨(hA rb hrb).1, fun b hb => (hA rb hrb).2 b (List.mem_append_left _ hb)⟩)
        (k4 κ' hw fun rb hrb => ⟨(hA rb hrb).1, fun b hb => (hA rb hrb).2 b (List.mem_append_right _ hb)⟩)
theorem image_lt (hI : Inv K H p w) {b v rb o : Nat} (hb : b < H.length) (h : p b = some (v, some (rb, o))) : rb < w.heap.size := by
  obtain ⟨x, hx⟩ : ∃ x, H[b]? = some x := ⟨_, List.getElem?_eq_getElem hb⟩
  have hB := hI.blk b x hx
  cases x with
  | cells live ver cs =>
    obtain ⟨x, h1, h2⟩ := hB
    have e := h1.symm.trans h
    cases e
    obtain ⟨c, e, fr, us, g1, _⟩ := h2
    exact (Array.getElem?_eq_some_iff.1 g1).1
  | map es =>
    obtain ⟨rb, ents, clock, h1, h2, h3⟩ := hB
    have e := h1.symm.trans h
    cases e
    exact (Array.getElem?_eq_some_iff.1 h2).1
theorem avo_lt (hI : Inv K H p w) {rb : Nat} (h : Avo K H p rb) : rb < w.heap.size := by
  rcases h with h | ⟨b, x, v, o, h1, h2, h3⟩
  · exact hI.fsz rb h
  · exact image_lt hI (List.getElem?_eq_some_iff.1 h1).1 h3
theorem closeA_sound (hI : Inv K H p w) : ∀ k, CloseOk K H p w (closeA k H)
  | 0 => fun x y bs u h => by cases h
  | k + 1 => fun x y bs u h hu => by
    have ih := closeA_sound hI k
    have pg : ∀ {κ' : Kap} {bs : List Nat}, κ'.w = w → (∀ rb, κ'.A rb → Avo K H p rb ∧ ∀ b ∈ bs, ∀ v o, p b ≠ some (v, some (rb, o))) → PG (kap K H p w) κ' :=
      fun hw hA => ⟨fun a u _ hc => by rw [hw]; exact hc, fun b hb => .inl (hA b hb).1⟩
    unfold closeA at h
    split at h
    · rename_i hg
      cases h
      exact ⟨hg, id, fun b hb => (by cases hb), fun κ' hw hA => VR.goodM (pg hw hA) x u (.inl hg) hu⟩
    · split at h
      · cases h
        refine ⟨rfl, fun _ => rfl, fun b hb => (by cases hb), fun κ' hw hA => ?_⟩
        rename_i full n cs hgd
        have hf : full = true := by cases full <;> first | rfl | exact absurd rfl hgd
        subst hf
        have := VR.goodM (pg hw hA) (.sl true n cs) u (.inr ⟨n, cs, rfl⟩) hu
        simp only [VR] at this ⊢
        obtain ⟨ad, cap, h1, h2, h3, h4⟩ := this
        exact ⟨ad, cap, h1, h2, fun e => (by cases e), h4⟩
      · obtain ⟨⟨ys, b1⟩, h1, h⟩ := obind_eq h
        cases h
        simp only [VR] at hu
        obtain ⟨us, rfl, h2, h3⟩ := hu
        obtain ⟨g1, g2, g3, g4, g5⟩ := mapC_sound ih _ _ _ _ h1 h2
        refine ⟨g1, fun e => (by cases e), g4, fun κ' hw hA => ?_⟩
        simp only [VR]
        exact ⟨us, rfl, g5 κ' hw hA, h3⟩
      · obtain ⟨⟨ys, b1⟩, h1, h⟩ := obind_eq h
        cases h
        simp only [VR] at hu
        obtain ⟨us, rfl, h2⟩ := hu
        obtain ⟨g1, g2, g3, g4, g5⟩ := mapC_sound ih _ _ _ _ h1 h2
        refine ⟨g1, fun e => (by cases e), g4, fun κ' hw hA => ?_⟩
        simp only [VR]
        exact ⟨us, rfl, g5 κ' hw hA⟩
      · rename_i b ver off n sz hgd
        split at h
        · rename_i live ver' cs hb
          split at h
          · rename_i hv
            split at h
            · rename_i hle
              obtain ⟨⟨ys, b1⟩, h1, h⟩ := obind_eq h
              cases h
              subst hv
              have hbl : b < H.length := (List.getElem?_eq_some_iff.1 hb).1
              simp only [VR] at hu
              obtain ⟨_, v, x, q1, q2, q3⟩ := hu
              obtain ⟨x', k1, k2⟩ := hI.blk _ _ hb
              have e := k1.symm.trans q1
              cases e
              have q3' := q3 rfl
              cases x with
              | none =>
                obtain ⟨rfl, ad, rfl⟩ := q3'
                rw [Nat.zero_mul, List.take_zero] at h1
                cases h1
                refine ⟨rfl, fun _ => rfl, fun b' hb' => (by simp at hb'; subst hb'; exact ⟨_, _, _, hb⟩), fun κ' hw hA => ?_⟩
                simp only [VR]
                refine ⟨ad, 0, rfl, Nat.le_refl _, fun _ => rfl, fun h => absurd h (by omega), rfl, [], .nil, ?_⟩
                cases ad with
                | none => rfl
                | some a => exact ⟨fun h => by simp at h, fun j u hj => by simp at hj, fun h => absurd rfl h, fun u hu => by cases hu⟩
              | some q =>
                obtain ⟨rb, o⟩ := q
                obtain ⟨hz, cap, ao, rfl, m1, m2, m3⟩ := q3'
                obtain ⟨c, e, fr, us, r1, r2, r3, r4, r5⟩ := k2
                obtain ⟨g1, g2, g3, g4, g5⟩ := mapC_sound ih _ _ _ _ h1 ((r2.drop off).take (n * sz))
                refine ⟨rfl, fun _ => rfl, fun b' hb' => (by rcases List.mem_cons.1 hb' with rfl | hb' <;> first | exact ⟨_, _, _, hb⟩ | exact g4 b' hb'), fun κ' hw hA => ?_⟩
                simp only [VR]
                refine ⟨_, cap, rfl, m1, (fun e => by cases e), fun _ => rfl, g1, _, g5 κ' hw (fun rb hrb => ⟨(hA rb hrb).1, fun b' hb' => (hA rb hrb).2 b' (List.mem_cons_of_mem _ hb')⟩), fun _ => rfl, fun j y hy => ?_, fun _ hAr => (hA rb hAr).2 b (by simp) _ _ q1, fun y hy => r4 y (List.mem_of_mem_drop (List.mem_of_mem_take hy))⟩
                have hj := (List.getElem?_eq_some_iff.1 hy).1
                have hj' : j < n * sz := Nat.lt_of_lt_of_le hj (by simp only [List.length_take]; exact Nat.min_le_left _ _)
                have hn : 0 < n := by
                  rcases Nat.eq_zero_or_pos n with h0 | h0
                  · subst h0; simp at hj'
                  · exact h0
                rw [List.getElem?_take_of_lt hj', List.getElem?_drop] at hy
                have h9 := r3 _ y hy
                rw [hw]
                show w.cell? ⟨rb, ao + j, none⟩ = some y
                rw [m2 hn]
                unfold World.cell?
                have k1' : w.heap[rb]? = _ := r1
                simp only [k1']
                rw [← Nat.add_assoc] at h9
                exact h9
            · cases h
          · cases h
        · cases h
      · rename_i b ver off hgd
        split at h
        · rename_i live ver' cs hb
          split at h
          · rename_i hv
            obtain ⟨⟨ys, b1⟩, h1, h⟩ := obind_eq h
            cases h
            subst hv
            have hbl : b < H.length := (List.getElem?_eq_some_iff.1 hb).1
            simp only [VR] at hu
            obtain ⟨_, v, x, q1, q2, q3⟩ := hu
            obtain ⟨x', k1, k2⟩ := hI.blk _ _ hb
            have e := k1.symm.trans q1
            cases e
            obtain ⟨rb, o, rfl, rfl⟩ := q3 rfl
            obtain ⟨c, e, fr, us, r1, r2, r3, r4, r5⟩ := k2
            obtain ⟨g1, g2, g3, g4, g5⟩ := mapC_sound ih _ _ _ _ h1 r2
            refine ⟨rfl, fun _ => rfl, fun b' hb' => (by rcases List.mem_cons.1 hb' with rfl | hb' <;> first | exact ⟨_, _, _, hb⟩ | exact g4 b' hb'), fun κ' hw hA => ?_⟩
            simp only [VR]
            refine ⟨rb, o, rfl, g1, us, g5 κ' hw (fun rb hrb => ⟨(hA rb hrb).1, fun b' hb' => (hA rb hrb).2 b' (List.mem_cons_of_mem _ hb')⟩), fun j y hy => ?_, fun _ hAr => (hA rb hAr).2 b (by simp) _ _ q1, r4⟩
            have h9 := r3 _ y hy
            rw [hw]
            show w.cell? ⟨rb, o + j, none⟩ = some y
            unfold World.cell?
            have k1' : w.heap[rb]? = _ := r1
            simp only [k1']
            exact h9
          · cases h
        · cases h
      · cases h
end
end Go.AI
