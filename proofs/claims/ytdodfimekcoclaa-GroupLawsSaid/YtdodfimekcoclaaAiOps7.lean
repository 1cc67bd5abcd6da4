/- The abstract interpreter: copy, len, maps. No conditions. -/
import Derived.Test.YtdodfimekcoclaaAiOps6
set_option linter.unusedVariables false
set_option linter.unusedSimpArgs false
namespace Go.AI
section
variable {P : Program} {K : Kx} {H : Heap} {p : Pl} {w : World}
def copyTo (ad : Option Addr) (us : List Value) : Sem Unit := match ad with | some a => storeCells a us | none => pure ()
theorem run_copy {t t2 ty e : TypeId} (hq : P.underlying t = some (.slice e)) (hse : 0 < P.cellsOf e) {ad : Option Addr} {n cap n2 : Nat} {v : Value} {us : List Value}
    (l2 : ∀ w', (Builtin.lenOf v).run P w' = .ok n2 w') (f2 : (Builtin.firstCells (P.cellsOf e) (min n2 n) v).run P w = .ok us.toArray w) :
    (Builtin.copy_ #[t, t2] ty #[.slice ad n cap, v]).run P w = ((copyTo ad us).run P w).andThen fun _ w' => .ok (goInt (min n2 n : Nat)) w' := by
  have hmin : Nat.min n2 n = min n2 n := rfl
  cases ad with
  | none => simp [Builtin.copy_, run_underlying hq, l2, run_sizeOf' hse, hmin, f2, copyTo]
  | some a => simp [Builtin.copy_, run_underlying hq, l2, run_sizeOf' hse, hmin, f2, copyTo]
theorem copyA_sound (hI : Inv K H p w) {t t2 ty : TypeId} {d x r : AV} {H' : Heap} (h : copyA P t d x H = some (r, H')) {u v : Value} (hu : VR (kap K H p w) d u) (hv : VR (kap K H p w) x v) :
    ∃ y w', (Builtin.copy_ #[t, t2] ty #[u, v]).run P w = .ok y w' ∧ Inv K H' p w' ∧ PK (kap K H p w) (kap K H' p w') ∧ VR (kap K H' p w') r y := by
  unfold copyA at h
  split at h
  · rename_i e b ver off n sz hq
    obtain ⟨⟨n2, cs2⟩, hs2, h⟩ := obind_eq h
    split at h
    · rename_i hc
      obtain ⟨c1, c2, hse⟩ := hc
      simp only at c1 c2
      obtain ⟨H2, hst, h⟩ := obind_eq h
      cases h
      obtain ⟨us2, v2, o2, l2, f2⟩ := sourceA_sound (P := P) hI hs2 hv
      have hl2 := v2.length
      have f2' := f2 (min n2 n) (P.cellsOf e) (Nat.min_le_left _ _) (by rw [hl2, c2, c1]) w rfl
      unfold storeCellsA at hst
      split at hst
      · rename_i ver' cs hb
        split at hst
        · rename_i hcc
          obtain ⟨rfl, k2, k3⟩ := hcc
          cases hst
          simp only [VR] at hu
          obtain ⟨_, vv, xx, q1, q2, q3⟩ := hu
          obtain ⟨x', g1, g2⟩ := hI.blk _ _ hb
          have e1 := g1.symm.trans q1
          cases e1
          have q3' := q3 rfl
          have hd : ∃ ad cap, u = .slice ad n cap := by
            cases xx with
            | none => obtain ⟨rfl, ad, rfl, _⟩ := q3'; exact ⟨ad, 0, rfl⟩
            | some q => obtain ⟨_, cap, ao, rfl, _⟩ := q3'; exact ⟨_, cap, rfl⟩
          obtain ⟨ad, cap, rfl⟩ := hd
          dsimp only at k2 k3 ⊢
          · rw [run_copy (P := P) (w := w) (ty := ty) hq hse (ad := ad) l2 f2']
            cases xx with
            | none =>
              obtain ⟨rfl, ad', hslice⟩ := q3'
              cases hslice
              have hz : min n2 0 = 0 := Nat.min_zero _
              have hcs : cs = [] := g2
              subst hcs
              rw [hz, Nat.zero_mul, List.take_zero] at k2
              have hoff : off = 0 := by simp at k2; omega
              subst hoff
              have hsp2 : splice ([] : List AV) 0 [] = [] := rfl
              simp only [hz, Nat.zero_mul, List.take_zero, hsp2, kap_set_self hb]
              refine ⟨_, w, ?_, hI, PK.refl _, VR_v rfl⟩
              cases ad <;> rfl
            | some q =>
              obtain ⟨rb, o⟩ := q
              obtain ⟨hz0, cap', ao, hslice, m1, m2, m3⟩ := q3'
              cases hslice
              have hv2 : VRs (kap K H p w) (cs2.take (min n2 n * sz)) (us2.take (min n2 n * P.cellsOf e)) := by
                rw [← c1]; exact v2.take _
              obtain ⟨w', r1, r2, r3⟩ := write_sound (P := P) hI hb q1 k2 hv2 (fun y hy => o2 y (List.mem_of_mem_take hy))
              refine ⟨_, w', ?_, r2, r3, VR_v rfl⟩
              by_cases hn : 0 < n
              · rw [m2 hn]
                unfold copyTo
                simp only [r1]
                rfl
              · have hn0 : n = 0 := by omega
                subst hn0
                have hz : min n2 0 = 0 := Nat.min_zero _
                rw [hz, Nat.zero_mul, List.take_zero] at r1 ⊢
                have : w' = w := by
                  simp only [storeCells, Sem.run_pure] at r1
                  cases r1; rfl
                subst this
                rfl
        · cases hst
      · cases hst
    · cases h
  · cases h
theorem lenA_sound (hI : Inv K H p w) {t ty : TypeId} {x y r : AV} (h1 : refA H x = some y) (h : lenA P t y H = some r) {u : Value} (hu : VR (kap K H p w) x u) :
    ∃ z, VR (kap K H p w) r z ∧ (Builtin.len_ #[t] ty #[u]).run P w = .ok z w := by
  have := refA_sound h1
  subst this
  unfold lenA at h
  split at h
  · rename_i s hq
    cases h; cases hu.v_eq
    exact ⟨_, VR_v rfl, by simp [Builtin.len_, run_underlying hq, goInt]⟩
  · rename_i e full n cs hq
    cases h
    simp only [VR] at hu
    obtain ⟨ad, cap, rfl, _⟩ := hu
    exact ⟨_, VR_v rfl, by simp [Builtin.len_, run_underlying hq, goInt]⟩
  · rename_i e b ver off n sz hq
    cases h
    obtain ⟨_, x, hp, hm, _⟩ := refA_ms hI h1 hu
    cases x with
    | none =>
      obtain ⟨rfl, ad, rfl, _⟩ := hm
      exact ⟨_, VR_v rfl, by simp [Builtin.len_, run_underlying hq, goInt]⟩
    | some q =>
      obtain ⟨_, cap, ao, rfl, _⟩ := hm
      exact ⟨_, VR_v rfl, by simp [Builtin.len_, run_underlying hq, goInt]⟩
  · rename_i kt et b hq
    split at h
    · rename_i es hb
      cases h
      obtain ⟨rb, ents, clock, g1, g2, g3⟩ := hI.blk _ _ hb
      simp only [VR] at hu
      obtain ⟨_, v, x, q1, q2⟩ := hu
      have e1 := g1.symm.trans q1
      cases e1
      obtain ⟨rb', e2, rfl⟩ := q2 rfl
      cases e2
      have hl : ∀ {es : List (AV × AV)} {xs : List MapEntry}, EntR (kap K H p w) es xs → xs.length = es.length := by
        intro es
        induction es with
        | nil => intro xs h; cases h; rfl
        | cons a r ih =>
          intro xs h
          obtain ⟨e, s, rfl, _, _, h3⟩ := h
          simp [ih h3]
      have := hl g3
      have g2' : w.heap[rb]? = some (.map ents clock) := g2
      refine ⟨_, VR_v rfl, ?_⟩
      simp only [Builtin.len_, List.getElem?_toArray, List.getElem?_cons_zero, Sem.run_bind, run_underlying hq, Result.andThen_ok, getObj, Sem.run, g2', goInt]
      simp at this
      simp [this]
    · cases h
  · cases h
end

/-! ### Keys of maps -/
section
variable {P : Program} {κ : Kap}
theorem bytes_eq {a b : ByteArray} (h : (a == b) = true) : a = b := by
  rw [beq_toListBytes, ByteArray.toList_eq, ByteArray.toList_eq] at h
  have h2 : a.data.toList = b.data.toList := eq_of_beq h
  obtain ⟨a⟩ := a
  obtain ⟨b⟩ := b
  exact congrArg _ (Array.ext' h2)
theorem cellEq_val {kd : TypeDesc} {x y : AV} (h : cellEq kd x y = some true) {u v : Value} (hu : VR κ x u) (hv : VR κ y v) : u = v := by
  unfold cellEq at h
  split at h
  · split at h
    · rename_i hk; cases hu.v_eq; cases hv.v_eq; subst hk; simp at h; rw [h]
    · cases h
  · cases hu.v_eq; cases hv.v_eq; simp at h; rw [h]
  · cases hu.v_eq; cases hv.v_eq; simp at h; rw [bytes_eq h]
  · cases h
theorem cellsEq_val : ∀ {ks : List TypeDesc} {as bs : List AV} {us vs : List Value}, cellsEq ks as bs = some true → VRs κ as us → VRs κ bs vs → us = vs
  | [], [], [], us, vs, h, hu, hv => by rw [hu.nil_eq, hv.nil_eq]
  | k :: ks, x :: r, y :: s, us, vs, h, hu, hv => by
    simp only [cellsEq] at h
    obtain ⟨b1, h1, h⟩ := obind_eq h
    obtain ⟨b2, h2, h⟩ := obind_eq h
    simp at h
    obtain ⟨rfl, rfl⟩ := h
    obtain ⟨u, us', rfl, hu1, hu2⟩ := hu.uncons
    obtain ⟨v, vs', rfl, hv1, hv2⟩ := hv.uncons
    rw [cellEq_val h1 hu1 hv1, cellsEq_val h2 hu2 hv2]
  | [], _ :: _, _, _, _, h, _, _ => by simp [cellsEq] at h
  | [], [], _ :: _, _, _, h, _, _ => by simp [cellsEq] at h
  | _ :: _, [], _, _, _, h, _, _ => by simp [cellsEq] at h
  | _ :: _, _ :: _, [], _, _, h, _, _ => by simp [cellsEq] at h
theorem aeq_val {t : TypeId} {x y : AV} (h : aeq P t x y = some true) {u v : Value} (hu : VR κ x u) (hv : VR κ y v) : u = v := by
  unfold aeq at h
  split at h
  · obtain ⟨ks, hk, h⟩ := obind_eq h
    simp only [VR] at hu hv
    obtain ⟨us, rfl, hu, _⟩ := hu
    obtain ⟨vs, rfl, hv, _⟩ := hv
    rw [cellsEq_val h hu hv]
  · obtain ⟨k, hk, h⟩ := obind_eq h
    exact cellEq_val h hu hv
theorem sameNow_eq {t : TypeId} {d : TypeDesc} (hd : P.underlying t = some d) {x y : AV} {b b' : Bool} (h : aeq P t x y = some b) {u v : Value} (hu : VR κ x u) (hv : VR κ y v) (h' : Instr.sameNow d u v = some b') : b' = b := by
  unfold aeq at h
  split at h
  · simp only [VR] at hu hv
    obtain ⟨us, rfl, hu, _⟩ := hu
    obtain ⟨vs, rfl, hv, _⟩ := hv
    cases d <;> cases h'
  · obtain ⟨k, hk, h2⟩ := obind_eq h
    clear h
    unfold basicT at hk
    rw [hd] at hk
    unfold cellEq at h2
    split at h2
    · cases hu.v_eq; cases hv.v_eq
      split at h2
      · rename_i hkk
        subst hkk
        cases h2
        cases d <;> simp [Instr.sameNow] at h' hk <;> exact h'.symm
      · cases h2
    · cases hu.v_eq; cases hv.v_eq
      cases h2
      cases d <;> simp [Instr.sameNow] at h' hk <;> exact h'.symm
    · cases hu.v_eq; cases hv.v_eq
      cases h2
      cases d <;> simp [Instr.sameNow] at h' hk <;> exact h'.symm
    · cases h2
/-- The first entry with this key: its place and its value. -/
def hitA (P : Program) (t : TypeId) (k : AV) : Nat → List (AV × AV) → Option (Option (Nat × AV))
  | _, [] => some none
  | i, (k', x) :: r => obind (aeq P t k k') fun b => if b then some (some (i, x)) else hitA P t k (i + 1) r
def HitR (κ : Kap) : Option (Nat × AV) → Option (Nat × Value) → Prop
  | none, none => True
  | some (i, x), some (j, v) => i = j ∧ VR κ x v
  | _, _ => False
theorem findNow_sound {t : TypeId} {d : TypeDesc} (hd : P.underlying t = some d) {k : AV} {u : Value} (hu : VR κ k u) : ∀ (es : List (AV × AV)) (xs : List MapEntry) (i : Nat) (r : Option (Nat × AV)) (r' : Option (Nat × Value)),
    hitA P t k i es = some r → EntR κ es xs → Instr.findNow d u xs i = some r' → HitR κ r r'
  | [], xs, i, r, r', h, hx, h' => by
    cases hx; cases h
    simp only [Instr.findNow] at h'
    cases h'
    trivial
  | (k', x) :: es, xs, i, r, r', h, hx, h' => by
    obtain ⟨e, s, rfl, hk, hv, hr⟩ := hx
    simp only [hitA] at h
    obtain ⟨b, hb, h⟩ := obind_eq h
    simp only [Instr.findNow] at h'
    split at h'
    · rename_i hs
      have := sameNow_eq hd hb hu hk hs
      subst this
      simp at h h'
      subst h h'
      exact ⟨rfl, hv⟩
    · rename_i hs
      have := sameNow_eq hd hb hu hk hs
      subst this
      simp at h
      exact findNow_sound hd hu es s (i + 1) r r' h hr h'
    · cases h'
theorem findAsking_sound {t : TypeId} {k : AV} {u : Value} (hu : VR κ k u) (w : World) : ∀ (es : List (AV × AV)) (xs : List MapEntry) (i : Nat) (r : Option (Nat × AV)),
    hitA P t k i es = some r → EntR κ es xs → ∃ r', (Instr.findAsking t u xs i).run P w = .ok r' w ∧ HitR κ r r'
  | [], xs, i, r, h, hx => by
    cases hx; cases h
    exact ⟨none, rfl, trivial⟩
  | (k', x) :: es, xs, i, r, h, hx => by
    obtain ⟨e, s, rfl, hk, hv, hr⟩ := hx
    simp only [hitA] at h
    obtain ⟨b, hb, h⟩ := obind_eq h
    have he := run_aeq (P := P) hb hu hk w
    cases b
    · simp at h
      obtain ⟨r', h1, h2⟩ := findAsking_sound hu w es s (i + 1) r h hr
      exact ⟨r', by simp only [Instr.findAsking, Sem.run_bind, he, Result.andThen_ok, Bool.false_eq_true, if_false]; exact h1, h2⟩
    · simp at h
      subst h
      exact ⟨some (i, e.val), by simp [Instr.findAsking, he], rfl, hv⟩
theorem findKey_sound {t : TypeId} {d : TypeDesc} (hd : P.underlying t = some d) {k : AV} {u : Value} (hu : VR κ k u) (w : World) {es : List (AV × AV)} {xs : List MapEntry} {r : Option (Nat × AV)}
    (h : hitA P t k 0 es = some r) (hx : EntR κ es xs) : ∃ r', (Instr.findKey t u xs).run P w = .ok r' w ∧ HitR κ r r' := by
  simp only [Instr.findKey, Sem.run_bind, run_underlying hd, Result.andThen_ok]
  cases hf : Instr.findNow d u xs 0 with
  | some r' => exact ⟨r', rfl, findNow_sound hd hu es xs 0 r r' h hx hf⟩
  | none => exact findAsking_sound hu w es xs 0 r h hx
theorem findA_hit {t : TypeId} {k : AV} : ∀ (es : List (AV × AV)) (i : Nat) (r : Option AV), findA P t k es = some r → ∃ q, hitA P t k i es = some q ∧ r = q.map (·.2)
  | [], i, r, h => by cases h; exact ⟨none, rfl, rfl⟩
  | (k', x) :: es, i, r, h => by
    simp only [findA] at h
    obtain ⟨b, hb, h⟩ := obind_eq h
    cases b
    · simp at h
      obtain ⟨q, h1, h2⟩ := findA_hit es (i + 1) r h
      exact ⟨q, by simp [hitA, hb, obind_some, h1], h2⟩
    · simp at h
      subst h
      exact ⟨some (i, x), by simp [hitA, hb, obind_some], rfl⟩
end
end Go.AI
