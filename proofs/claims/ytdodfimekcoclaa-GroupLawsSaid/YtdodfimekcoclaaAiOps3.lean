/- The abstract interpreter: parts, addresses, slices of slices, literals. No conditions. -/
import Derived.Test.YtdodfimekcoclaaAiOps2
set_option linter.unusedVariables false
namespace Go.AI
section
variable {P : Program} {κ : Kap}
theorem pickA_sound {c a b r : AV} (h : pickA c a b = some r) {x u v : Value} (hx : VR κ c x) (hu : VR κ a u) (hv : VR κ b v) (w : World) :
    ∃ y, VR κ r y ∧ (do pure (.value (if ← asBool x then u else v)) : Sem Next).run P w = .ok (.value y) w := by
  unfold pickA at h
  split at h
  · rename_i t
    cases h; cases hx.v_eq
    cases t
    · exact ⟨v, hv, by simp [asBool]⟩
    · exact ⟨u, hu, by simp [asBool]⟩
  · cases h
theorem extractA_sound {x r : AV} {i : Nat} (h : extractA x i = some r) {u : Value} (hu : VR κ x u) (w : World) : ∃ y, VR κ r y ∧ (Instr.extract u i).run P w = .ok y w := by
  unfold extractA at h
  split at h
  · simp only [VR] at hu
    obtain ⟨us, rfl, hv⟩ := hu
    obtain ⟨y, hy, hr⟩ := hv.get i r h
    exact ⟨y, hr, by simp [Instr.extract, hy]⟩
  · cases h
theorem fieldA_sound {t : TypeId} {x r : AV} {f : Nat} (h : fieldA P t x f = some r) {u : Value} (hu : VR κ x u) (w : World) : ∃ y, VR κ r y ∧ (Instr.field t u f).run P w = .ok y w := by
  unfold fieldA at h
  split at h
  · rename_i fs cs hq
    obtain ⟨fd, hf, h⟩ := obind_eq h
    simp only [VR] at hu
    obtain ⟨us, rfl, hv, h1⟩ := hu
    obtain ⟨y, hy, hp, _⟩ := partA_sound h hv h1
    exact ⟨y, hy, by simp [Instr.field, run_underlying hq, hf, asAgg, hp]⟩
  · cases h
theorem indexA_sound {t : TypeId} {x i r : AV} (h : indexA P t x i = some r) {u v : Value} (hu : VR κ x u) (hv : VR κ i v) (w : World) : ∃ y, VR κ r y ∧ (Instr.index t u v).run P w = .ok y w := by
  unfold indexA at h
  split at h
  · rename_i n e cs k j hq
    cases hv.v_eq
    split at h
    · rename_i hb
      simp only [VR] at hu
      obtain ⟨us, rfl, hvs, h1⟩ := hu
      obtain ⟨y, hy, hp, _⟩ := partA_sound h hvs h1
      have hd : ∃ d, P.underlying e = some d := by
        unfold partA at h
        split at h
        · rename_i ha; exact aggT_under ha
        · rename_i ha; exact aggT_under ha
        · cases h
      obtain ⟨d, hd⟩ := hd
      refine ⟨y, hy, ?_⟩
      simp only [Instr.index, asIntOf, Sem.run_bind, Sem.run_pure, Result.andThen_ok, run_underlying hq]
      rw [if_pos hb]
      simp only [Sem.run_bind, run_sizeOf hd, Result.andThen_ok, hp]
    · cases h
  · rename_i s k j hq
    cases hv.v_eq; cases hu.v_eq
    split at h
    · rename_i hj
      split at h
      · rename_i b hb
        cases h
        refine ⟨_, VR_v rfl, ?_⟩
        simp only [Instr.index, asIntOf, Sem.run_bind, Sem.run_pure, Result.andThen_ok, run_underlying hq, if_pos hj, hb]
      · cases h
    · cases h
  · cases h
theorem abs_add (b o n : Nat) : (⟨b, o, none⟩ : Addr).add n = ⟨b, o + n, none⟩ := by
  unfold Addr.add; split
  · rename_i h; subst h; rfl
  · rfl
end
section
variable {P : Program} {K : Kx} {H : Heap} {p : Pl} {w : World}
/-- An up-to-date reference is what it says it is. -/
theorem refA_ms (hI : Inv K H p w) {b ver off n sz : Nat} {r : AV} (h : refA H (.ms b ver off n sz) = some r) {u : Value} (hu : VR (kap K H p w) (.ms b ver off n sz) u) :
    r = .ms b ver off n sz ∧ ∃ x, p b = some (ver, x) ∧ MsR w off n sz u x ∧ ∃ live cs, H[b]? = some (.cells live ver cs) := by
  simp only [refA] at h
  split at h
  · rename_i live ver' cs hb
    split at h
    · rename_i hv
      subst hv
      cases h
      simp only [VR] at hu
      obtain ⟨_, v, x, h1, h2, h3⟩ := hu
      obtain ⟨x', g1, _⟩ := hI.blk _ _ hb
      have e := g1.symm.trans h1
      cases e
      exact ⟨rfl, x, h1, h3 rfl, _, _, hb⟩
    · cases h
  · cases h
theorem refA_mp (hI : Inv K H p w) {b ver off : Nat} {r : AV} (h : refA H (.mp b ver off) = some r) {u : Value} (hu : VR (kap K H p w) (.mp b ver off) u) :
    r = .mp b ver off ∧ ∃ rb o, p b = some (ver, some (rb, o)) ∧ u = .pointer (some ⟨rb, o + off, none⟩) ∧ ∃ live cs, H[b]? = some (.cells live ver cs) := by
  simp only [refA] at h
  split at h
  · rename_i live ver' cs hb
    split at h
    · rename_i hv
      subst hv
      cases h
      simp only [VR] at hu
      obtain ⟨_, v, x, h1, h2, h3⟩ := hu
      obtain ⟨x', g1, _⟩ := hI.blk _ _ hb
      have e := g1.symm.trans h1
      cases e
      obtain ⟨rb, o, rfl, rfl⟩ := h3 rfl
      exact ⟨rfl, rb, o, h1, rfl, _, _, hb⟩
    · cases h
  · cases h
theorem VR_mp {b ver off rb o : Nat} (h : p b = some (ver, some (rb, o))) : VR (kap K H p w) (.mp b ver off) (.pointer (some ⟨rb, o + off, none⟩)) := by
  simp only [VR]
  exact ⟨rfl, ver, _, h, Nat.le_refl _, fun _ => ⟨rb, o, rfl, rfl⟩⟩
theorem refA_sound {x r : AV} (h : refA H x = some r) : r = x := by
  unfold refA at h
  split at h
  · split at h
    · split at h <;> cases h; rfl
    · cases h
  · split at h
    · split at h <;> cases h; rfl
    · cases h
  · cases h; rfl
theorem nilCheckA_sound (hI : Inv K H p w) {x y r : AV} (h1 : refA H x = some y) (h : nilCheckA y = some r) {u : Value} (hu : VR (kap K H p w) x u) (a : Act) (o : Operand) (ho : a.eval o = u) :
    VR (kap K H p w) r u ∧ ∀ d t ps l g, (execOp a.eval ⟨d, .nilCheck o, t, ps, l, g⟩).run P w = .ok (.value u) w := by
  unfold nilCheckA at h
  split at h
  · rename_i b ver off
    have := refA_sound h1
    subst this
    obtain ⟨_, rb, o', _, rfl, _⟩ := refA_mp hI h1 hu
    cases h
    exact ⟨hu, fun d t ps l g => by simp [execOp, ho]⟩
  · have := refA_sound h1
    subst this
    cases h
    have hu' := hu
    simp only [VR] at hu
    obtain ⟨b, o', rfl, _⟩ := hu
    exact ⟨hu', fun d t ps l g => by simp [execOp, ho]⟩
  · have := refA_sound h1
    subst this
    cases h
    have hu' := hu
    simp only [VR] at hu
    obtain ⟨us, rfl, _⟩ := hu
    exact ⟨hu', fun d t ps l g => by simp [execOp, ho]⟩
  · cases h
theorem run_sizeOf' {t : TypeId} (h : 0 < P.cellsOf t) (w : World) : (sizeOf t).run P w = .ok (P.cellsOf t) w := by
  unfold Program.cellsOf at h ⊢
  cases hi : P.info? t with
  | none => rw [hi] at h; simp at h
  | some i => simp [sizeOf, typeInfo, hi]
theorem fieldAddrA_sound (hI : Inv K H p w) {t : TypeId} {x y r : AV} {f : Nat} (h1 : refA H x = some y) (h : fieldAddrA P t y f = some r) {u : Value} (hu : VR (kap K H p w) x u) :
    ∃ z, VR (kap K H p w) r z ∧ (Instr.fieldAt t u f).run P w = .ok z w := by
  have := refA_sound h1
  subst this
  unfold fieldAddrA at h
  split at h
  · rename_i fs hq
    obtain ⟨fd, hf, h⟩ := obind_eq h
    split at h
    · rename_i hs
      have hrun : ∀ b o, (Instr.fieldAt t (.pointer (some ⟨b, o, none⟩)) f).run P w = .ok (.pointer (some ⟨b, o + fd.offset, none⟩)) w := by
        intro b o
        have : P.cellsOf fd.type ≠ 0 := by omega
        simp [Instr.fieldAt, run_underlying hq, hf, Instr.sureAddr, fieldPlace, run_sizeOf' hs, this, abs_add]
      split at h
      · rename_i b ver off
        cases h
        obtain ⟨_, rb, o, hp, rfl, _⟩ := refA_mp hI h1 hu
        exact ⟨_, VR_mp hp, by rw [hrun, Nat.add_assoc]⟩
      · cases h
        simp only [VR] at hu
        obtain ⟨b, o, rfl, g1, us, g2, g3⟩ := hu
        refine ⟨_, ?_, hrun _ _⟩
        simp only [VR]
        exact ⟨b, o, by congr 3; omega, g1, us, g2, g3⟩
      · cases h
    · cases h
  · cases h
theorem indexAddrA_sound (hI : Inv K H p w) {t : TypeId} {x y i r : AV} (h1 : refA H x = some y) (h : indexAddrA P t y i = some r) {u v : Value} (hu : VR (kap K H p w) x u) (hv : VR (kap K H p w) i v) :
    ∃ z, VR (kap K H p w) r z ∧ (Instr.indexAt t u v).run P w = .ok z w := by
  have := refA_sound h1
  subst this
  unfold indexAddrA at h
  split at h
  · rename_i e b ver off n sz k j hq
    cases hv.v_eq
    split at h
    · rename_i hc
      obtain ⟨hj0, hj1, hsz⟩ := hc
      cases h
      obtain ⟨_, x, hp, hm, _⟩ := refA_ms hI h1 hu
      cases x with
      | none =>
        obtain ⟨rfl, _⟩ := hm
        omega
      | some q =>
        obtain ⟨rb, o⟩ := q
        obtain ⟨hz, cap, ao, rfl, m1, m2, m3⟩ := hm
        refine ⟨_, VR_mp hp, ?_⟩
        have hs : 0 < P.cellsOf e := by omega
        simp only [Instr.indexAt, asIntOf, Sem.run_bind, Sem.run_pure, Result.andThen_ok, run_underlying hq]
        rw [if_pos ⟨hj0, hj1⟩]
        simp only [Sem.run_bind, run_sizeOf' hs, Result.andThen_ok, Sem.run_pure, abs_add]
        rw [m2 (by omega), hsz, Nat.add_assoc]
    · cases h
  · rename_i e full n cs k j hq
    cases hv.v_eq
    split at h
    · rename_i hc
      obtain ⟨hj0, hj1, hs⟩ := hc
      cases h
      simp only [VR] at hu
      obtain ⟨ad, cap, rfl, g2, g3, g4, g5, us, g6, g7⟩ := hu
      have h4 := g4 (by omega)
      cases ad with
      | none => simp at h4
      | some a =>
        obtain ⟨ab, ao, asp⟩ := a
        obtain ⟨g8, g9⟩ := g7
        have g8 := g8 (.inl (by omega))
        simp only at g8
        subst g8
        refine ⟨.pointer (some ⟨ab, ao + j.toNat * P.cellsOf e, none⟩), ?_, ?_⟩
        · simp only [VR]
          exact ⟨ab, ao, rfl, g5, us, g6, g9⟩
        · simp only [Instr.indexAt, asIntOf, Sem.run_bind, Sem.run_pure, Result.andThen_ok, run_underlying hq]
          rw [if_pos ⟨hj0, hj1⟩]
          simp only [Sem.run_bind, run_sizeOf' hs, Result.andThen_ok, Sem.run_pure, abs_add]
    · cases h
  · rename_i n e b ver off k j hq
    cases hv.v_eq
    split at h
    · rename_i hc
      obtain ⟨hj0, hj1, hs⟩ := hc
      cases h
      obtain ⟨_, rb, o, hp, rfl, _⟩ := refA_mp hI h1 hu
      refine ⟨_, VR_mp hp, ?_⟩
      simp only [Instr.indexAt, asIntOf, Sem.run_bind, Sem.run_pure, Result.andThen_ok, run_underlying hq, Instr.sureAddr]
      rw [if_pos ⟨hj0, hj1⟩]
      simp only [Sem.run_bind, run_sizeOf' hs, Result.andThen_ok, Sem.run_pure, abs_add, Nat.add_assoc]
    · cases h
  · rename_i n e cs off k j hq
    cases hv.v_eq
    split at h
    · rename_i hc
      obtain ⟨hj0, hj1, hs⟩ := hc
      cases h
      simp only [VR] at hu
      obtain ⟨b, o, rfl, g1, us, g2, g3⟩ := hu
      refine ⟨.pointer (some ⟨b, o + (off + j.toNat * P.cellsOf e), none⟩), ?_, ?_⟩
      · simp only [VR]
        exact ⟨b, o, rfl, g1, us, g2, g3⟩
      · simp only [Instr.indexAt, asIntOf, Sem.run_bind, Sem.run_pure, Result.andThen_ok, run_underlying hq, Instr.sureAddr]
        rw [if_pos ⟨hj0, hj1⟩]
        simp only [Sem.run_bind, run_sizeOf' hs, Result.andThen_ok, Sem.run_pure, abs_add, Nat.add_assoc]
    · cases h
  · cases h

/-! ### Slices of slices -/
def OptR (κ : Kap) : Option AV → Option Value → Prop
  | none, u => u = none
  | some a, u => ∃ v, u = some v ∧ VR κ a v
theorem boundA_int {κ : Kap} {d h : Nat} {a : AV} {v : Value} (hb : boundA d (some a) = some h) (hu : VR κ a v) : ∃ k j, v = .int k j ∧ 0 ≤ j ∧ h = j.toNat := by
  cases a with
  | v x =>
    cases hu.v_eq
    cases v with
    | int k j =>
      simp only [boundA] at hb
      split at hb
      · rename_i hj; cases hb; exact ⟨k, j, rfl, hj, rfl⟩
      · cases hb
    | _ => cases hb
  | _ => cases hb
theorem run_bound {k : IntKind} {j : Int} {h y : Nat} (hj : 0 ≤ j) (e : h = j.toNat) (hy : h ≤ y) (code : BoundsCode) : (Instr.sliceBound (.int k j) y code).run P w = .ok h w := by
  have : 0 ≤ j ∧ j ≤ (y : Int) := ⟨hj, by omega⟩
  simp [Instr.sliceBound, asIntOf, this, e]
theorem sliceBounds_sound {κ : Kap} {isS : Bool} {d cap l h : Nat} {lo hi : Option AV} {ul uh : Option Value} (hh : boundA d hi = some h) (hl : boundA 0 lo = some l)
    (vl : OptR κ lo ul) (vh : OptR κ hi uh) (h1 : l ≤ h) (h2 : h ≤ cap) :
    (Instr.sliceBounds isS d cap ul uh none).run P w = .ok (l, h, cap) w := by
  cases hi with
  | none =>
    cases vh
    have e1 : d = h := by simpa [boundA] using hh
    subst e1
    cases lo with
    | none =>
      cases vl
      have e2 : 0 = l := by simpa [boundA] using hl
      subst e2
      simp [Instr.sliceBounds]
    | some a =>
      obtain ⟨v, rfl, hv⟩ := vl
      obtain ⟨k, j, rfl, hj, e⟩ := boundA_int hl hv
      have := run_bound (P := P) (w := w) (k := k) hj e h1 .sliceB
      simp [Instr.sliceBounds, this]
  | some b =>
    obtain ⟨v', rfl, hv'⟩ := vh
    obtain ⟨k', j', rfl, hj', e'⟩ := boundA_int hh hv'
    have a1 := run_bound (P := P) (w := w) (k := k') hj' e' h2 (if isS then .sliceAcap else .sliceAlen)
    cases lo with
    | none =>
      cases vl
      have e2 : 0 = l := by simpa [boundA] using hl
      subst e2
      simp [Instr.sliceBounds, a1]
    | some a =>
      obtain ⟨v, rfl, hv⟩ := vl
      obtain ⟨k, j, rfl, hj, e⟩ := boundA_int hl hv
      have a2 := run_bound (P := P) (w := w) (k := k) hj e h1 .sliceB
      simp [Instr.sliceBounds, a1, a2]
theorem MsR_slice {off n sz l h cap ao rb o : Nat} (hz : sz ≠ 0) (hlh : l ≤ h) (hhn : h ≤ n) (hn : n ≤ cap) (m2 : 0 < n → ao = o + off) (m3 : RowSz w rb (ao + cap * sz)) :
    MsR w (off + l * sz) (h - l) sz (.slice (if cap = l then some ⟨rb, ao, none⟩ else some (Addr.add ⟨rb, ao, none⟩ (l * sz))) (h - l) (cap - l)) (some (rb, o)) := by
  refine ⟨hz, cap - l, if cap = l then ao else ao + l * sz, ?_, by omega, fun h0 => ?_, ?_⟩
  · congr 1
    split
    · rfl
    · rw [abs_add]
  · have : cap ≠ l := by omega
    rw [if_neg this, m2 (by omega), Nat.add_assoc]
  · obtain ⟨c, e, fr, r1, r2⟩ := m3
    refine ⟨c, e, fr, r1, ?_⟩
    split
    · rename_i hc
      have : cap - l = 0 := by omega
      rw [this, Nat.zero_mul, Nat.add_zero]
      exact Nat.le_trans (Nat.le_add_right _ _) r2
    · have : ao + l * sz + (cap - l) * sz = ao + cap * sz := by
        rw [Nat.add_assoc, ← Nat.add_mul]
        congr 2
        omega
      rw [this]; exact r2
theorem goodL_drop : ∀ (l : List AV) (k : Nat), goodL l = true → goodL (l.drop k) = true
  | [], k, h => by simp [goodL]
  | a :: r, 0, h => h
  | a :: r, k + 1, h => by
    simp only [goodL, Bool.and_eq_true] at h
    simpa using goodL_drop r k h.2
theorem goodL_take : ∀ (l : List AV) (k : Nat), goodL l = true → goodL (l.take k) = true
  | l, 0, h => by simp [goodL]
  | [], k + 1, h => by simp [goodL]
  | a :: r, k + 1, h => by
    simp only [goodL, Bool.and_eq_true] at h
    simp [goodL, h.1, goodL_take r k h.2]
theorem sliceA_sound (hI : Inv K H p w) {t : TypeId} {x y r : AV} {lo hi : Option AV} (h1 : refA H x = some y) (h : sliceA P t y lo hi = some r) {u : Value} {ul uh : Option Value} (hu : VR (kap K H p w) x u)
    (vl : OptR (kap K H p w) lo ul) (vh : OptR (kap K H p w) hi uh) :
    ∃ z, VR (kap K H p w) r z ∧ (Instr.sliceAt t u ul uh none).run P w = .ok z w := by
  have := refA_sound h1
  subst this
  unfold sliceA at h
  split at h
  · rename_i s hq
    obtain ⟨h0, hh, h⟩ := obind_eq h
    obtain ⟨l0, hl, h⟩ := obind_eq h
    split at h
    · rename_i hc
      cases h; cases hu.v_eq
      have hs := sliceBounds_sound (P := P) (w := w) (isS := false) hh hl vl vh hc.1 hc.2
      refine ⟨_, VR_v rfl, ?_⟩
      simp [Instr.sliceAt, run_underlying hq, Instr.slice, hs]
    · cases h
  · rename_i e b ver off n sz hq
    obtain ⟨h0, hh, h⟩ := obind_eq h
    obtain ⟨l0, hl, h⟩ := obind_eq h
    split at h
    · rename_i hc
      obtain ⟨hlh, hhn, hsz, hse⟩ := hc
      cases h
      obtain ⟨_, x, hp, hm, _⟩ := refA_ms hI h1 hu
      cases x with
      | none =>
        obtain ⟨rfl, ad, rfl⟩ := hm
        have hs := sliceBounds_sound (P := P) (w := w) (isS := true) hh hl vl vh hlh (by omega : h0 ≤ 0)
        have e1 : h0 = 0 := by omega
        have e2 : l0 = 0 := by omega
        subst e1 e2
        refine ⟨.slice ad 0 0, ?_, ?_⟩
        · simp only [VR]
          exact ⟨rfl, ver, none, hp, Nat.le_refl _, fun _ => ⟨rfl, ad, rfl⟩⟩
        · simp [Instr.sliceAt, run_underlying hq, Instr.slice, hs, run_sizeOf' hse]
      | some q =>
        obtain ⟨rb, o⟩ := q
        obtain ⟨hz, cap, ao, rfl, m1, m2, m3⟩ := hm
        have hs := sliceBounds_sound (P := P) (w := w) (isS := true) hh hl vl vh hlh (by omega : h0 ≤ cap)
        have hll : l0 * P.cellsOf e = l0 * sz := by
          rcases hsz with h0' | h0'
          · have : l0 = 0 := by omega
            rw [this, Nat.zero_mul, Nat.zero_mul]
          · rw [h0']
        refine ⟨.slice (if cap = l0 then some ⟨rb, ao, none⟩ else some (Addr.add ⟨rb, ao, none⟩ (l0 * sz))) (h0 - l0) (cap - l0), ?_, ?_⟩
        · simp only [VR]
          exact ⟨rfl, ver, _, hp, Nat.le_refl _, fun _ => MsR_slice hz hlh hhn m1 m2 m3⟩
        · simp only [Instr.sliceAt, Sem.run_bind, run_underlying hq, Result.andThen_ok, Instr.slice, hs, run_sizeOf' hse, Sem.run_pure, Option.map_some, hll]
    · cases h
  · rename_i e full n cs hq
    obtain ⟨h0, hh, h⟩ := obind_eq h
    obtain ⟨l0, hl, h⟩ := obind_eq h
    split at h
    · rename_i hc
      obtain ⟨hlh, hhn, hcl, hz⟩ := hc
      cases h
      simp only [VR] at hu
      obtain ⟨ad, cap, rfl, g2, g3, g4, g5, us, g6, g7⟩ := hu
      have hs := sliceBounds_sound (P := P) (w := w) (isS := true) hh hl vl vh hlh (by omega : h0 ≤ cap)
      have hul := g6.length
      refine ⟨.slice (if cap = l0 then ad else ad.map (·.add (l0 * P.cellsOf e))) (h0 - l0) (cap - l0), ?_, ?_⟩
      · simp only [VR]
        refine ⟨_, cap - l0, rfl, by omega, (fun e => by cases e), fun h => ?_, goodL_take _ _ (goodL_drop _ _ g5), _, (g6.drop _).take _, ?_⟩
        · have := g4 (by omega)
          split
          · exact this
          · simpa using this
        · cases ad with
          | none =>
            have : us = [] := g7
            subst this
            split <;> simp [SlAt]
          | some a =>
            obtain ⟨ab, ao, asp⟩ := a
            obtain ⟨g8, g9⟩ := g7
            by_cases hcl0 : cap = l0
            · have e0 : h0 - l0 = 0 := by omega
              rw [if_pos hcl0, e0, Nat.zero_mul, List.take_zero]
              exact ⟨fun h => by simp at h, fun j u hj => by simp at hj, fun h => absurd rfl h, fun u hu => by cases hu⟩
            · rw [if_neg hcl0]
              obtain ⟨sp', hadd, hsp⟩ : ∃ sp', (⟨ab, ao, asp⟩ : Addr).add (l0 * P.cellsOf e) = ⟨ab, ao + l0 * P.cellsOf e, sp'⟩ ∧ (asp = none → sp' = none) := by
                unfold Addr.add
                split
                · rename_i h0; rw [h0]; exact ⟨asp, rfl, id⟩
                · exact ⟨none, rfl, fun _ => rfl⟩
              simp only [Option.map_some, hadd]
              refine ⟨fun h => hsp <| g8 (h.imp (fun h => by omega) (fun hne e => by subst e; simp at hne)), fun j u hj => ?_, fun hne => g9.2.1 (fun e => by subst e; simp at hne), fun u hu => g9.2.2 u (List.mem_of_mem_drop (List.mem_of_mem_take hu))⟩
              have hj1 := (List.getElem?_eq_some_iff.1 hj).1
              have hj' : j < (h0 - l0) * P.cellsOf e := Nat.lt_of_lt_of_le hj1 (by simp only [List.length_take]; exact Nat.min_le_left _ _)
              rw [List.getElem?_take_of_lt hj', List.getElem?_drop] at hj
              have := g9.1 _ u hj
              simp only [Nat.add_assoc]
              exact this
      · simp only [Instr.sliceAt, Sem.run_bind, run_underlying hq, Result.andThen_ok, Instr.slice, hs, run_sizeOf' hz, Sem.run_pure]
    · cases h
  · rename_i n e cs off hq
    obtain ⟨h0, hh, h⟩ := obind_eq h
    obtain ⟨l0, hl, h⟩ := obind_eq h
    split at h
    · rename_i hc
      obtain ⟨hlh, hhn, hcl, hz⟩ := hc
      cases h
      simp only [VR] at hu
      obtain ⟨b, o, rfl, g5, us, g6, g9⟩ := hu
      have hs := sliceBounds_sound (P := P) (w := w) (isS := false) hh hl vl vh hlh hhn
      refine ⟨.slice (some (if n = l0 then ⟨b, o + off, none⟩ else ⟨b, o + off + l0 * P.cellsOf e, none⟩)) (h0 - l0) (n - l0), ?_, ?_⟩
      · simp only [VR]
        refine ⟨_, n - l0, rfl, by omega, (fun e => by cases e), fun _ => rfl, goodL_take _ _ (goodL_drop _ _ g5), _, (g6.drop _).take _, ?_⟩
        by_cases hcl0 : n = l0
        · have e0 : h0 - l0 = 0 := by omega
          rw [e0, Nat.zero_mul, List.take_zero]
          simp only [if_pos hcl0]
          exact ⟨fun _ => rfl, fun j u hj => by simp at hj, fun h => absurd rfl h, fun u hu => by cases hu⟩
        · simp only [if_neg hcl0]
          refine ⟨fun _ => rfl, fun j u hj => ?_, fun hne => g9.2.1 (fun e => by subst e; simp at hne), fun u hu => g9.2.2 u (List.mem_of_mem_drop (List.mem_of_mem_take hu))⟩
          have hj1 := (List.getElem?_eq_some_iff.1 hj).1
          have hj' : j < (h0 - l0) * P.cellsOf e := Nat.lt_of_lt_of_le hj1 (by simp only [List.length_take]; exact Nat.min_le_left _ _)
          rw [List.getElem?_take_of_lt hj', List.getElem?_drop] at hj
          have := g9.1 _ u hj
          simp only [Nat.add_assoc] at this ⊢
          exact this
      · simp only [Instr.sliceAt, Sem.run_bind, run_underlying hq, Result.andThen_ok, Instr.sureAddr, hs, run_sizeOf' hz, Sem.run_pure, abs_add]
    · cases h
  · cases h
theorem sliceArrA_sound (hI : Inv K H p w) {t : TypeId} {x y r : AV} {lo hi : Option AV} (h1 : refA H x = some y) (h : sliceArrA P t y lo hi H = some r) {u : Value} {ul uh : Option Value} (hu : VR (kap K H p w) x u)
    (vl : OptR (kap K H p w) lo ul) (vh : OptR (kap K H p w) hi uh) :
    ∃ z, VR (kap K H p w) r z ∧ (Instr.sliceAt t u ul uh none).run P w = .ok z w := by
  unfold sliceArrA at h
  split at h
  · rename_i n et b ver off hq
    have hxy := refA_sound h1
    subst hxy
    obtain ⟨h0, hh, h⟩ := obind_eq h
    obtain ⟨l0, hl, h⟩ := obind_eq h
    obtain ⟨q, hq2, h⟩ := obind_eq h
    split at h
    · rename_i hc
      obtain ⟨hlh, hhn, hn, hcl, hz⟩ := hc
      cases h
      obtain ⟨_, rb, o, hp, rfl, live, cs, hb⟩ := refA_mp hI h1 hu
      have hs := sliceBounds_sound (P := P) (w := w) (isS := false) hh hl vl vh hlh hhn
      simp only [cellsAt, hb, if_true] at hq2
      cases hq2
      obtain ⟨x', k1, k2⟩ := hI.blk _ _ hb
      have e1 := k1.symm.trans hp
      cases e1
      obtain ⟨c, te, fr, us, r1, r2, r3, r4, r5⟩ := k2
      have hul := r2.length
      have hge : 1 * P.cellsOf et ≤ n * P.cellsOf et := Nat.mul_le_mul_right _ hn
      simp only at hcl
      have hcs : o + cs.length ≤ c.size := by
        have hj : cs.length - 1 < us.length := by omega
        have := r3 (cs.length - 1) us[cs.length - 1] (List.getElem?_eq_getElem hj)
        have := (Array.getElem?_eq_some_iff.1 this).1
        omega
      refine ⟨.slice (some (if n = l0 then ⟨rb, o + off, none⟩ else ⟨rb, o + off + l0 * P.cellsOf et, none⟩)) (h0 - l0) (n - l0), ?_, ?_⟩
      · simp only [VR]
        refine ⟨rfl, ver, _, hp, Nat.le_refl _, fun _ => ⟨by omega, n - l0, if n = l0 then o + off else o + off + l0 * P.cellsOf et, ?_, by omega, fun h0 => ?_, c, te, fr, r1, ?_⟩⟩
        · congr 2
          split <;> rfl
        · have : n ≠ l0 := by omega
          rw [if_neg this, Nat.add_assoc]
        · split
          · rename_i hnl
            have : n - l0 = 0 := by omega
            rw [this, Nat.zero_mul]
            omega
          · have : l0 * P.cellsOf et + (n - l0) * P.cellsOf et = n * P.cellsOf et := by
              rw [← Nat.add_mul]
              congr 1
              omega
            omega
      · simp only [Instr.sliceAt, Sem.run_bind, run_underlying hq, Result.andThen_ok, Instr.sureAddr, hs, run_sizeOf' hz, Sem.run_pure, abs_add]
    · cases h
  · exact sliceA_sound hI h1 h hu vl vh
end
end Go.AI
