/- The abstract interpreter: loads, stores, parts. No conditions. -/
import Derived.Test.YtdodfimekcoclaaAiInv
import Derived.Laws.CopyRow
set_option linter.unusedVariables false
namespace Go.AI
section
variable {P : Program} {κ : Kap}

theorem info_of_underlying {t : TypeId} {d : TypeDesc} (h : P.underlying t = some d) : ∃ i, P.info? t = some i := by
  unfold Program.underlying at h
  cases hi : P.info? t with
  | none => rw [hi] at h; simp at h
  | some i => exact ⟨i, rfl⟩
theorem run_sizeOf {t : TypeId} {d : TypeDesc} (h : P.underlying t = some d) (w : World) : (sizeOf t).run P w = .ok (P.cellsOf t) w := by
  obtain ⟨i, hi⟩ := info_of_underlying h
  simp [sizeOf, typeInfo, hi, Program.cellsOf]
theorem aggT_under {t : TypeId} {b : Bool} (h : aggT P t = some b) : ∃ d, P.underlying t = some d := by
  unfold aggT at h
  cases hq : P.underlying t with
  | none => rw [hq] at h; cases h
  | some d => exact ⟨d, rfl⟩
theorem run_isAgg {t : TypeId} {b : Bool} (h : aggT P t = some b) (w : World) : (isAgg t).run P w = .ok b w := by
  unfold aggT at h
  split at h
  · rename_i hq; cases h; simp [isAgg, run_underlying hq]
  · rename_i hq; cases h; simp [isAgg, run_underlying hq]
  · rename_i d h1 h2 hq
    cases h
    simp only [isAgg, Sem.run_bind, run_underlying hq, Result.andThen_ok]
    cases d <;> first | rfl | (exact absurd rfl (h1 _)) | (exact absurd rfl (h2 _ _))
  · cases h
theorem run_zeroT {t : TypeId} {z : AV} (h : zeroT P t = some z) : ∃ x i, P.info? t = some i ∧ i.zero = some x ∧ z = ofVal x ∧ cstB x = true ∧ ∀ w, (zeroValue t).run P w = .ok x w := by
  obtain ⟨i, hi, h⟩ := obind_eq h
  obtain ⟨x, hx, h⟩ := obind_eq h
  split at h
  · rename_i hc
    cases h
    exact ⟨x, i, hi, hx, rfl, hc, fun w => by simp [zeroValue, typeInfo, hi, hx]⟩
  · cases h

/-- A part of a row of cells. -/
theorem partA_sound {t : TypeId} {as : List AV} {off : Nat} {x : AV} (h : partA P t as off = some x) {us : List Value} (hv : VRs κ as us) (h1 : ∀ y ∈ us, y.oneCell' = true) :
    ∃ u, VR κ x u ∧ (∀ w, (part t us.toArray off).run P w = .ok u w) ∧
      ∀ (w : World) (b o : Nat), (∀ j y, us[j]? = some y → w.cell? ⟨b, o + j, none⟩ = some y) → (loadVar t ⟨b, o + off, none⟩).run P w = .ok u w := by
  unfold partA at h
  have hlen := hv.length
  split at h
  · rename_i ha
    split at h
    · rename_i hle
      cases h
      obtain ⟨d, hd⟩ := aggT_under ha
      refine ⟨.agg ((us.drop off).take (P.cellsOf t)).toArray, ?_, fun w => ?_, fun w b o hc => ?_⟩
      · simp only [VR]
        exact ⟨_, rfl, (hv.drop off).take _, fun y hy => h1 y (List.mem_of_mem_drop (List.mem_of_mem_take hy))⟩
      · simp only [part, Sem.run_bind, run_isAgg ha, Result.andThen_ok, if_true, run_sizeOf hd, Sem.run_pure]
        congr 2
        simp [List.extract_eq_take_drop]
      · have hl : ((us.drop off).take (P.cellsOf t)).length = P.cellsOf t := by simp; omega
        have := run_loadCells_list (P := P) w ⟨b, o + off, none⟩ ((us.drop off).take (P.cellsOf t)) (fun j y hy => by
          have hj : j < P.cellsOf t := by
            have := (List.getElem?_eq_some_iff.1 hy).1
            omega
          rw [List.getElem?_take_of_lt hj, List.getElem?_drop] at hy
          have h2 := hc _ _ hy
          rw [show (⟨b, o + off, none⟩ : Addr).add j = ⟨b, o + (off + j), none⟩ from by
            unfold Addr.add; split
            · rename_i h0; subst h0; rfl
            · simp only [Addr.mk.injEq]; exact ⟨trivial, by omega, trivial⟩]
          exact h2)
        rw [hl] at this
        simp only [loadVar, Sem.run_bind, run_isAgg ha, Result.andThen_ok, if_true, run_sizeOf hd, this, Sem.run_pure]
    · cases h
  · rename_i ha
    obtain ⟨u, hu, hxu⟩ := hv.get off x h
    refine ⟨u, hxu, fun w => ?_, fun w b o hc => ?_⟩
    · simp [part, run_isAgg ha, hu]
    · simp [loadVar, run_isAgg ha, hc _ _ hu]
  · cases h
end

/-! ### What is behind a pointer, in a slice -/
section
variable {P : Program} {K : Kx} {H : Heap} {p : Pl} {w : World}
/-- The cells behind a pointer. -/
theorem cellsAt_sound (hI : Inv K H p w) {x : AV} {cs : List AV} {off : Nat} (h : cellsAt H x = some (cs, off)) {u : Value} (hu : VR (kap K H p w) x u) :
    ∃ b o us, VRs (kap K H p w) cs us ∧ (∀ j y, us[j]? = some y → w.cell? ⟨b, o + j, none⟩ = some y) ∧ (∀ y ∈ us, y.oneCell' = true) ∧ u = .pointer (some ⟨b, o + off, none⟩) := by
  unfold cellsAt at h
  split at h
  · cases h
    simp only [VR] at hu
    obtain ⟨b, o, rfl, _, us, h3, h4⟩ := hu
    exact ⟨b, o, us, h3, h4.1, h4.2.2, rfl⟩
  · split at h
    · rename_i live ver' cs' hb
      split at h
      · rename_i hv
        cases h
        simp only [VR] at hu
        obtain ⟨_, v, x, h1, h2, h3⟩ := hu
        obtain ⟨x', g1, g2⟩ := hI.blk _ _ hb
        have e := g1.symm.trans h1
        cases e
        obtain ⟨rb, o, rfl, rfl⟩ := h3 hv
        obtain ⟨c, e, fr, us, k1, k2, k3, k4, k5⟩ := g2
        exact ⟨rb, o, us, k2, fun j y hy => by
          have := k3 j y hy
          unfold World.cell?
          have k1' : w.heap[rb]? = _ := k1
          simp only [k1']
          exact this, k4, rfl⟩
      · cases h
    · cases h
  · cases h
theorem loadA_sound (hI : Inv K H p w) {t : TypeId} {x r : AV} (h : loadA P t x H = some r) {u : Value} (hu : VR (kap K H p w) x u) :
    ∃ y, (Instr.loadAt t u).run P w = .ok y w ∧ VR (kap K H p w) r y := by
  obtain ⟨⟨cs, off⟩, h1, h2⟩ := obind_eq h
  obtain ⟨b, o, us, h3, h4, h5, rfl⟩ := cellsAt_sound hI h1 hu
  obtain ⟨y, hy, _, hl⟩ := partA_sound h2 h3 h5
  exact ⟨y, by simp only [Instr.loadAt, Instr.sureAddr, Sem.run_bind, Sem.run_pure, Result.andThen_ok]; exact hl w b o h4, hy⟩
/-- The cells of a slice. -/
theorem slc_sound (hI : Inv K H p w) {x : AV} {n : Nat} {cs : List AV} (h : slc H x = some (n, cs)) {u : Value} (hu : VR (kap K H p w) x u) :
    ∃ ad cap us, u = .slice ad n cap ∧ VRs (kap K H p w) cs us ∧ (∀ y ∈ us, y.oneCell' = true) ∧ n ≤ cap ∧ (us ≠ [] → ∃ b o, ad = some ⟨b, o, none⟩ ∧ ∀ j y, us[j]? = some y → w.cell? ⟨b, o + j, none⟩ = some y) := by
  unfold slc at h
  split at h
  · cases h
    simp only [VR] at hu
    obtain ⟨ad, cap, rfl, h2, h3, h4, h5, us, h6, h7⟩ := hu
    refine ⟨ad, cap, us, rfl, h6, ?_, h2, fun hne => ?_⟩
    · cases ad with
      | none => rw [show us = [] from h7]; simp
      | some a => exact h7.2.2.2
    · cases ad with
      | none => exact absurd h7 hne
      | some a =>
        obtain ⟨ab, ao, asp⟩ := a
        obtain ⟨h8, h9⟩ := h7
        have h8 := h8 (.inr hne)
        simp only at h8
        subst h8
        exact ⟨ab, ao, rfl, h9.1⟩
  · split at h
    · rename_i live ver' cs' hb
      split at h
      · rename_i hv
        split at h
        · rename_i hle
          cases h
          simp only [VR] at hu
          obtain ⟨_, v, x, h1, h2, h3⟩ := hu
          obtain ⟨x', g1, g2⟩ := hI.blk _ _ hb
          have e := g1.symm.trans h1
          cases e
          have h3' := h3 hv
          cases x with
          | none =>
            obtain ⟨rfl, ad, rfl⟩ := h3'
            rw [Nat.zero_mul, List.take_zero]
            exact ⟨ad, 0, [], rfl, .nil, by simp, Nat.le_refl _, fun h => absurd rfl h⟩
          | some q =>
            obtain ⟨rb, o⟩ := q
            obtain ⟨hz, cap, ao, rfl, m1, m2, m3⟩ := h3'
            obtain ⟨c, e, fr, us, k1, k2, k3, k4, k5⟩ := g2
            refine ⟨_, cap, _, rfl, (k2.drop _).take _, fun y hy => k4 y (List.mem_of_mem_drop (List.mem_of_mem_take hy)), m1, fun hne => ⟨rb, ao, rfl, fun j y hy => ?_⟩⟩
            have hn : 0 < n := by
              rcases Nat.eq_zero_or_pos n with h0 | h0
              · subst h0; simp at hne
              · exact h0
            have hj := (List.getElem?_eq_some_iff.1 hy).1
            have hj' : j < n * _ := Nat.lt_of_lt_of_le hj (by simp only [List.length_take]; exact Nat.min_le_left _ _)
            rw [List.getElem?_take_of_lt hj', List.getElem?_drop] at hy
            have := k3 _ y hy
            rw [m2 hn]
            unfold World.cell?
            have k1' : w.heap[rb]? = _ := k1
            simp only [k1']
            rw [← Nat.add_assoc] at this
            exact this
        · cases h
      · cases h
    · cases h
  · cases h
end
end Go.AI
