/- The abstract interpreter: literals of slices, make, append, copy. No conditions. -/
import Derived.Test.YtdodfimekcoclaaAiOps4
set_option linter.unusedVariables false
namespace Go.AI
section
variable {P : Program} {K : Kx} {H : Heap} {p : Pl} {w : World}
/-- A block that is no part of the own heap. -/
theorem alien_sound (hI : Inv K H p w) (o : Obj) (hfo : ∀ a, (w.alloc o).frozen? a = w.frozen? a) : Inv K H p (w.alloc o) ∧ PK (kap K H p w) (kap K H p (w.alloc o)) := by
  have main := Inv.chg (b := H.length) (H' := H) (p' := p) (w' := w.alloc o) hI (fun i hi => rfl) (Nat.le_refl _) (fun i hi => .inl hi) (fun i hi => rfl)
    (fun v x h => ⟨v, x, h, .inl ⟨rfl, rfl⟩⟩) (fun rb hl => .inl hl) (fun v rb o h => by rw [hI.dom _ (Nat.le_refl _)] at h; cases h) (fun h => hI.dom _ h)
    (fun i hi hn => RowKit.Below.heap_alloc w _ i hi) (by simp) (fun i k hl hr => by
      obtain ⟨x, v, o', q1, q2, q3⟩ := hl
      simp at q1) rfl rfl rfl hfo
  exact ⟨main.2 fun x hx => by simp at hx, main.1⟩
/-- The world has changed in nothing that is looked at. -/
theorem same_sound (hI : Inv K H p w) {w' : World} (hh : w'.heap = w.heap) (ho : w'.os = w.os) (ht : w'.tape = w.tape) (hu : w'.output = w.output) : Inv K H p w' ∧ PK (kap K H p w) (kap K H p w') := by
  have main := Inv.chg (b := H.length) (H' := H) (p' := p) (w' := w') hI (fun i hi => rfl) (Nat.le_refl _) (fun i hi => .inl hi) (fun i hi => rfl)
    (fun v x h => ⟨v, x, h, .inl ⟨rfl, rfl⟩⟩) (fun rb hl => .inl hl) (fun v rb o h => by rw [hI.dom _ (Nat.le_refl _)] at h; cases h) (fun h => hI.dom _ h)
    (fun i hi hn => by rw [hh]) (by rw [hh]; exact Nat.le_refl _) (fun i k hl hr => by unfold RowSz; rw [hh]; exact hr) ho ht hu (fun a => by unfold World.frozen?; rw [hh])
  exact ⟨main.2 fun x hx => by simp at hx, main.1⟩
theorem mapC_nil {f g : AV → Option (AV × List Nat)} (hfg : ∀ x r, f x = some r → g x = some r ∧ r.2 = []) : ∀ (xs : List AV) (r : List AV × List Nat), mapC f xs = some r → mapC g xs = some r ∧ r.2 = []
  | [], r, h => by cases h; exact ⟨rfl, rfl⟩
  | x :: xs, r, h => by
    obtain ⟨y, hy, h⟩ := obind_eq h
    obtain ⟨q, hq, h⟩ := obind_eq h
    cases h
    obtain ⟨h1, h2⟩ := hfg x y hy
    obtain ⟨h3, h4⟩ := mapC_nil hfg xs q hq
    simp only [mapC, h1, h3, obind_some, h2, h4]
    exact ⟨trivial, rfl⟩
theorem madeCells_get (z : Array Value) (n j : Nat) : (madeCells z n)[j]? = if j < n then some z[j % z.size]! else none := by
  unfold madeCells
  rw [Array.getElem?_map]
  split
  · rename_i h; simp [h]
  · rename_i h; simp [h]
theorem closeA_nil (H : Heap) : ∀ (k : Nat) (x : AV) (r : AV × List Nat), closeA k [] x = some r → closeA k H x = some r ∧ r.2 = []
  | 0, x, r, h => by cases h
  | k + 1, x, r, h => by
    have ih := closeA_nil H k
    unfold closeA at h ⊢
    by_cases hg : x.good = true
    · rw [if_pos hg] at h ⊢
      cases h
      exact ⟨rfl, rfl⟩
    · rw [if_neg hg] at h ⊢
      cases x with
      | sl full n cs => cases h; exact ⟨rfl, rfl⟩
      | ag cs =>
        obtain ⟨q, hq, h⟩ := obind_eq h
        cases h
        obtain ⟨h1, h2⟩ := mapC_nil ih cs q hq
        simp only [h1, obind_some]
        exact ⟨trivial, h2⟩
      | tu cs =>
        obtain ⟨q, hq, h⟩ := obind_eq h
        cases h
        obtain ⟨h1, h2⟩ := mapC_nil ih cs q hq
        simp only [h1, obind_some]
        exact ⟨trivial, h2⟩
      | _ => simp at h
theorem row_fresh (hI : Inv K H p w) {us : List Value} {c : Array Value} {e : TypeId} (h1 : ∀ y ∈ us, y.oneCell' = true) (hc : ∀ (j : Nat) (u : Value), us[j]? = some u → c[j]? = some u) :
    RowAt (kap K H p (w.alloc (.cells c e))) w.heap.size 0 us := by
  refine ⟨fun j u hj => ?_, fun hne hA => Nat.lt_irrefl _ (avo_lt hI hA), h1⟩
  have := hc j u hj
  show (w.alloc (.cells c e)).cell? ⟨w.heap.size, 0 + j, none⟩ = some u
  unfold World.cell?
  simp only [heap_last w, Nat.zero_add]
  exact this
theorem abuildSlice_sound (hI : Inv K H p w) {t : TypeId} {len : Nat} {ps : List (Nat × AV)} {r : AV} (h : abuildSlice P t len ps = some r) {vs : Array (Nat × Value)} (hp : PartsR (kap K H p w) ps vs.toList) :
    ∃ y w', (Instr.buildSlice t len vs).run P w = .ok y w' ∧ Inv K H p w' ∧ PK (kap K H p w) (kap K H p w') ∧ VR (kap K H p w') r y := by
  unfold abuildSlice at h
  split at h
  · rename_i e hq
    split at h
    · rename_i hc
      obtain ⟨hlen, hsz⟩ := hc
      obtain ⟨z, hzt, h⟩ := obind_eq h
      split at h
      · rename_i hzc
        obtain ⟨hz1, hz2⟩ := hzc
        obtain ⟨cs, hcs, h⟩ := obind_eq h
        obtain ⟨⟨ds, bs⟩, hds, h⟩ := obind_eq h
        cases h
        obtain ⟨zx, i, hi, hzi, rfl, hcst, hrun⟩ := run_zeroT hzt
        obtain ⟨zv1, zv2⟩ := ofVal_cells (κ := kap K H p w) hcst hz2
        have hzs : zx.cells.size = P.cellsOf e := by
          have := zv1.length
          simp at this
          rw [this, hz1]
        have hbase : VRs (kap K H p w) (repl len (flat (ofVal zx))) (madeCells zx.cells (len * P.cellsOf e)).toList := by
          rw [← hzs, madeCells_flat _ (by omega)]
          exact repl_VRs zv1 len
        have hone : ∀ y ∈ (madeCells zx.cells (len * P.cellsOf e)).toList, y.oneCell' = true := by
          rw [← hzs, madeCells_flat _ (by omega)]
          intro y hy
          obtain ⟨l, hl, hy⟩ := List.mem_flatten.1 hy
          have := List.eq_of_mem_replicate hl
          subst this
          exact zv2 y hy
        obtain ⟨out, o1, o2, o3, o4⟩ := fillA_sound hcs hp hbase hone
        obtain ⟨m1, m2⟩ := mapC_nil (fun x r h => closeA_nil H depthA x r h) cs (ds, bs) hds
        simp only at m2
        subst m2
        obtain ⟨g1, g2, g3, g4, g5⟩ := mapC_sound (closeA_sound hI depthA) _ _ _ _ m1 o2
        have hval := g5 (kap K H p w) rfl (fun rb hrb => ⟨hrb, fun b hb => by cases hb⟩)
        obtain ⟨a1, a2⟩ := alien_sound hI (.cells out e) (fun a => RowKit.frozen?_alloc_cells w _ _ a)
        refine ⟨.slice (some ⟨w.heap.size, 0, none⟩) len len, w.alloc (.cells out e), ?_, a1, a2, ?_⟩
        · have h24 : ¬ (len * P.cellsOf e > 2 ^ 24) := by omega
          simp only [Instr.buildSlice, Sem.run_bind, run_underlying hq, Result.andThen_ok, run_sizeOf' hsz, Sem.run_ite, if_neg h24]
          by_cases h0 : len * P.cellsOf e = 0
          · have : madeCells zx.cells (len * P.cellsOf e) = (Array.range (len * P.cellsOf e)).map ((#[] : Array Value)[· % (#[] : Array Value).size]!) := by
              rw [h0]; simp [madeCells]
            rw [this] at o1
            simp only [if_pos h0, Sem.run_pure, Result.andThen_ok, o1, newRow, Sem.run_bind, run_newObj]
            rfl
          · have : madeCells zx.cells (len * P.cellsOf e) = (Array.range (len * P.cellsOf e)).map (zx.cells[· % zx.cells.size]!) := rfl
            rw [this] at o1
            simp only [if_neg h0, Sem.run_bind, hrun, Sem.run_pure, Result.andThen_ok, o1, newRow, run_newObj]
            rfl
        · simp only [VR]
          exact ⟨_, len, rfl, Nat.le_refl _, fun _ => rfl, fun _ => rfl, g1, out.toList, hval.mono' a2, fun _ => rfl, row_fresh hI o3 (fun j u hj => by simpa using hj)⟩
      · cases h
    · cases h
  · cases h
theorem makeSliceA_sound (hI : Inv K H p w) {t : TypeId} {l c : AV} {r : AV} {H' : Heap} (h : makeSliceA P t l c H = some (r, H')) {u v : Value} (hu : VR (kap K H p w) l u) (hv : VR (kap K H p w) c v) :
    ∃ y w' p', (Instr.makeSlice t u v).run P w = .ok y w' ∧ Inv K H' p' w' ∧ PK (kap K H p w) (kap K H' p' w') ∧ VR (kap K H' p' w') r y := by
  unfold makeSliceA at h
  split at h
  · rename_i e kl l kc c hq
    cases hu.v_eq; cases hv.v_eq
    split at h
    · rename_i hc
      obtain ⟨h0, h1, h2, h3, h4⟩ := hc
      obtain ⟨z, hzt, h⟩ := obind_eq h
      split at h
      · rename_i hzc
        obtain ⟨hz1, hz2⟩ := hzc
        cases h
        obtain ⟨zx, i, hi, hzi, rfl, hcst, hrun⟩ := run_zeroT hzt
        obtain ⟨zv1, zv2⟩ := ofVal_cells (κ := kap K H p w) hcst hz2
        have hsi : i.size = P.cellsOf e := by simp [Program.cellsOf, hi]
        have hbi : i.bytes = P.bytesOf e := by simp [Program.bytesOf, hi]
        have hzs : zx.cells.size = P.cellsOf e := by
          have := zv1.length
          simp at this
          rw [this, hz1]
        have hr := run_make (P := P) w t e i zx hq hi hzi kl kc l c h0 h1 (by rw [hbi]; exact h3) (by omega)
        have hmade : VRs (kap K H p w) (repl l.toNat (flat (ofVal zx))) (madeCells zx.cells (l.toNat * P.cellsOf e)).toList := by
          rw [← hzs, madeCells_flat _ (by omega)]
          exact repl_VRs zv1 _
        have hone : ∀ y ∈ (madeCells zx.cells (l.toNat * P.cellsOf e)).toList, y.oneCell' = true := by
          rw [← hzs, madeCells_flat _ (by omega)]
          intro y hy
          obtain ⟨l, hl, hy⟩ := List.mem_flatten.1 hy
          have := List.eq_of_mem_replicate hl
          subst this
          exact zv2 y hy
        have hle : l.toNat * P.cellsOf e ≤ c.toNat * P.cellsOf e := Nat.mul_le_mul_right _ (by omega)
        obtain ⟨q1, q2⟩ := alloc_sound (c := madeCells zx.cells (c.toNat * i.size)) (e := e) hI hmade hone (fun j u hj => by
          rw [hsi]
          rw [Array.getElem?_toList, madeCells_get] at hj
          rw [madeCells_get]
          split at hj
          · rw [if_pos (by omega)]; exact hj
          · cases hj)
        refine ⟨_, _, _, hr, q1, q2, ?_⟩
        simp only [VR]
        refine ⟨rfl, 0, some (w.heap.size, 0), by simp [kap, addP], Nat.le_refl _, fun _ => ⟨by omega, c.toNat, 0, rfl, by omega, fun _ => rfl, _, e, (0, 0), heap_last w _, ?_⟩⟩
        simp [madeCells, hsi]
      · cases h
    · cases h
  · cases h
end
end Go.AI
