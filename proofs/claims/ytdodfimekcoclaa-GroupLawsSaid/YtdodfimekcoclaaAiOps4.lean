/- The abstract interpreter: literals, new slices, append, copy. No conditions. -/
import Derived.Test.YtdodfimekcoclaaAiOps3
import Derived.Laws.MakeOwn
import Derived.Laws.OwnMore
set_option linter.unusedVariables false
namespace Go.AI
section
variable {P : Program} {κ : Kap}
theorem foldl_set (off : Nat) : ∀ (vs : List Value) (k : Nat) (cells : Array Value), off + k + vs.length ≤ cells.size →
    ((vs.zipIdx k).foldl (fun (cs : Array Value) (x : Value × Nat) => cs.setIfInBounds (off + x.2) x.1) cells).toList = cells.toList.take (off + k) ++ vs ++ cells.toList.drop (off + k + vs.length)
  | [], k, cells, h => by simp
  | v :: r, k, cells, h => by
    simp only [List.length_cons] at h
    rw [List.zipIdx_cons, List.foldl_cons, foldl_set off r (k + 1) _ (by simp; omega)]
    have hl : off + k < cells.toList.length := by simp; omega
    simp only [Array.toList_setIfInBounds]
    have e1 : (cells.toList.set (off + k) v).take (off + (k + 1)) = cells.toList.take (off + k) ++ [v] := by
      rw [← Nat.add_assoc, List.take_set, List.take_succ_eq_append_getElem hl, List.set_append_right _ _ (by simp; omega)]
      congr 1
      simp
      rw [Nat.min_eq_left (by simp at hl; omega)]
      simp
    have e2 : (cells.toList.set (off + k) v).drop (off + (k + 1) + r.length) = cells.toList.drop (off + k + (v :: r).length) := by
      rw [List.drop_set_of_lt (by omega)]
      congr 1
      simp; omega
    rw [e1, e2]
    simp
theorem fill_step (off : Nat) (v : Value) (cells : Array Value) (h : off + v.cells.size ≤ cells.size) :
    (v.cells.zipIdx.foldl (fun (cs : Array Value) (x : Value × Nat) => cs.setIfInBounds (off + x.2) x.1) cells).toList = cells.toList.take off ++ v.cells.toList ++ cells.toList.drop (off + v.cells.toList.length) := by
  have := foldl_set off v.cells.toList 0 cells (by simpa using h)
  rw [← Array.foldl_toList]
  simpa using this
/-- The parts as values. -/
def PartsR (κ : Kap) : List (Nat × AV) → List (Nat × Value) → Prop
  | [], vs => vs = []
  | (i, x) :: r, vs => ∃ u s, vs = (i, u) :: s ∧ VR κ x u ∧ PartsR κ r s
theorem evP_parts {g : G} {a : Act} (hE : EnvR κ g a) : ∀ {ps : List (Nat × Operand)} {qs : List (Nat × AV)}, evP g ps = some qs → PartsR κ qs (ps.map fun x => (x.1, a.eval x.2))
  | [], qs, h => by cases h; rfl
  | (i, o) :: r, qs, h => by
    obtain ⟨x, hx, h⟩ := obind_eq h
    obtain ⟨xs, hxs, h⟩ := obind_eq h
    cases h
    exact ⟨_, _, rfl, aev_sound hE hx, evP_parts hE hxs⟩
theorem fillA_sound {place : Nat → Option (Nat × Nat)} : ∀ {ps : List (Nat × AV)} {zs cs : List AV} {vs : List (Nat × Value)} {cells : Array Value}, fillA place zs ps = some cs → PartsR κ ps vs → VRs κ zs cells.toList → (∀ y ∈ cells.toList, y.oneCell' = true) →
    ∃ out : Array Value, Instr.fill place cells vs = some out ∧ VRs κ cs out.toList ∧ (∀ y ∈ out.toList, y.oneCell' = true) ∧ out.size = cells.size
  | [], zs, cs, vs, cells, h, hp, hz, h1 => by
    cases h; cases hp
    exact ⟨cells, rfl, hz, h1, rfl⟩
  | (i, x) :: r, zs, cs, vs, cells, h, hp, hz, h1 => by
    obtain ⟨⟨off, sz⟩, hpl, h⟩ := obind_eq h
    obtain ⟨u, s, rfl, hu, hr⟩ := hp
    split at h
    · rename_i hc
      obtain ⟨c1, c2, c3⟩ := hc
      obtain ⟨f1, f2⟩ := hu.flat c3
      have hsz := flat_length hu c3
      have hcl := hz.length
      simp only at c1 c2
      have hle : off + u.cells.size ≤ cells.size := by rw [hsz, c1]; simp at hcl; omega
      have hst := fill_step off u cells hle
      have hz' : VRs κ (splice zs off (flat x)) (u.cells.zipIdx.foldl (fun (cs : Array Value) (x : Value × Nat) => cs.setIfInBounds (off + x.2) x.1) cells).toList := by
        rw [hst, splice_app _ _ _ (by rw [c1]; exact c2), ← f1.length]
        exact (hz.take off).append f1 |>.append (hz.drop _)
      have h1' : ∀ y ∈ (u.cells.zipIdx.foldl (fun (cs : Array Value) (x : Value × Nat) => cs.setIfInBounds (off + x.2) x.1) cells).toList, y.oneCell' = true := by
        rw [hst]
        intro y hy
        rcases List.mem_append.1 hy with hy | hy
        · rcases List.mem_append.1 hy with hy | hy
          · exact h1 y (List.mem_of_mem_take hy)
          · exact f2 y hy
        · exact h1 y (List.mem_of_mem_drop hy)
      obtain ⟨out, o1, o2, o3, o4⟩ := fillA_sound h hr hz' h1'
      refine ⟨out, ?_, o2, o3, ?_⟩
      · unfold Instr.fill
        simp only [hpl]
        rw [if_neg (by simp only [ne_eq, Bool.or_eq_true, decide_eq_true_eq]; omega)]
        exact o1
      · rw [o4, ← Array.length_toList, hst]
        simp
        omega
    · cases h
theorem ofVal_cells {z : Value} (hz : cstB z = true) (hc : (flat (ofVal z)).all AV.cellB = true) : VRs κ (flat (ofVal z)) z.cells.toList ∧ ∀ y ∈ z.cells.toList, y.oneCell' = true := (VR_val hz).flat hc

section
variable {w : World}
theorem run_mapSizes : ∀ (fs : List Field) (w : World), (fs.all fun f => (P.info? f.type).isSome) = true →
    (fs.mapM (fun f => do pure (f.offset, ← sizeOf f.type) : Field → Sem (Nat × Nat))).run P w = .ok (fs.map fun f => (f.offset, P.cellsOf f.type)) w
  | [], w, _ => rfl
  | f :: r, w, h => by
    simp only [List.all_cons, Bool.and_eq_true] at h
    obtain ⟨i, hi⟩ := Option.isSome_iff_exists.1 h.1
    have ih := run_mapSizes r w h.2
    simp only [List.mapM_cons, Sem.run_bind, sizeOf, typeInfo, run_program, Result.andThen_ok, hi, Sem.run_pure, List.map_cons, Program.cellsOf] at ih ⊢
    rw [ih]
    simp
theorem abuild_sound {t : TypeId} {ps : List (Nat × AV)} {r : AV} (h : abuild P t ps = some r) {vs : Array (Nat × Value)} (hp : PartsR κ ps vs.toList) :
    ∃ y, VR κ r y ∧ (Instr.build t vs).run P w = .ok y w := by
  obtain ⟨z, hzt, h⟩ := obind_eq h
  obtain ⟨zx, i, hi, hzi, rfl, hcst, hrun⟩ := run_zeroT hzt
  have hv := VR_val (κ := κ) hcst
  split at h
  · rename_i zs fs e hzs hpl
    obtain ⟨cs, hcs, h⟩ := obind_eq h
    cases h
    rw [hzs] at hv
    simp only [VR] at hv
    obtain ⟨us, rfl, hv, h1⟩ := hv
    unfold placesT at hpl
    split at hpl
    · rename_i fs' hq
      split at hpl
      · rename_i hall
        cases hpl
        have hmap : ∀ w : World, (fs'.mapM (fun f => do pure (f.offset, ← sizeOf f.type) : Field → Sem (Nat × Nat))).run P w = .ok (fs'.map fun f => (f.offset, P.cellsOf f.type)) w := by
          intro w
          rw [Array.mapM_eq_mapM_toList]
          simp only [Sem.run_map, run_mapSizes fs'.toList w hall, Result.andThen_ok]
          congr 1
          apply Array.ext'
          simp
        obtain ⟨out, o1, o2, o3, o4⟩ := fillA_sound (cells := us.toArray) hcs hp (by simpa using hv) (by simpa using h1)
        refine ⟨.agg out, ?_, ?_⟩
        · simp only [VR]
          exact ⟨out.toList, by simp, o2, o3⟩
        · have hfun : (fun i : Nat => (fs'.map fun f => (f.offset, P.cellsOf f.type))[i]?) = fun i : Nat => (fs'.toList.map fun f => (f.offset, P.cellsOf f.type))[i]? := by
            funext i; simp
          simp only [Instr.build, Sem.run_bind, hrun, Result.andThen_ok, run_underlying hq, Value.cells, hmap, hfun, o1, Sem.run_pure]
      · cases hpl
    · cases hpl
  · rename_i zs e hzs hpl hel
    obtain ⟨cs, hcs, h⟩ := obind_eq h
    cases h
    rw [hzs] at hv
    simp only [VR] at hv
    obtain ⟨us, rfl, hv, h1⟩ := hv
    unfold elemT at hel
    split at hel
    · rename_i n te hq
      split at hel
      · rename_i hs
        cases hel
        obtain ⟨out, o1, o2, o3, o4⟩ := fillA_sound (cells := us.toArray) hcs hp (by simpa using hv) (by simpa using h1)
        refine ⟨.agg out, ?_, ?_⟩
        · simp only [VR]
          exact ⟨out.toList, by simp, o2, o3⟩
        · simp only [Instr.build, Sem.run_bind, hrun, Result.andThen_ok, run_underlying hq, Value.cells, run_sizeOf' hs, o1, Sem.run_pure]
      · cases hel
    · cases hel
  · cases h
end

/-! ### New slices -/
theorem repl_VRs {z : List AV} {us : List Value} (h : VRs κ z us) : ∀ n, VRs κ (repl n z) (List.replicate n us).flatten
  | 0 => .nil
  | n + 1 => by
    rw [List.replicate_succ, List.flatten_cons]
    exact h.append (repl_VRs h n)
theorem madeCells_flat (z : Array Value) (hz : 0 < z.size) (n : Nat) : (madeCells z (n * z.size)).toList = (List.replicate n z.toList).flatten := by
  induction n with
  | zero => simp [madeCells]
  | succ n ih =>
    rw [List.replicate_succ', List.flatten_append, ← ih]
    simp only [madeCells, Array.toList_map, Array.toList_range, Nat.succ_mul, List.range_add, List.map_append, List.map_map]
    congr 1
    simp only [List.flatten_cons, List.flatten_nil, List.append_nil]
    apply List.ext_getElem?
    intro i
    rcases Nat.lt_or_ge i z.size with h | h
    · simp [h, Nat.mul_add_mod_self_right, Nat.mod_eq_of_lt h]
    · simp [h]
end
end Go.AI
