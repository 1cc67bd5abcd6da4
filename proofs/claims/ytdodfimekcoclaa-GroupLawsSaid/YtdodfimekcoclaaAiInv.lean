/- The abstract interpreter: one block of the own heap changes, all else stays. No conditions. -/
import Derived.Test.YtdodfimekcoclaaAiOps
set_option linter.unusedVariables false
namespace Go.AI
section
variable {K : Kx} {H H' : Heap} {p p' : Pl} {w w' : World} {b : Nat}

theorem cell_same {a : Addr} {u : Value} (h : w'.heap[a.block]? = w.heap[a.block]?) (hc : w.cell? a = some u) : w'.cell? a = some u := by
  unfold World.cell? at *
  rw [h]; exact hc
theorem frozen_setRow {w : World} {g : Nat} {c : Array Value} {e : TypeId} {fr : Nat × Nat} (hb : w.heap[g]? = some (.cells c e fr)) (cs : Array Value) (a : Addr) : (w.setRow g cs).frozen? a = w.frozen? a := by
  by_cases h : a.block = g
  · simp only [World.frozen?, h, hb, setRow_heap w g c cs e fr hb]
  · simp only [World.frozen?, setRow_other w g a.block cs h]
theorem Inv.chg (hI : Inv K H p w) (hH : ∀ i, i ≠ b → H'[i]? = H[i]?) (hlen : H.length ≤ H'.length) (hlen' : ∀ i, i < H'.length → i < H.length ∨ i = b)
    (hp : ∀ i, i ≠ b → p' i = p i) (hver : ∀ v x, p b = some (v, x) → ∃ v' x', p' b = some (v', x') ∧ ((v' = v ∧ x' = x) ∨ v < v'))
    (hlive : ∀ rb, LiveAt H' p' b rb → LiveAt H p b rb ∨ rb = w.heap.size)
    (himg : ∀ v rb o, p' b = some (v, some (rb, o)) → (∃ v0 o0, b < H.length ∧ p b = some (v0, some (rb, o0))) ∨ rb = w.heap.size)
    (hdom : H'.length ≤ b → p' b = none)
    (hw : ∀ i, i < w.heap.size → ¬ LiveAt H p b i → w'.heap[i]? = w.heap[i]?) (hsz : w.heap.size ≤ w'.heap.size)
    (hrow : ∀ i k, LiveAt H p b i → RowSz w i k → RowSz w' i k) (hos : w'.os = w.os) (htape : w'.tape = w.tape) (hout : w'.output = w.output) (hfr : ∀ a, w'.frozen? a = w.frozen? a) :
    PK (kap K H p w) (kap K H' p' w') ∧ ((∀ x, H'[b]? = some x → BlkR (kap K H' p' w') b x) → Inv K H' p' w') := by
  have hk : PK (kap K H p w) (kap K H' p' w') := by
    refine ⟨fun a u hA hc => ?_, fun rb hA => ?_, hsz, fun i k hr => ?_, fun i v x hi => ?_⟩
    · have hlt := World.block_lt_of_cell? _ _ hc
      exact cell_same (hw _ hlt fun hl => hA (.inr ⟨b, hl⟩)) hc
    · rcases hA with hA | ⟨i, hi⟩
      · exact .inl (.inl hA)
      · by_cases hib : i = b
        · subst hib
          rcases hlive rb hi with h | h
          · exact .inl (.inr ⟨_, h⟩)
          · exact .inr (by rw [h]; exact Nat.le_refl _)
        · obtain ⟨x, v, o, h1, h2, h3⟩ := hi
          rw [hH i hib] at h1
          rw [hp i hib] at h3
          exact .inl (.inr ⟨i, x, v, o, h1, h2, h3⟩)
    · by_cases hl : LiveAt H p b i
      · exact hrow i k hl hr
      · obtain ⟨c, e, fr, h1, h2⟩ := hr
        have hlt : i < w.heap.size := (Array.getElem?_eq_some_iff.1 h1).1
        exact ⟨c, e, fr, by show w'.heap[i]? = _; rw [hw i hlt hl]; exact h1, h2⟩
    · by_cases hib : i = b
      · subst hib; exact hver v x hi
      · exact ⟨v, x, by show p' i = _; rw [hp i hib]; exact hi, .inl ⟨rfl, rfl⟩⟩
  refine ⟨hk, fun hblk => ?_⟩
  have hlt_of : ∀ {i : Nat} {x : AB}, H[i]? = some x → i < H.length := fun h => (List.getElem?_eq_some_iff.1 h).1
  refine ⟨fun i x hx => ?_, fun i j v o v' o' rb hi hj h1 h2 => ?_, fun i v o rb hi h1 => ?_, fun i rb hl => ?_, fun i hi => Nat.lt_of_lt_of_le (hI.fsz i hi) hsz, ?_, fun i hi => ?_⟩
  · by_cases hib : i = b
    · subst hib; exact hblk x hx
    · rw [hH i hib] at hx
      have hB := hI.blk i x hx
      have same : ∀ {v rb o}, p i = some (v, some (rb, o)) → rb < w.heap.size → w'.heap[rb]? = w.heap[rb]? := by
        intro v rb o h1 h2
        refine hw rb h2 ?_
        rintro ⟨y, v2, o2, g1, g2, g3⟩
        exact hib (hI.inj i b v o v2 o2 rb (hlt_of hx) (hlt_of g1) h1 g3)
      cases x with
      | cells live ver cs =>
        obtain ⟨x, h1, h2⟩ := hB
        refine ⟨x, by show p' i = _; rw [hp i hib]; exact h1, ?_⟩
        cases x with
        | none => exact h2
        | some q =>
          obtain ⟨rb, o⟩ := q
          obtain ⟨c, e, fr, us, g1, g2, g3, g4, g5⟩ := h2
          exact ⟨c, e, fr, us, by rw [show (kap K H' p' w').w.heap[rb]? = w.heap[rb]? from same h1 (Array.getElem?_eq_some_iff.1 g1).1]; exact g1, g2.mono' hk, g3, g4, g5⟩
      | map es =>
        obtain ⟨rb, ents, clock, h1, h2, h3⟩ := hB
        exact ⟨rb, ents, clock, by show p' i = _; rw [hp i hib]; exact h1, by rw [show (kap K H' p' w').w.heap[rb]? = w.heap[rb]? from same h1 (Array.getElem?_eq_some_iff.1 h2).1]; exact h2, h3.mono hk⟩
  · -- distinct images
    have fresh : ∀ {i v o}, i < H.length → p i = some (v, some (w.heap.size, o)) → False := by
      intro i v o hi h
      obtain ⟨x, hx⟩ : ∃ x, H[i]? = some x := ⟨_, List.getElem?_eq_getElem hi⟩
      have hB := hI.blk i x hx
      cases x with
      | cells live ver cs =>
        obtain ⟨x, h1, h2⟩ := hB
        have e := h1.symm.trans h
        cases e
        obtain ⟨c, e, fr, us, g1, _⟩ := h2
        have := (Array.getElem?_eq_some_iff.1 g1).1
        exact Nat.lt_irrefl _ this
      | map es =>
        obtain ⟨rb, ents, clock, h1, h2, h3⟩ := hB
        have e := h1.symm.trans h
        cases e
        have := (Array.getElem?_eq_some_iff.1 h2).1
        exact Nat.lt_irrefl _ this
    by_cases hib : i = b
    · by_cases hjb : j = b
      · rw [hib, hjb]
      · subst hib
        have hj' : j < H.length := (hlen' j hj).resolve_right hjb
        rw [hp j hjb] at h2
        rcases himg v rb o h1 with ⟨v0, o0, g0, g1⟩ | rfl
        · exact hI.inj i j _ _ _ _ rb g0 hj' g1 h2
        · exact (fresh hj' h2).elim
    · by_cases hjb : j = b
      · subst hjb
        have hi' : i < H.length := (hlen' i hi).resolve_right hib
        rw [hp i hib] at h1
        rcases himg v' rb o' h2 with ⟨v0, o0, g0, g1⟩ | rfl
        · exact hI.inj i j _ _ _ _ rb hi' g0 h1 g1
        · exact (fresh hi' h1).elim
      · rw [hp i hib] at h1
        rw [hp j hjb] at h2
        exact hI.inj i j _ _ _ _ rb ((hlen' i hi).resolve_right hib) ((hlen' j hj).resolve_right hjb) h1 h2
  · by_cases hib : i = b
    · subst hib
      rcases himg v rb o h1 with ⟨v0, o0, g0, g1⟩ | rfl
      · exact hI.dis i v0 o0 rb g0 g1
      · exact fun hF => Nat.lt_irrefl _ (hI.fsz _ hF)
    · rw [hp i hib] at h1
      exact hI.dis i v o rb ((hlen' i hi).resolve_right hib) h1
  · by_cases hib : i = b
    · subst hib
      rcases hlive rb hl with h | rfl
      · exact hI.old _ rb h
      · exact .inr hI.ext.size
    · obtain ⟨x, v, o, h1, h2, h3⟩ := hl
      rw [hH i hib] at h1
      rw [hp i hib] at h3
      exact hI.old i rb ⟨x, v, o, h1, h2, h3⟩
  · refine ⟨hos.trans hI.ext.os, htape.trans hI.ext.tape, hout.trans hI.ext.output, Nat.le_trans hI.ext.size hsz, fun i hi hL => ?_, fun a => (hfr a).trans (hI.ext.froz a)⟩
    rw [hw i (Nat.lt_of_lt_of_le hi hI.ext.size) fun hl => ?_]
    · exact hI.ext.block i hi hL
    · rcases hI.old b i hl with h | h
      · exact hL h
      · omega
  · by_cases hib : i = b
    · subst hib; exact hdom hi
    · rw [hp i hib]; exact hI.dom i (Nat.le_trans hlen hi)
end
end Go.AI
