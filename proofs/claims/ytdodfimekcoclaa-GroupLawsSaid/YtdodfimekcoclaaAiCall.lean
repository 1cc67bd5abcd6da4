/- The abstract interpreter: calls. Conditions: the callee's contract. -/
import Derived.Test.YtdodfimekcoclaaAiOps8
set_option linter.unusedVariables false
set_option linter.unusedSimpArgs false
namespace Go.AI
section
variable {P : Program} {K : Kx} {H : Heap} {p : Pl} {w : World}
theorem freeze_sound (hI : Inv K H p w) {b : Nat} {x : AB} (hb : H[b]? = some x) : Inv K (H.set b x.freeze) p w ∧ PK (kap K H p w) (kap K (H.set b x.freeze) p w) := by
  have hbl : b < H.length := (List.getElem?_eq_some_iff.1 hb).1
  have main := Inv.chg (b := b) (H' := H.set b x.freeze) (p' := p) (w' := w) hI
    (fun i hi => by rw [List.getElem?_set_ne (Ne.symm hi)]) (by simp) (fun i hi => by simp at hi; exact .inl hi) (fun i hi => rfl)
    (fun v x h => ⟨v, x, h, .inl ⟨rfl, rfl⟩⟩)
    (fun rb' hl => by
      obtain ⟨y, v, o2, q1, q2, q3⟩ := hl
      rw [List.getElem?_set_self hbl] at q1
      cases q1
      cases x with
      | cells l v cs => cases q2
      | map es => exact .inl ⟨_, v, o2, hb, rfl, q3⟩)
    (fun v rb' o' h => .inl ⟨v, o', hbl, h⟩)
    (fun h => by simp at h; omega)
    (fun i hi hn => rfl) (Nat.le_refl _) (fun i k hl hr => hr) rfl rfl rfl (fun _ => rfl)
  refine ⟨main.2 fun y hy => ?_, main.1⟩
  rw [List.getElem?_set_self hbl] at hy
  cases hy
  have hB := hI.blk b x hb
  cases x with
  | cells l v cs =>
    obtain ⟨x, h1, h2⟩ := hB
    refine ⟨x, h1, ?_⟩
    cases x with
    | none => exact h2
    | some q =>
      obtain ⟨rb, o⟩ := q
      obtain ⟨c, e, fr, us, r1, r2, r3, r4, r5⟩ := h2
      exact ⟨c, e, fr, us, r1, r2.mono' main.1, r3, r4, fun h => by cases h⟩
  | map es =>
    obtain ⟨rb, ents, clock, h1, h2, h3⟩ := hB
    exact ⟨rb, ents, clock, h1, h2, h3.mono main.1⟩
theorem mark_sound : ∀ (bs : List Nat) {H : Heap}, Inv K H p w → Inv K (markA H bs) p w ∧ PK (kap K H p w) (kap K (markA H bs) p w) ∧ (markA H bs).length = H.length ∧
    ∀ b rb, LiveAt (markA H bs) p b rb → LiveAt H p b rb ∧ (b ∈ bs → ¬ CellB H b)
  | [], H, hI => ⟨hI, PK.refl _, rfl, fun b rb h => ⟨h, fun hb => by cases hb⟩⟩
  | b :: bs, H, hI => by
    cases hx : H[b]? with
    | none =>
      obtain ⟨h1, h2, h3, h4⟩ := mark_sound bs hI
      have he : markA H (b :: bs) = markA H bs := by simp [markA, hx]
      rw [he]
      refine ⟨h1, h2, h3, fun i rb hl => ⟨(h4 i rb hl).1, fun hi => ?_⟩⟩
      rcases List.mem_cons.1 hi with rfl | hi
      · rintro ⟨l, v, cs, hc⟩
        rw [hx] at hc; cases hc
      · exact (h4 i rb hl).2 hi
    | some x =>
      have he : markA H (b :: bs) = markA (H.set b x.freeze) bs := by simp [markA, hx]
      rw [he]
      have hbl : b < H.length := (List.getElem?_eq_some_iff.1 hx).1
      obtain ⟨f1, f2⟩ := freeze_sound hI hx
      obtain ⟨h1, h2, h3, h4⟩ := mark_sound bs f1
      refine ⟨h1, f2.trans h2, by rw [h3]; simp, fun i rb hl => ?_⟩
      obtain ⟨g1, g2⟩ := h4 i rb hl
      obtain ⟨y, v, o, q1, q2, q3⟩ := g1
      by_cases hib : i = b
      · subst hib
        rw [List.getElem?_set_self hbl] at q1
        cases q1
        cases x with
        | cells l v cs => cases q2
        | map es =>
          refine ⟨⟨_, v, o, hx, rfl, q3⟩, fun _ => ?_⟩
          rintro ⟨l, v, cs, hc⟩
          rw [hx] at hc; cases hc
      · rw [List.getElem?_set_ne (Ne.symm hib)] at q1
        refine ⟨⟨y, v, o, q1, q2, q3⟩, fun hi => ?_⟩
        rcases List.mem_cons.1 hi with rfl | hi
        · exact absurd rfl hib
        · rintro ⟨l, v', cs, hc⟩
          exact g2 hi ⟨l, v', cs, by rw [List.getElem?_set_ne (Ne.symm hib)]; exact hc⟩
/-- What was there is as it was; there may be more. -/
theorem frame_sound (hI : Inv K H p w) {w' : World} (hb : ∀ i, i < w.heap.size → w'.heap[i]? = w.heap[i]?) (hs : w.heap.size ≤ w'.heap.size) (ho : w'.os = w.os) (ht : w'.tape = w.tape) (hu : w'.output = w.output) (hfr : ∀ a, w'.frozen? a = w.frozen? a) :
    Inv K H p w' ∧ PK (kap K H p w) (kap K H p w') := by
  have main := Inv.chg (b := H.length) (H' := H) (p' := p) (w' := w') hI (fun i hi => rfl) (Nat.le_refl _) (fun i hi => .inl hi) (fun i hi => rfl)
    (fun v x h => ⟨v, x, h, .inl ⟨rfl, rfl⟩⟩) (fun rb hl => .inl hl) (fun v rb o h => by rw [hI.dom _ (Nat.le_refl _)] at h; cases h) (fun h => hI.dom _ h)
    (fun i hi hn => hb i hi) hs (fun i k hl hr => by
      obtain ⟨c, e, fr, r1, r2⟩ := hr
      exact ⟨c, e, fr, by rw [hb i (Array.getElem?_eq_some_iff.1 r1).1]; exact r1, r2⟩) ho ht hu hfr
  exact ⟨main.2 fun x hx => by simp at hx, main.1⟩
theorem VRs.isV {κ κ' : Kap} : ∀ {cs : List AV} {us : List Value}, cs.all AV.isV = true → VRs κ cs us → VRs κ' cs us
  | [], us, h, hv => by rw [hv.nil_eq]; exact .nil
  | x :: r, us, h, hv => by
    simp only [List.all_cons, Bool.and_eq_true] at h
    obtain ⟨u, s, rfl, hu, hr⟩ := hv.uncons
    cases x with
    | v y =>
      simp only [VR] at hu
      exact .cons (by simp only [VR]; exact hu) (hr.isV h.2)
    | _ => cases h.1
theorem VR.scalar1 {κ κ' : Kap} {x : AV} {u : Value} (h : x.scalar1 = true) (hu : VR κ x u) : VR κ' x u := by
  cases x with
  | v y => simp only [VR] at hu ⊢; exact hu
  | ag cs =>
    simp only [VR] at hu ⊢
    obtain ⟨us, rfl, h2, h3⟩ := hu
    exact ⟨us, rfl, h2.isV h, h3⟩
  | _ => cases h
theorem VRs.scalar1 {κ κ' : Kap} : ∀ {cs : List AV} {us : List Value}, cs.all AV.scalar1 = true → VRs κ cs us → VRs κ' cs us
  | [], us, h, hv => by rw [hv.nil_eq]; exact .nil
  | x :: r, us, h, hv => by
    simp only [List.all_cons, Bool.and_eq_true] at h
    obtain ⟨u, s, rfl, hu, hr⟩ := hv.uncons
    exact .cons (hu.scalar1 h.1) (hr.scalar1 h.2)
theorem VR.scalar {κ κ' : Kap} {x : AV} {u : Value} (h : x.scalar = true) (hu : VR κ x u) : VR κ' x u := by
  cases x with
  | tu vs =>
    simp only [VR] at hu ⊢
    obtain ⟨us, rfl, h2⟩ := hu
    exact ⟨us, rfl, h2.scalar1 h⟩
  | v y => exact VR.scalar1 h hu
  | ag cs => exact VR.scalar1 h hu
  | _ => cases h

/-- What a call comes to. -/
def Entry (P : Program) (f : FuncId) : Prop := ∃ fn, P.funcs[f]? = some fn ∧ fn.body.isNone = false ∧ (fn.name == "runtime.NumGoroutine") = false
def CallOk (c : Cfg) (f : FuncId) (args : List AV) (H : Heap) (r : AV) (H' : Heap) : Prop :=
  Entry c.P f ∧ (c.shared f = false → r.good = true) ∧
  ∀ (K : Kx) (p : Pl) (w : World) (cargs : List Value), Inv K H p w → VRs (kap K H p w) args cargs →
    Calls c.P f cargs.toArray w fun e w' => ∃ u p', e = .returned u ∧ Inv K H' p' w' ∧ PK (kap K H p w) (kap K H' p' w') ∧ VR (kap K H' p' w') r u
/-- Every answer of C is the program's. -/
def SoundC (c : Cfg) (C : Cl) : Prop := ∀ f args H r H', C f args H = some (r, H') → CallOk c f args H r H'
theorem noP_inv {K : Kx} {w : World} (hf : ∀ b, K.F b → b < w.heap.size) (he : Ext K w) : Inv K [] (fun _ => none) w :=
  ⟨fun b x h => by simp at h, fun b b' v o v' o' rb h => by simp at h, fun b v o rb h => by simp at h, fun b rb h => by obtain ⟨x, v, o, h, _⟩ := h; simp at h, hf, he, fun _ _ => rfl⟩
theorem callA_entry {c : Cfg} {C : Cl} (hC : SoundC c C) {f : FuncId} {args : List AV} {r : AV} {H' : Heap} (h : callA c C f args H = some (r, H')) : Entry c.P f := by
  unfold callA at h
  split at h
  · exact (hC f args H r H' h).1
  · obtain ⟨⟨args', bs⟩, hcl, h⟩ := obind_eq h
    obtain ⟨⟨r0, H0⟩, hr, h⟩ := obind_eq h
    exact (hC f args' [] r0 H0 hr).1
theorem callA_sound {c : Cfg} {C : Cl} (hC : SoundC c C) (hI : Inv K H p w) {f : FuncId} {args : List AV} {r : AV} {H' : Heap} (h : callA c C f args H = some (r, H')) {cargs : List Value} (hv : VRs (kap K H p w) args cargs) :
    Calls c.P f cargs.toArray w fun e w' => ∃ u p', e = .returned u ∧ Inv K H' p' w' ∧ PK (kap K H p w) (kap K H' p' w') ∧ VR (kap K H' p' w') r u := by
  unfold callA at h
  split at h
  · exact (hC f args H r H' h).2.2 K p w cargs hI hv
  · rename_i hsh
    have hsh' : c.shared f = false := by simpa using hsh
    obtain ⟨⟨args', bs⟩, hcl, h⟩ := obind_eq h
    obtain ⟨⟨r0, H0⟩, hr, h⟩ := obind_eq h
    obtain ⟨g1, g2, g3, g4, g5⟩ := mapC_sound (closeA_sound hI depthA) _ _ _ _ hcl hv
    obtain ⟨_, hgood, hcall⟩ := hC f args' [] r0 H0 hr
    have hgood' := hgood hsh'
    let K' : Kx := ⟨fun rb => Avo K H p rb ∧ ∀ b ∈ bs, ∀ v o, p b ≠ some (v, some (rb, o)), fun _ => False, w⟩
    have hI' : Inv K' [] (fun _ => none) w := noP_inv (fun b hb => avo_lt hI hb.1) ⟨rfl, rfl, rfl, Nat.le_refl _, fun _ _ _ => rfl, fun _ => rfl⟩
    have hA : ∀ rb, (kap K' [] (fun _ => none) w).A rb → Avo K H p rb ∧ ∀ b ∈ bs, ∀ v o, p b ≠ some (v, some (rb, o)) := by
      intro rb hrb
      rcases hrb with hrb | ⟨b, x, v, o, q1, _⟩
      · exact hrb
      · simp at q1
    refine (hcall K' (fun _ => none) w cargs hI' (g5 _ rfl hA)).mono fun e w2 ⟨u, p'', he, hI2, hk2, hu2⟩ => ?_
    have hext := hI2.ext
    obtain ⟨f1, f2⟩ := frame_sound hI (w' := w2) (fun i hi => hext.block i hi (fun h => h)) hext.size hext.os hext.tape hext.output hext.froz
    cases bs with
    | nil =>
      simp only at h
      cases h
      have hpg : PG (kap K' H0 p'' w2) (kap K H p w2) := ⟨fun a u _ hc => hc, fun b hb => .inl (.inl ⟨hb, fun b hb => by cases hb⟩)⟩
      exact ⟨u, p, he, f1, f2, VR.goodM hpg _ u (.inl hgood') hu2⟩
    | cons b0 bs =>
      simp only at h
      split at h
      · rename_i hs
        cases h
        exact ⟨u, p, he, f1, f2, hu2.scalar hs⟩
      · cases h
        obtain ⟨m1, m2, m3, m4⟩ := mark_sound (b0 :: bs) f1
        have hpg : PG (kap K' H0 p'' w2) (kap K (markA H (b0 :: bs)) p w2) := by
          refine ⟨fun a u _ hc => hc, fun b hb => .inl (.inl ?_)⟩
          rcases hb with hb | ⟨i, hi⟩
          · refine ⟨.inl hb, fun i hi v o hp => ?_⟩
            obtain ⟨l, vv, cs, hc⟩ := g4 i hi
            exact hI.dis i v o b (List.getElem?_eq_some_iff.1 hc).1 hp hb
          · obtain ⟨n1, n2⟩ := m4 i b hi
            refine ⟨.inr ⟨i, n1⟩, fun j hj v o hp => ?_⟩
            obtain ⟨l, vv, cs, hc⟩ := g4 j hj
            obtain ⟨x, v', o', q1, q2, q3⟩ := n1
            have : i = j := hI.inj i j _ _ _ _ b (List.getElem?_eq_some_iff.1 q1).1 (List.getElem?_eq_some_iff.1 hc).1 q3 hp
            subst this
            exact n2 hj (g4 i hj)
        exact ⟨u, p, he, m1, f2.trans m2, VR.goodM hpg _ u (.inl hgood') hu2⟩
end
end Go.AI
