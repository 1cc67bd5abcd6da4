/- The abstract interpreter: one operation. Conditions: the callees' contracts. -/
import Derived.Test.YtdodfimekcoclaaAiCall
set_option linter.unusedVariables false
set_option linter.unusedSimpArgs false
namespace Go.AI
section
variable {K : Kx} {H : Heap} {p : Pl} {w : World}
/-- A new map. -/
theorem newMap_sound (hI : Inv K H p w) : Inv K (H ++ [.map []]) (addP p H.length (some (w.heap.size, 0))) (w.alloc (.map #[] 0)) ∧
    PK (kap K H p w) (kap K (H ++ [.map []]) (addP p H.length (some (w.heap.size, 0))) (w.alloc (.map #[] 0))) := by
  have hp0 : p H.length = none := hI.dom _ (Nat.le_refl _)
  have main := Inv.chg (b := H.length) (H' := H ++ [.map []]) (p' := addP p H.length (some (w.heap.size, 0))) (w' := w.alloc (.map #[] 0)) hI
    (fun i hi => by rw [get_push, if_neg hi]) (by simp) (fun i hi => by simp at hi; omega) (fun i hi => by simp [addP, hi])
    (fun v x h => by rw [hp0] at h; cases h)
    (fun rb hl => by
      obtain ⟨x, v, o, q1, q2, q3⟩ := hl
      simp [addP] at q3
      exact .inr q3.2.1.symm)
    (fun v rb o h => by simp [addP] at h; exact .inr h.2.1.symm)
    (fun h => absurd h (by simp))
    (fun i hi hn => RowKit.Below.heap_alloc w _ i hi)
    (by simp)
    (fun i k hl hr => by
      obtain ⟨x, v, o, q1, q2, q3⟩ := hl
      rw [hp0] at q3; cases q3)
    rfl rfl rfl (fun a => RowKit.frozen?_alloc_map w _ _ a)
  refine ⟨main.2 fun x hx => ?_, main.1⟩
  rw [get_push, if_pos rfl] at hx
  cases hx
  exact ⟨w.heap.size, #[], 0, by simp [kap, addP], heap_last w _, rfl⟩
/-- What an operation's walk asks for. -/
def After (K : Kx) (H : Heap) (p : Pl) (w : World) (H1 : Heap) (x : AV) (u : Value) (w' : World) : Prop :=
  ∃ p', Inv K H1 p' w' ∧ PK (kap K H p w) (kap K H1 p' w') ∧ VR (kap K H1 p' w') x u
theorem After.same (hI : Inv K H p w) {x : AV} {u : Value} (h : VR (kap K H p w) x u) : After K H p w H x u w := ⟨p, hI, PK.refl _, h⟩
theorem wp_value {P : Program} {o : Oper} {a : Act} {next : Act → World → Prop} {Q : Exit → Act → World → Prop} {H1 : Heap} {x : AV}
    (hn : ∀ u w', After K H p w H1 x u w' → next (a.put o.dst u) w') {u : Value} {w' : World} (he : (execOp a.eval o).run P w = .ok (.value u) w') (ha : After K H p w H1 x u w') : o.wp P a w next Q := by
  unfold Oper.wp
  rw [he]
  exact hn u w' ha
theorem wp_skipv {P : Program} {o : Oper} {a : Act} {next : Act → World → Prop} {Q : Exit → Act → World → Prop} {H1 : Heap}
    (hn : ∀ u w', After K H p w H1 (.tu []) u w' → next (a.put o.dst u) w') {w' : World} (he : (execOp a.eval o).run P w = .ok .skip w') (ha : ∃ p', Inv K H1 p' w' ∧ PK (kap K H p w) (kap K H1 p' w')) : o.wp P a w next Q := by
  unfold Oper.wp
  rw [he]
  obtain ⟨p', h1, h2⟩ := ha
  refine hn undef w' ⟨p', h1, h2, ?_⟩
  simp only [VR]
  exact ⟨[], rfl, .nil⟩
theorem run_enter {P : Program} {f : FuncId} (h : Entry P f) (args : Array Value) (w : World) : (callFunc f args).run P w = .ok (.enter f args) w := by
  obtain ⟨fn, h1, h2, h3⟩ := h
  simp [callFunc, h1, h2, h3]
  rw [if_neg (by simpa using h3)]
  simp
  intro hb
  simp [hb] at h2
theorem info_of_cells {P : Program} {t : TypeId} (h : 0 < P.cellsOf t) : ∃ i, P.info? t = some i := by
  unfold Program.cellsOf at h
  cases hi : P.info? t with
  | none => rw [hi] at h; simp at h
  | some i => exact ⟨i, rfl⟩
theorem opt_sound {g : G} {a : Act} {κ : Kap} (hE : EnvR κ g a) {o : Option Operand} {x : Option AV} (h : aevO g o = some x) : OptR κ x (o.map a.eval) := by
  cases o with
  | none => cases h; rfl
  | some o =>
    obtain ⟨y, hy, h⟩ := obind_eq h
    cases h
    exact ⟨_, rfl, aev_sound hE hy⟩
theorem builtin_sound (hI : Inv K H p w) {c : Cfg} {b : Builtin} {ats : Array TypeId} {args : List AV} {r : AV} {H1 : Heap} (h : builtinA c b ats args H = some (r, H1)) (ty : TypeId) (cs : Array Bool) {us : List Value} (hv : VRs (kap K H p w) args us) :
    ∃ u w', (builtin b ats ty cs us.toArray).run c.P w = .ok (.value u) w' ∧ After K H p w H1 r u w' := by
  unfold builtinA at h
  split at h
  · rename_i t x h0
    obtain ⟨y, hy, h⟩ := obind_eq h
    obtain ⟨z, hz, h⟩ := obind_eq h
    cases h
    obtain ⟨u, s, rfl, hu, hs⟩ := hv.uncons
    cases hs.nil_eq
    obtain ⟨v, hv1, hv2⟩ := lenA_sound (ty := ty) hI hy hz hu
    refine ⟨v, w, ?_, .same hI hv1⟩
    have e : Builtin.len_ ats ty #[u] = Builtin.len_ #[t] ty #[u] := by
      unfold Builtin.len_
      rw [h0]
      rfl
    simp only [builtin]
    have : (Builtin.len_ ats ty #[u]).run c.P w = .ok v w := by
      rw [e, hv2]
    simp [this]
  · rename_i t s x h0
    split at h
    · rename_i t2 h1
      split at h
      · rename_i hni
        obtain ⟨u, s', rfl, hu, hs⟩ := hv.uncons
        obtain ⟨v, s2, rfl, hv', hs2⟩ := hs.uncons
        cases hs2.nil_eq
        obtain ⟨y, w', p', g1, g2, g3, g4⟩ := appendA_sound (ty := ty) hI hni h hu hv'
        refine ⟨y, w', ?_, p', g2, g3, g4⟩
        have e : Builtin.append_ ats ty #[u, v] = Builtin.append_ #[t, t2] ty #[u, v] := by
          unfold Builtin.append_
          rw [h0, h1]
          rfl
        have : (Builtin.append_ ats ty #[u, v]).run c.P w = .ok y w' := by
          rw [e, g1]
        simp only [builtin]
        simp [this]
      · cases h
    · cases h
  · rename_i t d x h0
    obtain ⟨u, s', rfl, hu, hs⟩ := hv.uncons
    obtain ⟨v, s2, rfl, hv', hs2⟩ := hs.uncons
    cases hs2.nil_eq
    obtain ⟨y, w', g1, g2, g3, g4⟩ := copyA_sound (t2 := 0) (ty := ty) hI h hu hv'
    refine ⟨y, w', ?_, p, g2, g3, g4⟩
    have e : Builtin.copy_ ats ty #[u, v] = Builtin.copy_ #[t, 0] ty #[u, v] := by
      unfold Builtin.copy_
      rw [h0]
      rfl
    have : (Builtin.copy_ ats ty #[u, v]).run c.P w = .ok y w' := by
      rw [e, g1]
    simp only [builtin]
    simp [this]
  · rename_i x y _
    obtain ⟨z, hz, h⟩ := obind_eq h
    cases h
    obtain ⟨u, s', rfl, hu, hs⟩ := hv.uncons
    obtain ⟨v, s2, rfl, hv', hs2⟩ := hs.uncons
    cases hs2.nil_eq
    unfold max2A at hz
    split at hz
    · cases hz
      cases hu.v_eq; cases hv'.v_eq
      exact ⟨_, w, by simp [builtin, Builtin.max_, Builtin.max2], .same hI (VR_v rfl)⟩
    · cases hz
  · rename_i x y _
    obtain ⟨z, hz, h⟩ := obind_eq h
    cases h
    obtain ⟨u, s', rfl, hu, hs⟩ := hv.uncons
    obtain ⟨v, s2, rfl, hv', hs2⟩ := hs.uncons
    cases hs2.nil_eq
    unfold min2A at hz
    split at hz
    · cases hz
      cases hu.v_eq; cases hv'.v_eq
      exact ⟨_, w, by simp [builtin, Builtin.min_, Builtin.min2], .same hI (VR_v rfl)⟩
    · cases hz
  · cases h
theorem opw {c : Cfg} {C : Cl} {g : G} {a : Act} {o : Oper} {x : AV} {H1 : Heap} (hC : SoundC c C) (h : aop c C o.op g H = some (x, H1)) (hI : Inv K H p w) (hE : EnvR (kap K H p w) g a)
    {next : Act → World → Prop} {Q : Exit → Act → World → Prop} (hn : ∀ u w', After K H p w H1 x u w' → next (a.put o.dst u) w') : o.wp c.P a w next Q := by
  unfold aop at h
  split at h
  · rename_i y ho
    obtain ⟨b, hb, h⟩ := obind_eq h
    cases h
    exact wp_value hn (by simp [execOp, ho]) (.same hI (aev_sound hE hb))
  · rename_i y ho
    obtain ⟨b, hb, h⟩ := obind_eq h
    have hv := aev_sound hE hb
    unfold assignA at h
    split at h
    · cases h
      obtain ⟨q1, q2⟩ := empty_sound hI
      exact wp_value hn (by simp [execOp, ho]) ⟨_, q1, q2, VR_empty hv⟩
    · cases h
      exact wp_value hn (by simp [execOp, ho]) (.same hI hv)
  · rename_i t y z ho
    obtain ⟨b, hb, h⟩ := obind_eq h
    obtain ⟨y', hy, h⟩ := obind_eq h
    obtain ⟨z', hz, h⟩ := obind_eq h
    obtain ⟨r, hr, h⟩ := obind_eq h
    cases h
    obtain ⟨v, hv, he⟩ := pickA_sound (P := c.P) hr (aev_sound hE hb) (aev_sound hE hy) (aev_sound hE hz) w
    exact wp_value hn (by simpa only [execOp, ho] using he) (.same hI hv)
  · rename_i t ho
    obtain ⟨z, hz, h⟩ := obind_eq h
    split at h
    · rename_i hc
      cases h
      obtain ⟨zx, i, hi, hzi, rfl, hcst, hrun⟩ := run_zeroT hz
      obtain ⟨f1, f2⟩ := (VR_val (κ := kap K H p w) hcst).flat hc
      obtain ⟨p', q1, q2, q3⟩ := newVarA_sound hI f1 f2 t
      refine wp_value hn (u := .pointer (some ⟨w.heap.size, 0, none⟩)) (w' := w.alloc (.cells zx.cells t)) ?_ ⟨p', by rw [Array.toArray_toList] at q1; exact q1, by rw [Array.toArray_toList] at q2; exact q2, by rw [Array.toArray_toList] at q3; exact q3⟩
      simp [execOp, ho, Instr.alloc, hrun, newVar, newRow]
    · cases h
  · rename_i t y ho
    obtain ⟨z, hz, h⟩ := obind_eq h
    split at h
    · rename_i hc
      cases h
      obtain ⟨f1, f2⟩ := (aev_sound hE hz).flat hc
      obtain ⟨p', q1, q2, q3⟩ := newVarA_sound hI f1 f2 t
      refine wp_value hn (u := .pointer (some ⟨w.heap.size, 0, none⟩)) (w' := w.alloc (.cells (a.eval y).cells t)) ?_ ⟨p', by rw [Array.toArray_toList] at q1; exact q1, by rw [Array.toArray_toList] at q2; exact q2, by rw [Array.toArray_toList] at q3; exact q3⟩
      simp [execOp, ho, Instr.box, newVar, newRow]
    · cases h
  · rename_i t ps ho
    obtain ⟨qs, hq, h⟩ := obind_eq h
    obtain ⟨r, hr, h⟩ := obind_eq h
    cases h
    obtain ⟨y, hy, he⟩ := abuild_sound (w := w) (vs := ps.map fun (i, x) => (i, a.eval x)) hr (by simpa using evP_parts hE hq)
    exact wp_value hn (by simp [execOp, ho, he]) (.same hI hy)
  · rename_i t n ps ho
    obtain ⟨qs, hq, h⟩ := obind_eq h
    obtain ⟨r, hr, h⟩ := obind_eq h
    cases h
    obtain ⟨y, w', he, q1, q2, q3⟩ := abuildSlice_sound hI (vs := ps.map fun (i, x) => (i, a.eval x)) hr (by simpa using evP_parts hE hq)
    exact wp_value hn (by simp [execOp, ho, he]) ⟨p, q1, q2, q3⟩
  · rename_i t y ho
    obtain ⟨z, hz, h⟩ := obind_eq h
    obtain ⟨r, hr, h⟩ := obind_eq h
    cases h
    obtain ⟨v, he, hv⟩ := loadA_sound hI hr (aev_sound hE hz)
    exact wp_value hn (by simp [execOp, ho, he]) (.same hI hv)
  · rename_i t y z ho
    obtain ⟨y', hy, h⟩ := obind_eq h
    obtain ⟨z', hz, h⟩ := obind_eq h
    split at h
    · rename_i hpos
      obtain ⟨H', hs, h⟩ := obind_eq h
      cases h
      obtain ⟨w', he, q1, q2⟩ := storeA_sound hI hs (aev_sound hE hy) (aev_sound hE hz) (info_of_cells hpos)
      exact wp_skipv hn (by simp [execOp, ho, he]) ⟨p, q1, q2⟩
    · cases h
  · rename_i y ho
    obtain ⟨y', hy, h⟩ := obind_eq h
    obtain ⟨y2, hy2, h⟩ := obind_eq h
    obtain ⟨r, hr, h⟩ := obind_eq h
    cases h
    obtain ⟨q1, q2⟩ := nilCheckA_sound (P := c.P) hI hy2 hr (aev_sound hE hy) a y rfl
    have he := q2 o.dst o.type o.pos o.after o.guard
    rw [← ho] at he
    exact wp_value hn he (.same hI q1)
  · rename_i op t y z t2 ho
    obtain ⟨y', hy, h⟩ := obind_eq h
    obtain ⟨z', hz, h⟩ := obind_eq h
    obtain ⟨r, hr, h⟩ := obind_eq h
    cases h
    obtain ⟨v, hv, he⟩ := abin_sound hr (aev_sound hE hy) (aev_sound hE hz) y z w
    refine wp_value hn (u := v) ?_ (.same hI hv)
    simp only [execOp, ho]
    rw [Sem.run_bind, he]
    rfl
  · rename_i op t y ho
    obtain ⟨y', hy, h⟩ := obind_eq h
    obtain ⟨r, hr, h⟩ := obind_eq h
    cases h
    obtain ⟨v, hv, he⟩ := aun_sound (P := c.P) hr (aev_sound hE hy) w
    exact wp_value hn (by simp [execOp, ho, he]) (.same hI hv)
  · rename_i s d y ho
    obtain ⟨y', hy, h⟩ := obind_eq h
    obtain ⟨r, hr, h⟩ := obind_eq h
    cases h
    obtain ⟨v, hv, he⟩ := aconv_sound hr (aev_sound hE hy) w
    exact wp_value hn (by simp [execOp, ho, he]) (.same hI hv)
  · rename_i f fs cs ho
    split at h
    · rename_i f' h1
      obtain ⟨xs, hxs, h⟩ := obind_eq h
      cases h
      have hv := aevs_sound hE hxs
      have hfs : fs = #[] := by simpa using h1
      subst hfs
      refine wp_value hn (u := .func (.func f') #[] (cs.map a.eval)) (by simp [execOp, ho, Instr.makeFunc]) (.same hI ?_)
      simp only [VR]
      exact ⟨_, by simp [← Array.toList_map], hv⟩
    · cases h
  · rename_i t r ho
    split at h
    · cases h
      obtain ⟨q1, q2⟩ := newMap_sound hI
      refine wp_value hn (u := .map (some w.heap.size)) (w' := w.alloc (.map #[] 0)) (by simp [execOp, ho, Instr.makeMap]) ⟨_, q1, q2, ?_⟩
      simp only [VR]
      exact ⟨rfl, 0, some (w.heap.size, 0), by simp [kap, addP], fun _ => ⟨_, rfl, rfl⟩⟩
    · cases h
  · rename_i t l k ho
    obtain ⟨y', hy, h⟩ := obind_eq h
    obtain ⟨z', hz, h⟩ := obind_eq h
    obtain ⟨y, w', p', he, q1, q2, q3⟩ := makeSliceA_sound hI h (aev_sound hE hy) (aev_sound hE hz)
    exact wp_value hn (by simp [execOp, ho, he]) ⟨p', q1, q2, q3⟩
  · rename_i t y l hh ho
    obtain ⟨y', hy, h⟩ := obind_eq h
    obtain ⟨lo, hlo, h⟩ := obind_eq h
    obtain ⟨hi, hhi, h⟩ := obind_eq h
    obtain ⟨y2, hy2, h⟩ := obind_eq h
    obtain ⟨r, hr, h⟩ := obind_eq h
    cases h
    obtain ⟨v, hv, he⟩ := sliceArrA_sound hI hy2 hr (aev_sound hE hy) (opt_sound hE hlo) (opt_sound hE hhi)
    exact wp_value hn (by simp [execOp, ho, he]) (.same hI hv)
  · rename_i t y f ho
    obtain ⟨y', hy, h⟩ := obind_eq h
    obtain ⟨y2, hy2, h⟩ := obind_eq h
    obtain ⟨r, hr, h⟩ := obind_eq h
    cases h
    obtain ⟨v, hv, he⟩ := fieldAddrA_sound hI hy2 hr (aev_sound hE hy)
    exact wp_value hn (by simp [execOp, ho, he]) (.same hI hv)
  · rename_i t y f ho
    obtain ⟨y', hy, h⟩ := obind_eq h
    obtain ⟨r, hr, h⟩ := obind_eq h
    cases h
    obtain ⟨v, hv, he⟩ := fieldA_sound hr (aev_sound hE hy) w
    exact wp_value hn (by simp [execOp, ho, he]) (.same hI hv)
  · rename_i t y i ho
    obtain ⟨y', hy, h⟩ := obind_eq h
    obtain ⟨y2, hy2, h⟩ := obind_eq h
    obtain ⟨i', hi, h⟩ := obind_eq h
    obtain ⟨r, hr, h⟩ := obind_eq h
    cases h
    obtain ⟨v, hv, he⟩ := indexAddrA_sound hI hy2 hr (aev_sound hE hy) (aev_sound hE hi)
    exact wp_value hn (by simp [execOp, ho, he]) (.same hI hv)
  · rename_i t y i ho
    obtain ⟨y', hy, h⟩ := obind_eq h
    obtain ⟨i', hi, h⟩ := obind_eq h
    obtain ⟨r, hr, h⟩ := obind_eq h
    cases h
    obtain ⟨v, hv, he⟩ := indexA_sound hr (aev_sound hE hy) (aev_sound hE hi) w
    exact wp_value hn (by simp [execOp, ho, he]) (.same hI hv)
  · rename_i t m k ok ho
    obtain ⟨y', hy, h⟩ := obind_eq h
    obtain ⟨i', hi, h⟩ := obind_eq h
    obtain ⟨r, hr, h⟩ := obind_eq h
    cases h
    obtain ⟨v, hv, he⟩ := lookupA_sound hI hr (aev_sound hE hy) (aev_sound hE hi)
    exact wp_value hn (by simp [execOp, ho, he]) (.same hI hv)
  · rename_i t m k y ho
    obtain ⟨m', hm, h⟩ := obind_eq h
    obtain ⟨k', hk, h⟩ := obind_eq h
    obtain ⟨y', hy, h⟩ := obind_eq h
    obtain ⟨H', hs, h⟩ := obind_eq h
    cases h
    obtain ⟨w', he, q1, q2⟩ := mapUpdateA_sound hI hs (aev_sound hE hm) (aev_sound hE hk) (aev_sound hE hy)
    exact wp_skipv hn (by simp [execOp, ho, he]) ⟨p, q1, q2⟩
  · rename_i t m k y ho
    obtain ⟨m', hm, h⟩ := obind_eq h
    obtain ⟨k', hk, h⟩ := obind_eq h
    obtain ⟨y', hy, h⟩ := obind_eq h
    obtain ⟨H', hs, h⟩ := obind_eq h
    cases h
    obtain ⟨w', he, q1, q2⟩ := mapUpdateA_sound hI hs (aev_sound hE hm) (aev_sound hE hk) (aev_sound hE hy)
    exact wp_skipv hn (by simp [execOp, ho, he]) ⟨p, q1, q2⟩
  · rename_i y i ho
    obtain ⟨y', hy, h⟩ := obind_eq h
    obtain ⟨r, hr, h⟩ := obind_eq h
    cases h
    obtain ⟨v, hv, he⟩ := extractA_sound (P := c.P) hr (aev_sound hE hy) w
    exact wp_value hn (by simp [execOp, ho, he]) (.same hI hv)
  · rename_i k ho
    unfold callOpA at h
    obtain ⟨args, hargs, h⟩ := obind_eq h
    have hv := aevs_sound hE hargs
    split at h
    · rename_i b hk
      obtain ⟨u, w', he, ha⟩ := builtin_sound hI h o.type (k.args.map fun | .const _ => true | _ => false) hv
      refine wp_value hn ?_ ha
      simp only [execOp, ho, resolve, hk, Sem.run_bind, Sem.run_pure, Result.andThen_ok, invoke]
      rw [← he, ← Array.toList_map, Array.toArray_toList]
      rfl
    · rename_i f hk
      obtain ⟨x', hx, h⟩ := obind_eq h
      have hf := aev_sound hE hx
      split at h
      · rename_i f' caps
        simp only [VR] at hf
        obtain ⟨us, hf1, hf2⟩ := hf
        have hent := callA_entry hC h
        have hcall := callA_sound hC hI h (hv.append hf2)
        have he : (execOp a.eval o).run c.P w = .ok (.enter f' ((k.args.toList.map a.eval) ++ us).toArray) w := by
          simp only [execOp, ho, resolve, hk, Sem.run_bind, Sem.run_pure, Result.andThen_ok, hf1, Deferred.ofValue, invoke, run_enter hent]
          congr 2
          simp [← Array.toList_map]
        unfold Oper.wp
        rw [he]
        refine hcall.mono fun e w' ⟨u, p', h1, h2, h3, h4⟩ => ?_
        subst h1
        exact hn u w' ⟨p', h2, h3, h4⟩
      · cases h
    · cases h
  · cases h
end
end Go.AI
