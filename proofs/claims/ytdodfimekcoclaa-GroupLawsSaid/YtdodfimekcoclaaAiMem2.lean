/- The abstract interpreter: writes, new variables, new slices. No conditions. -/
import Derived.Test.YtdodfimekcoclaaAiMem
set_option linter.unusedVariables false
namespace Go.AI
theorem splice_app (cs : List AV) (off : Nat) (ys : List AV) (h : off + ys.length ≤ cs.length) : splice cs off ys = cs.take off ++ ys ++ cs.drop (off + ys.length) := by
  unfold splice
  split
  · rename_i y
    simp only [List.length_cons, List.length_nil] at h
    rw [List.set_eq_take_append_cons_drop]
    rw [if_pos (by omega)]
    simp
  · rfl
theorem splice_length (cs : List AV) (off : Nat) (ys : List AV) (h : off + ys.length ≤ cs.length) : (splice cs off ys).length = cs.length := by
  rw [splice_app cs off ys h]
  simp; omega
theorem getElem_three {α : Type} (a v : List α) (o k : Nat) (hk : o + v.length ≤ a.length) (hk' : k < a.length) :
    (a.take o ++ v ++ a.drop (o + v.length))[k]? = if k < o then a[k]? else if k < o + v.length then v[k - o]? else a[k]? := by
  have hto : (a.take o).length = o := by simp; omega
  split
  · rename_i h
    rw [List.append_assoc, List.getElem?_append_left (by omega), List.getElem?_take_of_lt h]
  · rename_i h
    split
    · rename_i h2
      rw [List.append_assoc, List.getElem?_append_right (by omega), hto, List.getElem?_append_left (by omega)]
    · rename_i h2
      rw [List.getElem?_append_right (by simp; omega), List.getElem?_drop]
      congr 1
      simp; omega

section
variable {P : Program} {K : Kx} {H : Heap} {p : Pl} {w : World}
theorem kap_set_self {b : Nat} {x : AB} (h : H[b]? = some x) : H.set b x = H := by
  have hlt := (List.getElem?_eq_some_iff.1 h).1
  have h2 := (List.getElem?_eq_some_iff.1 h).2
  rw [← h2]; exact List.set_getElem_self hlt
theorem write_sound (hI : Inv K H p w) {b ver o rb off : Nat} {cs ys : List AV} {vs : List Value} (hb : H[b]? = some (.cells true ver cs)) (hp : p b = some (ver, some (rb, o)))
    (hlen : off + ys.length ≤ cs.length) (hv : VRs (kap K H p w) ys vs) (h1 : ∀ y ∈ vs, y.oneCell' = true) :
    ∃ w', (storeCells ⟨rb, o + off, none⟩ vs).run P w = .ok () w' ∧ Inv K (H.set b (.cells true ver (splice cs off ys))) p w' ∧ PK (kap K H p w) (kap K (H.set b (.cells true ver (splice cs off ys))) p w') := by
  obtain ⟨x', g1, g2⟩ := hI.blk _ _ hb
  have e := g1.symm.trans hp
  cases e
  obtain ⟨c, e, fr, us, k1, k2, k3, k4, k5⟩ := g2
  have k5' := k5 rfl
  subst k5'
  have hul := k2.length
  have hvl := hv.length
  by_cases hys : ys = []
  · subst hys
    rw [List.length_nil] at hvl
    have hvs : vs = [] := List.eq_nil_of_length_eq_zero hvl
    subst hvs
    have hs : splice cs off [] = cs := by rw [splice_app _ _ _ hlen]; simp
    rw [hs, kap_set_self hb]
    exact ⟨w, rfl, hI, PK.refl _⟩
  · have hlt : rb < w.heap.size := (Array.getElem?_eq_some_iff.1 k1).1
    have hysp : 0 < ys.length := List.length_pos_iff.2 hys
    have hoc : o + cs.length ≤ c.size := by
      have hj : cs.length - 1 < us.length := by omega
      have := k3 (cs.length - 1) us[cs.length - 1] (List.getElem?_eq_getElem hj)
      have := (Array.getElem?_eq_some_iff.1 this).1
      omega
    have hrun := run_storeCells_at (P := P) rb (o + off) e vs 0 c w k1 (by omega) h1
    simp only [Nat.add_zero] at hrun
    have hbl : b < H.length := (List.getElem?_eq_some_iff.1 hb).1
    refine ⟨_, hrun, ?_⟩
    have hL : LiveAt H p b rb := ⟨_, _, _, hb, rfl, hp⟩
    have hsz' : (c.toList.take (o + off) ++ vs ++ c.toList.drop (o + off + vs.length)).toArray.size = c.size := by
      simp; omega
    have main := Inv.chg (b := b) (H' := H.set b (.cells true ver (splice cs off ys))) (p' := p) (w' := w.setRow rb (c.toList.take (o + off) ++ vs ++ c.toList.drop (o + off + vs.length)).toArray) hI
      (fun i hi => by rw [List.getElem?_set_ne (Ne.symm hi)]) (by simp) (fun i hi => by simp at hi; exact .inl hi) (fun i hi => rfl)
      (fun v x h => ⟨v, x, h, .inl ⟨rfl, rfl⟩⟩)
      (fun rb' hl => by
        obtain ⟨x, v, o2, q1, q2, q3⟩ := hl
        exact .inl ⟨_, v, o2, hb, rfl, q3⟩)
      (fun v rb' o' h => .inl ⟨v, o', hbl, h⟩)
      (fun h => by simp at h; omega)
      (fun i hi hn => setRow_other _ _ _ _ (fun e => hn (e ▸ hL)))
      (by simp)
      (fun i k hl hr => by
        obtain ⟨x, v, o2, q1, q2, q3⟩ := hl
        have : i = rb := by
          have := q3.symm.trans hp
          cases this; rfl
        subst this
        obtain ⟨c2, e2, fr2, r1, r2⟩ := hr
        have := r1.symm.trans k1
        cases this
        exact ⟨_, _, _, setRow_heap _ _ _ _ _ _ k1, by rw [hsz']; exact r2⟩)
      rfl rfl rfl (fun a => frozen_setRow (by assumption) _ a)
    refine ⟨main.2 fun x hx => ?_, main.1⟩
    rw [List.getElem?_set_self hbl] at hx
    cases hx
    have hk := main.1
    refine ⟨some (rb, o), hp, _, e, (0, 0), us.take off ++ vs ++ us.drop (off + vs.length), setRow_heap _ _ _ _ _ _ k1, ?_, fun j u hj => ?_, fun y hy => ?_, fun _ => rfl⟩
    · have hz : VRs (kap K H p w) (splice cs off ys) (us.take off ++ vs ++ us.drop (off + vs.length)) := by
        rw [splice_app _ _ _ hlen, ← hvl]
        exact (k2.take off).append hv |>.append (k2.drop _)
      exact hz.mono' hk
    · have hjl : j < us.length := by
        have := (List.getElem?_eq_some_iff.1 hj).1
        simp at this; omega
      rw [getElem_three us vs off j (by omega) hjl] at hj
      have hcj : o + j < c.toList.length := by simp; omega
      rw [List.getElem?_toArray, getElem_three c.toList vs (o + off) (o + j) (by simp; omega) hcj]
      by_cases c1 : j < off
      · rw [if_pos c1] at hj
        rw [if_pos (by omega), Array.getElem?_toList]
        exact k3 j u hj
      · rw [if_neg c1] at hj
        rw [if_neg (by omega)]
        by_cases c2 : j < off + vs.length
        · rw [if_pos c2] at hj
          rw [if_pos (by omega), show o + j - (o + off) = j - off by omega]
          exact hj
        · rw [if_neg c2] at hj
          rw [if_neg (by omega), Array.getElem?_toList]
          exact k3 j u hj
    · rcases List.mem_append.1 hy with hy | hy
      · rcases List.mem_append.1 hy with hy | hy
        · exact k4 y (List.mem_of_mem_take hy)
        · exact h1 y hy
      · exact k4 y (List.mem_of_mem_drop hy)

theorem storeA_sound (hI : Inv K H p w) {t : TypeId} {x y : AV} {H' : Heap} (h : storeA P t x y H = some H') {u v : Value} (hu : VR (kap K H p w) x u) (hv : VR (kap K H p w) y v) (hsz : ∃ i, P.info? t = some i) :
    ∃ w', (Instr.storeAt t u v).run P w = .ok () w' ∧ Inv K H' p w' ∧ PK (kap K H p w) (kap K H' p w') := by
  unfold storeA at h
  split at h
  · rename_i b ver off
    split at h
    · rename_i hl
      unfold storeCellsA at h
      split at h
      · rename_i ver' cs hb
        split at h
        · rename_i hc
          obtain ⟨rfl, h2, h3⟩ := hc
          cases h
          simp only [VR] at hu
          obtain ⟨_, v', x', g1, g2, g3⟩ := hu
          obtain ⟨x2, k1, k2⟩ := hI.blk _ _ hb
          have e := k1.symm.trans g1
          cases e
          obtain ⟨rb, o, rfl, rfl⟩ := g3 rfl
          obtain ⟨q1, q2⟩ := hv.flat h3
          obtain ⟨w', r1, r2, r3⟩ := write_sound (P := P) hI hb g1 h2 q1 q2
          refine ⟨w', ?_, r2, r3⟩
          obtain ⟨i, hi⟩ := hsz
          have hs : (sizeOf t).run P w = .ok (P.cellsOf t) w := by simp [sizeOf, typeInfo, hi, Program.cellsOf]
          have hcs : v.cells.size = P.cellsOf t := by rw [flat_length hv h3]; exact hl
          simp only [Instr.storeAt, Instr.sureAddr, storeVar, Sem.run_bind, Sem.run_pure, Result.andThen_ok, hs, hcs, ne_eq, not_true_eq_false, if_false]
          exact r1
        · cases h
      · cases h
    · cases h
  · cases h

/-! ### New blocks -/
def addP (p : Pl) (i : Nat) (x : Option (Nat × Nat)) : Pl := fun j => if j = i then some (0, x) else p j
theorem get_push {H : Heap} {x : AB} {i : Nat} : (H ++ [x])[i]? = if i = H.length then some x else H[i]? := by
  split
  · rename_i h; subst h; simp
  · rename_i h
    rcases Nat.lt_or_ge i H.length with h1 | h1
    · rw [List.getElem?_append_left h1]
    · rw [List.getElem?_eq_none (by simp; omega), List.getElem?_eq_none h1]
theorem heap_last (w : World) (o : Obj) : (w.alloc o).heap[w.heap.size]? = some o := by
  show (w.heap.push o)[w.heap.size]? = _
  simp
/-- A new block, laid at the world's end. -/
theorem alloc_sound (hI : Inv K H p w) {cs : List AV} {us : List Value} {c : Array Value} {e : TypeId} (hv : VRs (kap K H p w) cs us) (h1 : ∀ y ∈ us, y.oneCell' = true) (hc : ∀ (j : Nat) (u : Value), us[j]? = some u → c[j]? = some u) :
    Inv K (H ++ [.cells true 0 cs]) (addP p H.length (some (w.heap.size, 0))) (w.alloc (.cells c e)) ∧
    PK (kap K H p w) (kap K (H ++ [.cells true 0 cs]) (addP p H.length (some (w.heap.size, 0))) (w.alloc (.cells c e))) := by
  have hp0 : p H.length = none := hI.dom _ (Nat.le_refl _)
  have main := Inv.chg (b := H.length) (H' := H ++ [.cells true 0 cs]) (p' := addP p H.length (some (w.heap.size, 0))) (w' := w.alloc (.cells c e)) hI
    (fun i hi => by rw [get_push, if_neg hi]) (by simp) (fun i hi => by simp at hi; omega) (fun i hi => by simp [addP, hi])
    (fun v x h => by rw [hp0] at h; cases h)
    (fun rb hl => by
      obtain ⟨x, v, o, q1, q2, q3⟩ := hl
      simp [addP] at q3
      exact .inr q3.2.1.symm)
    (fun v rb o h => by simp [addP] at h; exact .inr h.2.1.symm)
    (fun h => absurd h (by simp))
    (fun i hi hn => RowKit.Below.heap_alloc w _ i hi)
    (by simp)
    (fun i k hl hr => by
      obtain ⟨x, v, o, q1, q2, q3⟩ := hl
      rw [hp0] at q3; cases q3)
    rfl rfl rfl (fun a => RowKit.frozen?_alloc_cells w _ _ a)
  refine ⟨main.2 fun x hx => ?_, main.1⟩
  rw [get_push, if_pos rfl] at hx
  cases hx
  refine ⟨some (w.heap.size, 0), by simp [kap, addP], c, e, (0, 0), us, heap_last w _, hv.mono' main.1, fun j u hj => by rw [Nat.zero_add]; exact hc j u hj, h1, fun _ => rfl⟩
/-- A new empty block, laid nowhere. -/
theorem empty_sound (hI : Inv K H p w) :
    Inv K (H ++ [.cells true 0 []]) (addP p H.length none) w ∧ PK (kap K H p w) (kap K (H ++ [.cells true 0 []]) (addP p H.length none) w) := by
  have hp0 : p H.length = none := hI.dom _ (Nat.le_refl _)
  have main := Inv.chg (b := H.length) (H' := H ++ [.cells true 0 []]) (p' := addP p H.length none) (w' := w) hI
    (fun i hi => by rw [get_push, if_neg hi]) (by simp) (fun i hi => by simp at hi; omega) (fun i hi => by simp [addP, hi])
    (fun v x h => by rw [hp0] at h; cases h)
    (fun rb hl => by
      obtain ⟨x, v, o, q1, q2, q3⟩ := hl
      simp [addP] at q3)
    (fun v rb o h => by simp [addP] at h)
    (fun h => absurd h (by simp))
    (fun i hi hn => rfl)
    (Nat.le_refl _)
    (fun i k hl hr => hr)
    rfl rfl rfl (fun _ => rfl)
  refine ⟨main.2 fun x hx => ?_, main.1⟩
  rw [get_push, if_pos rfl] at hx
  cases hx
  exact ⟨none, by simp [kap, addP], rfl⟩
theorem VR_empty {u : Value} {κ : Kap} (hu : VR κ (.sl true 0 []) u) {p : Pl} {H : Heap} : VR (kap K (H ++ [.cells true 0 []]) (addP p H.length none) w) (.ms H.length 0 0 0 0) u := by
  simp only [VR] at hu ⊢
  obtain ⟨ad, cap, rfl, h2, h3, h4, h5, us, h6, h7⟩ := hu
  rw [h3 trivial]
  refine ⟨rfl, 0, none, by simp [kap, addP], Nat.le_refl _, fun _ => ⟨rfl, ad, rfl⟩⟩
theorem virt_sound : ∀ (cs : List AV) (us : List Value) {H : Heap} {p : Pl}, Inv K H p w → VRs (kap K H p w) cs us →
    ∃ p', Inv K (virt cs H).2 p' w ∧ PK (kap K H p w) (kap K (virt cs H).2 p' w) ∧ VRs (kap K (virt cs H).2 p' w) (virt cs H).1 us
  | [], us, H, p, hI, hv => ⟨p, hI, PK.refl _, hv⟩
  | x :: r, us, H, p, hI, hv => by
    obtain ⟨u, s, rfl, hu, hr⟩ := hv.uncons
    unfold virt
    split
    · rename_i e; cases e
    · rename_i r' H' e1
      cases e1
      obtain ⟨h1, h2⟩ := empty_sound hI
      obtain ⟨p', k1, k2, k3⟩ := virt_sound r s h1 (hr.mono' h2)
      exact ⟨p', k1, h2.trans k2, .cons ((VR_empty hu).mono' k2) k3⟩
    · rename_i x' r' H' hne e1
      cases e1
      obtain ⟨p', k1, k2, k3⟩ := virt_sound r s hI hr
      exact ⟨p', k1, k2, .cons (hu.mono' k2) k3⟩
theorem newVarA_sound (hI : Inv K H p w) {cs : List AV} {us : List Value} (hv : VRs (kap K H p w) cs us) (h1 : ∀ y ∈ us, y.oneCell' = true) (e : TypeId) :
    ∃ p', Inv K (newVarA cs H).2 p' (w.alloc (.cells us.toArray e)) ∧ PK (kap K H p w) (kap K (newVarA cs H).2 p' (w.alloc (.cells us.toArray e))) ∧
      VR (kap K (newVarA cs H).2 p' (w.alloc (.cells us.toArray e))) (newVarA cs H).1 (.pointer (some ⟨w.heap.size, 0, none⟩)) := by
  obtain ⟨p', k1, k2, k3⟩ := virt_sound cs us hI hv
  obtain ⟨q1, q2⟩ := alloc_sound (c := us.toArray) (e := e) k1 k3 h1 (fun j u hj => by simpa using hj)
  refine ⟨_, q1, k2.trans q2, ?_⟩
  simp only [newVarA, VR]
  exact ⟨rfl, 0, some (w.heap.size, 0), by simp [kap, addP], Nat.le_refl _, fun _ => ⟨_, _, rfl, rfl⟩⟩
end
end Go.AI
