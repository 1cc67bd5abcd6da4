/- The abstract interpreter: append. No conditions. -/
import Derived.Test.YtdodfimekcoclaaAiOps5
set_option linter.unusedVariables false
set_option linter.unusedSimpArgs false
namespace Go.AI
section
variable {P : Program} {K : Kx} {H : Heap} {p : Pl} {w : World}
theorem firstCells_slice {us : List Value} {ad : Option Addr} {n k c size : Nat} (hl : us.length = n * size) (h : us ≠ [] → ∃ b o, ad = some ⟨b, o, none⟩ ∧ ∀ (j : Nat) (y : Value), us[j]? = some y → w.cell? ⟨b, o + j, none⟩ = some y) :
    ∀ w' : World, w'.heap = w.heap → (Builtin.firstCells size n (.slice ad k c)).run P w' = .ok us.toArray w' := by
  intro w' hw
  cases ad with
  | none =>
    have : us = [] := by
      by_cases hu : us = []
      · exact hu
      · obtain ⟨b, o, h1, _⟩ := h hu; cases h1
    subst this
    rfl
  | some a =>
    simp only [Builtin.firstCells]
    rw [← hl]
    refine run_loadCells_list w' a us fun j v hj => ?_
    have hne : us ≠ [] := by intro e; subst e; simp at hj
    obtain ⟨b, o, h1, h2⟩ := h hne
    cases h1
    rw [abs_add]
    have := h2 j v hj
    unfold World.cell? at this ⊢
    rw [hw]; exact this
theorem bytes_VRs {κ : Kap} : ∀ (l : List UInt8), VRs κ (l.map fun b => AV.v (.int .u8 b.toNat)) (l.map fun b => Value.int .u8 b.toNat)
  | [] => .nil
  | b :: r => .cons (VR_v rfl) (bytes_VRs r)
theorem sourceA_sound (hI : Inv K H p w) {x : AV} {n : Nat} {cs : List AV} (h : sourceA H x = some (n, cs)) {u : Value} (hu : VR (kap K H p w) x u) :
    ∃ us, VRs (kap K H p w) cs us ∧ (∀ y ∈ us, y.oneCell' = true) ∧ (∀ w', (Builtin.lenOf u).run P w' = .ok n w') ∧
      ∀ k size, k ≤ n → us.length = n * size → ∀ w' : World, w'.heap = w.heap → (Builtin.firstCells size k u).run P w' = .ok (us.take (k * size)).toArray w' := by
  unfold sourceA at h
  split at h
  · rename_i s
    cases h; cases hu.v_eq
    refine ⟨_, bytes_VRs s.data.toList, ?_, fun w' => rfl, fun k size hk hl w' hw => ?_⟩
    · intro y hy
      obtain ⟨b, _, rfl⟩ := List.mem_map.1 hy
      rfl
    · simp only [List.length_map, Array.length_toList] at hl
      have hs : s.data.size = s.size := rfl
      have hz : size = 1 ∨ s.size = 0 := by
        rw [hs] at hl
        rcases Nat.eq_zero_or_pos s.size with h0 | h0
        · exact .inr h0
        · left
          have : s.size * 1 = s.size * size := by omega
          exact (Nat.eq_of_mul_eq_mul_left h0 this).symm
      simp only [Builtin.firstCells, Sem.run_pure]
      congr 1
      apply Array.ext'
      have : (s.extract 0 k).data.toList = s.data.toList.take k := by
        rw [ByteArray.data_extract, Array.toList_extract]
        simp [List.extract_eq_take_drop]
      simp only [Array.toList_map, this, List.map_take]
      rcases hz with rfl | h0
      · rw [Nat.mul_one]
      · have h2 : s.data.toList = [] := List.eq_nil_of_length_eq_zero (by simp [hs, h0])
        simp [h2]
  · rename_i hx
    obtain ⟨ad, cap, us, rfl, h1, h2, h3, h4⟩ := slc_sound hI h hu
    refine ⟨us, h1, h2, fun w' => rfl, fun k size hk hl w' hw => ?_⟩
    have hle : k * size ≤ n * size := Nat.mul_le_mul_right _ hk
    refine firstCells_slice (w := w) (by rw [List.length_take, hl]; exact Nat.min_eq_left hle) (fun hne => ?_) w' hw
    obtain ⟨b, o, h5, h6⟩ := h4 (fun e => by subst e; simp at hne)
    refine ⟨b, o, h5, fun j y hj => ?_⟩
    have hj1 := (List.getElem?_eq_some_iff.1 hj).1
    rw [List.getElem?_take_of_lt (by simp at hj1; omega)] at hj
    exact h6 j y hj
theorem run_noInt {u : TypeId} (h : noInt P u = true) (w : World) : ∃ d, (underlying u).run P w = .ok d w ∧ ∀ k, d = .int k → False := by
  unfold noInt at h
  split at h
  · cases h
  · rename_i d hd hq
    exact ⟨d, run_underlying hq w, hd⟩
  · cases h
theorem run_append_in {t t2 ty e : TypeId} (hq : P.underlying t = some (.slice e)) (hs : 0 < P.cellsOf e) (hni : noInt P t2 = true) {ad : Option Addr} {n1 cap n2 : Nat} {u : Value} {news : List Value}
    (hlen : ∀ w', (Builtin.lenOf u).run P w' = .ok n2 w') (hf : (Builtin.firstCells (P.cellsOf e) n2 u).run P w = .ok news.toArray w) (hle : n1 + n2 ≤ cap) :
    (Builtin.append_ #[t, t2] ty #[.slice ad n1 cap, u]).run P w =
      match ad with
      | none => .ok (.slice none (n1 + n2) cap) w
      | some a => ((storeCells (a.add (n1 * P.cellsOf e)) news).run P w).andThen fun _ w' => .ok (.slice (some a) (n1 + n2) cap) w' := by
  obtain ⟨d, hd1, hd2⟩ := run_noInt (P := P) hni w
  cases ad with
  | none => simp [Builtin.append_, run_underlying hq, run_sizeOf' hs, hd1, hd2, hlen, hle, hf]
  | some a => simp [Builtin.append_, run_underlying hq, run_sizeOf' hs, hd1, hd2, hlen, hle, hf]
theorem run_append_out {t t2 ty e : TypeId} (hq : P.underlying t = some (.slice e)) (hs : 0 < P.cellsOf e) (hni : noInt P t2 = true) {i : TypeInfo} (hi : P.info? e = some i) {z : Value} (hz : i.zero = some z) {ad : Option Addr} {n1 cap n2 : Nat} {u : Value} {olds news : List Value}
    (hlen : ∀ w', (Builtin.lenOf u).run P w' = .ok n2 w') (hf : ∀ w' : World, w'.heap = w.heap → (Builtin.firstCells (P.cellsOf e) n2 u).run P w' = .ok news.toArray w')
    (ho : ∀ w' : World, w'.heap = w.heap → (Builtin.firstCells (P.cellsOf e) n1 (.slice ad n1 cap)).run P w' = .ok olds.toArray w') (hgt : cap < n1 + n2) (hb : (n1 + n2) * P.bytesOf e ≤ 140737488355328) (h63 : n1 + n2 ≤ 4611686018427387904) :
    ∃ N zs, (Builtin.append_ #[t, t2] ty #[.slice ad n1 cap, u]).run P w = .ok (.slice (some ⟨w.heap.size, 0, none⟩) (n1 + n2) N) (w.drew.alloc (.cells (olds.toArray ++ news.toArray ++ zs) e)) ∧ n1 + n2 ≤ N ∧
      zs = Builtin.zeroCells z.cells (N - (n1 + n2)) := by
  obtain ⟨d, hd1, hd2⟩ := run_noInt (P := P) hni w
  have hbi : P.bytesOf e = i.bytes := by simp [Program.bytesOf, hi]
  rw [hbi] at hb
  have hfit := growslice_fits hgt hb
  have hn : ¬ (n1 + n2 ≤ cap) := by omega
  have h63' : ¬ (9223372036854775807 < ((n1 : Int) + (n2 : Int))) := by omega
  have h48' : ¬ (281474976710656 < Builtin.nextslicecap (n1 + n2) cap * i.bytes) := by omega
  refine ⟨grownCap w (n1 + n2) cap e, _, ?_, ?_, rfl⟩
  · have hf' := hf w.drew rfl
    have ho' := ho w.drew rfl
    simp [Builtin.append_, run_underlying hq, run_sizeOf' hs, typeInfo, zeroValue, hi, hz, hd1, hd2, hlen, hn, h63', h48', Question.forced, hf', ho', newRow, grownCap]
    congr 2
    apply Array.ext'
    simp [List.append_assoc]
  · unfold grownCap
    simp only [Question.cut]
    omega

def setP (p : Pl) (i v : Nat) (x : Option (Nat × Nat)) : Pl := fun j => if j = i then some (v, x) else p j
theorem row_le (hI : Inv K H p w) {b ver rb o : Nat} {live : Bool} {cs : List AV} (hb : H[b]? = some (.cells live ver cs)) (hp : p b = some (ver, some (rb, o))) :
    ∃ c e fr us, w.heap[rb]? = some (.cells c e fr) ∧ VRs (kap K H p w) cs us ∧ (∀ (j : Nat) (u : Value), us[j]? = some u → c[o + j]? = some u) ∧ (∀ y ∈ us, y.oneCell' = true) ∧ (live = true → fr = (0, 0)) := by
  obtain ⟨x', k1, k2⟩ := hI.blk _ _ hb
  have e1 := k1.symm.trans hp
  cases e1
  exact k2
/-- A live block's contents move to a new row. -/
theorem move_sound (hI : Inv K H p w) {b ver : Nat} {cs ds : List AV} {us : List Value} {c : Array Value} {e : TypeId} (hb : H[b]? = some (.cells true ver cs)) (hv : VRs (kap K H p w) ds us) (h1 : ∀ y ∈ us, y.oneCell' = true)
    (hc : ∀ (j : Nat) (u : Value), us[j]? = some u → c[j]? = some u) :
    Inv K (H.set b (.cells true (ver + 1) ds)) (setP p b (ver + 1) (some (w.heap.size, 0))) (w.drew.alloc (.cells c e)) ∧
    PK (kap K H p w) (kap K (H.set b (.cells true (ver + 1) ds)) (setP p b (ver + 1) (some (w.heap.size, 0))) (w.drew.alloc (.cells c e))) := by
  have hbl : b < H.length := (List.getElem?_eq_some_iff.1 hb).1
  have hpv : ∃ x, p b = some (ver, x) := by
    obtain ⟨x', k1, k2⟩ := hI.blk _ _ hb
    exact ⟨x', k1⟩
  obtain ⟨x0, hp0⟩ := hpv
  have hd : w.drew.heap = w.heap := rfl
  have main := Inv.chg (b := b) (H' := H.set b (.cells true (ver + 1) ds)) (p' := setP p b (ver + 1) (some (w.heap.size, 0))) (w' := w.drew.alloc (.cells c e)) hI
    (fun i hi => by rw [List.getElem?_set_ne (Ne.symm hi)]) (by simp) (fun i hi => by simp at hi; exact .inl hi) (fun i hi => by simp [setP, hi])
    (fun v x h => by
      rw [hp0] at h; cases h
      exact ⟨ver + 1, some (w.heap.size, 0), by simp [setP], .inr (by omega)⟩)
    (fun rb hl => by
      obtain ⟨x, v, o, q1, q2, q3⟩ := hl
      simp [setP] at q3
      exact .inr q3.2.1.symm)
    (fun v rb o h => by simp [setP] at h; exact .inr h.2.1.symm)
    (fun h => by simp at h; omega)
    (fun i hi hn => RowKit.Below.heap_alloc w.drew _ i hi)
    (by simp)
    (fun i k hl hr => by
      obtain ⟨c2, e2, fr2, r1, r2⟩ := hr
      have hlt := (Array.getElem?_eq_some_iff.1 r1).1
      exact ⟨c2, e2, fr2, by rw [RowKit.Below.heap_alloc w.drew _ i hlt]; exact r1, r2⟩)
    rfl rfl rfl (fun a => RowKit.frozen?_alloc_cells w.drew _ _ a)
  refine ⟨main.2 fun x hx => ?_, main.1⟩
  rw [List.getElem?_set_self hbl] at hx
  cases hx
  exact ⟨some (w.heap.size, 0), by simp [kap, setP], c, e, (0, 0), us, heap_last w.drew _, hv.mono' main.1, fun j u hj => by rw [Nat.zero_add]; exact hc j u hj, h1, fun _ => rfl⟩
/-- An empty block stays empty: its version alone goes on. -/
theorem bump_sound (hI : Inv K H p w) {b ver : Nat} {cs : List AV} (hb : H[b]? = some (.cells true ver cs)) :
    Inv K (H.set b (.cells true (ver + 1) [])) (setP p b (ver + 1) none) w ∧ PK (kap K H p w) (kap K (H.set b (.cells true (ver + 1) [])) (setP p b (ver + 1) none) w) := by
  have hbl : b < H.length := (List.getElem?_eq_some_iff.1 hb).1
  have hpv : ∃ x, p b = some (ver, x) := by
    obtain ⟨x', k1, k2⟩ := hI.blk _ _ hb
    exact ⟨x', k1⟩
  obtain ⟨x0, hp0⟩ := hpv
  have main := Inv.chg (b := b) (H' := H.set b (.cells true (ver + 1) [])) (p' := setP p b (ver + 1) none) (w' := w) hI
    (fun i hi => by rw [List.getElem?_set_ne (Ne.symm hi)]) (by simp) (fun i hi => by simp at hi; exact .inl hi) (fun i hi => by simp [setP, hi])
    (fun v x h => by
      rw [hp0] at h; cases h
      exact ⟨ver + 1, none, by simp [setP], .inr (by omega)⟩)
    (fun rb hl => by
      obtain ⟨x, v, o, q1, q2, q3⟩ := hl
      simp [setP] at q3)
    (fun v rb o h => by simp [setP] at h)
    (fun h => by simp at h; omega)
    (fun i hi hn => rfl)
    (Nat.le_refl _)
    (fun i k hl hr => hr)
    rfl rfl rfl (fun _ => rfl)
  refine ⟨main.2 fun x hx => ?_, main.1⟩
  rw [List.getElem?_set_self hbl] at hx
  cases hx
  exact ⟨none, by simp [kap, setP], rfl⟩
/-- A live block grows in its place. -/
theorem grow_sound (hI : Inv K H p w) {b ver rb o ao : Nat} {cs ds : List AV} {us news : List Value} {c : Array Value} {e : TypeId} (hb : H[b]? = some (.cells true ver cs)) (hp : p b = some (ver, some (rb, o)))
    (hr : w.heap[rb]? = some (.cells c e (0, 0))) (hv : VRs (kap K H p w) ds (us ++ news)) (h1 : ∀ y ∈ us ++ news, y.oneCell' = true)
    (hc : ∀ (j : Nat) (u : Value), us[j]? = some u → c[ao + j]? = some u) (hle : ao + us.length + news.length ≤ c.size) :
    ∃ w', (storeCells ⟨rb, ao + us.length, none⟩ news).run P w = .ok () w' ∧ Inv K (H.set b (.cells true (ver + 1) ds)) (setP p b (ver + 1) (some (rb, ao))) w' ∧
      PK (kap K H p w) (kap K (H.set b (.cells true (ver + 1) ds)) (setP p b (ver + 1) (some (rb, ao))) w') := by
  have hbl : b < H.length := (List.getElem?_eq_some_iff.1 hb).1
  have hrun := run_storeCells_at (P := P) rb (ao + us.length) e news 0 c w hr (by omega) (fun v hv => h1 v (List.mem_append_right _ hv))
  simp only [Nat.add_zero] at hrun
  refine ⟨_, hrun, ?_⟩
  have hL : LiveAt H p b rb := ⟨_, _, _, hb, rfl, hp⟩
  have hsz' : (c.toList.take (ao + us.length) ++ news ++ c.toList.drop (ao + us.length + news.length)).toArray.size = c.size := by
    simp; omega
  have main := Inv.chg (b := b) (H' := H.set b (.cells true (ver + 1) ds)) (p' := setP p b (ver + 1) (some (rb, ao))) (w' := w.setRow rb (c.toList.take (ao + us.length) ++ news ++ c.toList.drop (ao + us.length + news.length)).toArray) hI
    (fun i hi => by rw [List.getElem?_set_ne (Ne.symm hi)]) (by simp) (fun i hi => by simp at hi; exact .inl hi) (fun i hi => by simp [setP, hi])
    (fun v x h => by
      rw [hp] at h; cases h
      exact ⟨ver + 1, some (rb, ao), by simp [setP], .inr (by omega)⟩)
    (fun rb' hl => by
      obtain ⟨x, v, o2, q1, q2, q3⟩ := hl
      simp [setP] at q3
      rw [← q3.2.1]
      exact .inl hL)
    (fun v rb' o' h => by
      simp [setP] at h
      rw [← h.2.1]
      exact .inl ⟨_, _, hbl, hp⟩)
    (fun h => by simp at h; omega)
    (fun i hi hn => setRow_other _ _ _ _ (fun e => hn (e ▸ hL)))
    (by simp)
    (fun i k hl hr' => by
      obtain ⟨x, v, o2, q1, q2, q3⟩ := hl
      have : i = rb := by
        have := q3.symm.trans hp
        cases this; rfl
      subst this
      obtain ⟨c2, e2, fr2, r1, r2⟩ := hr'
      have := r1.symm.trans hr
      cases this
      exact ⟨_, _, _, setRow_heap _ _ _ _ _ _ hr, by rw [hsz']; exact r2⟩)
    rfl rfl rfl (fun a => frozen_setRow (by assumption) _ a)
  refine ⟨main.2 fun x hx => ?_, main.1⟩
  rw [List.getElem?_set_self hbl] at hx
  cases hx
  refine ⟨some (rb, ao), by simp [kap, setP], _, e, (0, 0), us ++ news, setRow_heap _ _ _ _ _ _ hr, hv.mono' main.1, fun j u hj => ?_, h1, fun _ => rfl⟩
  have hjl := (List.getElem?_eq_some_iff.1 hj).1
  simp at hjl
  rw [List.getElem?_toArray, getElem_three c.toList news (ao + us.length) (ao + j) (by simp; omega) (by simp; omega)]
  by_cases c1 : j < us.length
  · rw [if_pos (by omega), Array.getElem?_toList]
    rw [List.getElem?_append_left c1] at hj
    exact hc j u hj
  · rw [if_neg (by omega), if_pos (by omega), show ao + j - (ao + us.length) = j - us.length by omega]
    rw [List.getElem?_append_right (by omega)] at hj
    exact hj
theorem size_zeros {i : TypeInfo} {z : Value} {et : TypeId} (hi : P.info? et = some i) (hz : z.cells.size = P.cellsOf et) (N k : Nat) (us1 us2 : List Value) (n1 n2 : Nat) (h1 : us1.length = n1 * P.cellsOf et) (h2 : us2.length = n2 * P.cellsOf et) (hN : n1 + n2 ≤ N) :
    0 + N * P.cellsOf et ≤ (us1.toArray ++ us2.toArray ++ Builtin.zeroCells z.cells (N - (n1 + n2))).size := by
  simp only [Array.size_append, List.size_toArray, size_zeroCells, hz, h1, h2, ← Nat.add_mul]
  have : n1 + n2 + (N - (n1 + n2)) = N := by omega
  rw [this]
  omega
theorem appendA_sound (hI : Inv K H p w) {t t2 ty : TypeId} {s x r : AV} {H' : Heap} (hni : noInt P t2 = true) (h : appendA P t s x H = some (r, H')) {u v : Value} (hu : VR (kap K H p w) s u) (hv : VR (kap K H p w) x v) :
    ∃ y w' p', (Builtin.append_ #[t, t2] ty #[u, v]).run P w = .ok y w' ∧ Inv K H' p' w' ∧ PK (kap K H p w) (kap K H' p' w') ∧ VR (kap K H' p' w') r y := by
  unfold appendA at h
  split at h
  · rename_i et hq
    dsimp only at h
    obtain ⟨⟨n1, cs1⟩, hs1, h⟩ := obind_eq h
    obtain ⟨⟨n2, cs2⟩, hs2, h⟩ := obind_eq h
    obtain ⟨z, hz, h⟩ := obind_eq h
    obtain ⟨zx, i, hi, hzi, hzx, hcst, _⟩ := run_zeroT hz
    by_cases hc : ((n1, cs1).1 + (n2, cs2).1) * P.bytesOf et ≤ 70368744177664 ∧ (n1, cs1).1 + (n2, cs2).1 ≤ 70368744177664 ∧ 0 < P.cellsOf et ∧ 0 < P.bytesOf et ∧ (n1, cs1).2.length = (n1, cs1).1 * P.cellsOf et ∧ (n2, cs2).2.length = (n2, cs2).1 * P.cellsOf et ∧ (flat z).length = P.cellsOf et ∧ (flat z).all AV.cellB = true
    · rw [if_pos hc] at h
      obtain ⟨b1, b2, b3, b4, b5, b6, b7, b8⟩ := hc
      simp only at b1 b2 b5 b6 h
      subst hzx
      have hzs : zx.cells.size = P.cellsOf et := by
        have := flat_length (VR_val (κ := kap K H p w) hcst) b8
        omega
      obtain ⟨ad, cap, us1, hsl, v1, o1, hcap, g1⟩ := slc_sound hI hs1 hu
      obtain ⟨us2, v2, o2, l2, f2⟩ := sourceA_sound (P := P) hI hs2 hv
      have hl1 := v1.length
      have hl2 := v2.length
      have f2' := f2 n2 (P.cellsOf et) (Nat.le_refl _) (by rw [hl2, b6])
      rw [List.take_of_length_le (by rw [hl2, b6]; exact Nat.le_refl _)] at f2'
      have f1 := firstCells_slice (P := P) (w := w) (k := n1) (c := cap) (by rw [hl1, b5]) g1
      have hone : ∀ y ∈ us1 ++ us2, y.oneCell' = true := fun y hy => by
        rcases List.mem_append.1 hy with hy | hy
        · exact o1 y hy
        · exact o2 y hy
      have hcontents : ∀ zs : Array Value, ∀ (j : Nat) (y : Value), (us1 ++ us2)[j]? = some y → (us1.toArray ++ us2.toArray ++ zs)[j]? = some y := by
        intro zs j y hj
        have hjl := (List.getElem?_eq_some_iff.1 hj).1
        rw [Array.getElem?_append_left (by simpa using hjl)]
        simpa using hj
      cases s with
      | ms b ver off n sz' =>
        simp only at h
        split at h
        · rename_i ver' cs hb
          split at h
          · rename_i hsz
            cases h
            have hsl2 := hs1
            simp only [slc, hb] at hsl2
            split at hsl2
            · rename_i hver
              subst hver
              split at hsl2
              · cases hsl2
                subst hsl
                by_cases hfit : n1 + n2 ≤ cap
                · -- it fits
                  simp only [VR] at hu
                  obtain ⟨_, vv, xx, q1, q2, q3⟩ := hu
                  obtain ⟨x', k1, k2⟩ := hI.blk _ _ hb
                  have e1 := k1.symm.trans q1
                  cases e1
                  have q3' := q3 rfl
                  have hrun := run_append_in (P := P) (w := w) (ty := ty) hq b3 hni (ad := ad) l2 (f2' w rfl) hfit
                  cases xx with
                  | none =>
                    obtain ⟨rfl, ad', hslice⟩ := q3'
                    cases hslice
                    have hn2 : n2 = 0 := by omega
                    subst hn2
                    rw [Nat.zero_mul] at b5 b6
                    have e1 : us2 = [] := List.eq_nil_of_length_eq_zero (by omega)
                    have e2 : cs2 = [] := List.eq_nil_of_length_eq_zero b6
                    subst e1 e2
                    rw [Nat.zero_mul, List.take_zero, List.append_nil]
                    obtain ⟨m1, m2⟩ := bump_sound hI hb
                    refine ⟨.slice ad 0 0, w, _, ?_, m1, m2, ?_⟩
                    · rw [hrun]
                      cases ad <;> rfl
                    · simp only [VR]
                      exact ⟨rfl, ver' + 1, none, by simp [kap, setP], Nat.le_refl _, fun _ => ⟨rfl, ad, rfl⟩⟩
                  | some q =>
                    obtain ⟨rb, o⟩ := q
                    obtain ⟨hz0, cap', ao, hslice, m1, m2, m3⟩ := q3'
                    cases hslice
                    have hszz : sz' = P.cellsOf et := hsz.resolve_left hz0
                    subst hszz
                    obtain ⟨c, te, fr, us, r1, r2, r3, r4, r5⟩ := k2
                    have hfr := r5 rfl
                    subst hfr
                    obtain ⟨c2, e2, fr2, s1, s2⟩ := m3
                    have hcc := s1.symm.trans r1
                    cases hcc
                    have hmul : (n1 + n2) * P.cellsOf et ≤ cap * P.cellsOf et := Nat.mul_le_mul_right _ hfit
                    rw [Nat.add_mul] at hmul
                    have hold : ∀ (j : Nat) (y : Value), us1[j]? = some y → c[ao + j]? = some y := by
                      intro j y hj
                      obtain ⟨b', o', hb', hcell⟩ := g1 (fun e => by subst e; simp at hj)
                      cases hb'
                      have := hcell j y hj
                      unfold World.cell? at this
                      have r1' : w.heap[rb]? = some (.cells c te (0, 0)) := r1
                      simp only [r1'] at this
                      exact this
                    obtain ⟨w', g2, g3, g4⟩ := grow_sound (P := P) hI hb q1 r1 (v1.append v2) hone hold (by omega)
                    refine ⟨.slice (some ⟨rb, ao, none⟩) (n1 + n2) cap, w', _, ?_, g3, g4, ?_⟩
                    · rw [hrun]
                      simp only [abs_add]
                      rw [← b5, ← hl1, g2]
                      rfl
                    · have hrs : RowSz w' rb (ao + cap * P.cellsOf et) := g4.row rb _ ⟨c, te, (0, 0), r1, s2⟩
                      simp only [VR]
                      exact ⟨rfl, ver' + 1, some (rb, ao), by simp [kap, setP], Nat.le_refl _, fun _ => ⟨by omega, cap, ao, rfl, hfit, fun _ => rfl, hrs⟩⟩
                · -- it moves
                  obtain ⟨N, zs, hrun, hN, hzz⟩ := run_append_out (P := P) (w := w) (ty := ty) hq b3 hni hi hzi (ad := ad) l2 (fun w' hw => f2' w' hw) (fun w' hw => f1 w' hw) (by omega) (by omega) (by omega)
                  subst hzz
                  obtain ⟨m1, m2⟩ := move_sound (e := et) hI hb (v1.append v2) hone (hcontents _)
                  refine ⟨_, _, _, hrun, m1, m2, ?_⟩
                  simp only [VR]
                  exact ⟨rfl, ver' + 1, some (w.heap.size, 0), by simp [kap, setP], Nat.le_refl _, fun _ => ⟨by omega, N, 0, rfl, hN, fun _ => rfl, _, et, (0, 0), heap_last w.drew _, size_zeros hi hzs N 0 us1 us2 n1 n2 (by omega) (by omega) hN⟩⟩
              · cases hsl2
            · cases hsl2
          · cases h
        · cases h
      | sl full n cs =>
        cases full with
        | false => simp at h
        | true =>
          simp only at h
          split at h
          · rename_i hn
            cases h
            have hsl2 := hs1
            simp only [slc] at hsl2
            cases hsl2
            simp only [VR] at hu
            obtain ⟨ad', cap', hslice, q2, q3, q4, q5, us, q6, q7⟩ := hu
            rw [hsl] at hslice
            cases hslice
            subst hsl
            have hcn : cap = n1 := q3 trivial
            by_cases hfit : n1 + n2 ≤ cap
            · have hn2 : n2 = 0 := by omega
              subst hn2
              have hn1 : n1 = 0 := by omega
              subst hn1
              subst hcn
              have hrun := run_append_in (P := P) (w := w) (ty := ty) hq b3 hni (ad := ad) l2 (f2' w rfl) hfit
              rw [Nat.zero_mul] at b5 b6
              have e1 : us2 = [] := List.eq_nil_of_length_eq_zero (by omega)
              have e2 : cs2 = [] := List.eq_nil_of_length_eq_zero b6
              have e3 : cs1 = [] := List.eq_nil_of_length_eq_zero b5
              subst e1 e2 e3
              obtain ⟨m1, m2⟩ := empty_sound hI
              refine ⟨.slice ad 0 0, w, _, ?_, m1, m2, ?_⟩
              · rw [hrun]
                cases ad <;> rfl
              · simp only [VR]
                refine ⟨rfl, 0, none, by simp [kap, addP], Nat.le_refl _, fun _ => ⟨rfl, ad, rfl⟩⟩
            · obtain ⟨N, zs, hrun, hN, hzz⟩ := run_append_out (P := P) (w := w) (ty := ty) hq b3 hni hi hzi (ad := ad) l2 (fun w' hw => f2' w' hw) (fun w' hw => f1 w' hw) (by omega) (by omega) (by omega)
              subst hzz
              obtain ⟨d1, d2⟩ := same_sound (w' := w.drew) hI rfl rfl rfl rfl
              obtain ⟨m1, m2⟩ := alloc_sound (e := et) (c := us1.toArray ++ us2.toArray ++ Builtin.zeroCells zx.cells (N - (n1 + n2))) d1 ((v1.append v2).mono' d2) hone (hcontents _)
              refine ⟨_, _, _, hrun, m1, d2.trans m2, ?_⟩
              simp only [VR]
              exact ⟨rfl, 0, some (w.heap.size, 0), by simp [kap, addP], Nat.le_refl _, fun _ => ⟨by omega, N, 0, rfl, hN, fun _ => rfl, _, et, (0, 0), heap_last w.drew _, size_zeros hi hzs N 0 us1 us2 n1 n2 (by omega) (by omega) hN⟩⟩
          · cases h
      | _ => simp at h
    · rw [if_neg hc] at h; cases h
  · cases h
end
end Go.AI
