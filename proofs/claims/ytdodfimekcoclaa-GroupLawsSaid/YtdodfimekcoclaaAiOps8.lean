/- The abstract interpreter: maps; all operations but calls. No conditions. -/
import Derived.Test.YtdodfimekcoclaaAiOps7
set_option linter.unusedVariables false
set_option linter.unusedSimpArgs false
namespace Go.AI
section
variable {P : Program} {κ : Kap}
theorem checkKey_basic {t : TypeId} {kd : TypeDesc} (ht : basicT P t = some kd) (u : Value) (em : Bool) (n : Nat) (w : World) : (Instr.checkKey em (n + 1) t u).run P w = .ok () w := by
  unfold basicT at ht
  split at ht <;> first
    | (cases ht; done)
    | (rename_i hq; simp [Instr.checkKey, run_underlying hq])
theorem checkKey_arr {e : TypeId} {kd : TypeDesc} (he : basicT P e = some kd) (d : TypeDesc) (hd : P.underlying e = some d) (hs : P.cellsOf e = 1) (em : Bool) (m : Nat) (xs : Array Value) : ∀ (n k : Nat), k + n ≤ xs.size → ∀ (w : World),
    ((forIn (m := Sem) (List.range' k n) (() : Unit) fun i r => do
        let s ← sizeOf e
        let a ← part e xs (i * s)
        Instr.checkKey em (m + 1) e a
        pure (.yield ())).run P w = .ok () w) := by
  intro n
  induction n with
  | zero => intro k h w; simp
  | succ n ih =>
    intro k h w
    have hk : k < xs.size := by omega
    rw [List.range'_succ, List.forIn_cons]
    simp only [Sem.run_bind, run_sizeOf hd, hs, Nat.mul_one, Result.andThen_ok, basicT_part he xs k xs[k] (Array.getElem?_eq_getElem hk), checkKey_basic he, Sem.run_pure]
    have := ih (k + 1) (by omega) w
    exact this
theorem cellsEq_len : ∀ {ks : List TypeDesc} {as bs : List AV} {b : Bool}, cellsEq ks as bs = some b → as.length = ks.length ∧ bs.length = ks.length
  | [], [], [], b, h => ⟨rfl, rfl⟩
  | k :: ks, x :: r, y :: s, b, h => by
    simp only [cellsEq] at h
    obtain ⟨b1, h1, h⟩ := obind_eq h
    obtain ⟨b2, h2, h⟩ := obind_eq h
    obtain ⟨g1, g2⟩ := cellsEq_len h2
    simp [g1, g2]
  | [], _ :: _, _, _, h => by simp [cellsEq] at h
  | [], [], _ :: _, _, h => by simp [cellsEq] at h
  | _ :: _, [], _, _, h => by simp [cellsEq] at h
  | _ :: _, _ :: _, [], _, h => by simp [cellsEq] at h
theorem checkKey_fields {cs : Array Value} (em : Bool) (m : Nat) : ∀ (fs : List Field) (i : Nat) (ks : List TypeDesc), kindsF P i fs = some ks → i + ks.length ≤ cs.size → ∀ (w : World),
    ((forIn (m := Sem) fs (() : Unit) fun f r => do
        if f.name ≠ "_" then
          let a ← part f.type cs f.offset
          Instr.checkKey em (m + 1) f.type a
          pure (.yield ())
        else pure (.yield ())).run P w = .ok () w)
  | [], i, ks, h, hl, w => by simp
  | f :: fs, i, ks, h, hl, w => by
    unfold kindsF at h
    split at h
    · rename_i hc
      obtain ⟨rfl, hn⟩ := hc
      obtain ⟨kd, hkd, h⟩ := obind_eq h
      obtain ⟨ks', hks, h⟩ := obind_eq h
      cases h
      simp only [List.length_cons] at hl
      have hk : f.offset < cs.size := by omega
      rw [List.forIn_cons]
      simp only [hn, ne_eq, not_false_eq_true, if_true, Sem.run_bind, basicT_part hkd cs _ cs[f.offset] (Array.getElem?_eq_getElem hk), Result.andThen_ok, checkKey_basic hkd, Sem.run_pure]
      exact checkKey_fields em m fs (f.offset + 1) ks' hks (by omega) w
    · cases h
theorem run_checkKey2 {t : TypeId} {k : AV} {b : Bool} (h : aeq P t k k = some b) {u : Value} (hu : VR κ k u) (em : Bool) (m : Nat) {m' : Nat} (hm : m' = m + 1) (w : World) : (Instr.checkKey em (m' + 1) t u).run P w = .ok () w := by
  unfold aeq at h
  split at h
  · obtain ⟨ks, hk, h⟩ := obind_eq h
    simp only [VR] at hu
    obtain ⟨us, rfl, hu, _⟩ := hu
    have hl := (cellsEq_len h).1
    have hul := hu.length
    unfold kindsT at hk
    split at hk
    · rename_i n e hq
      split at hk
      · rename_i hs
        obtain ⟨kd, hkd, hk⟩ := obind_eq hk
        cases hk
        obtain ⟨d, hd⟩ := cells_of_arr hkd
        have := checkKey_arr hkd d hd hs em m us.toArray n 0 (by simp at hl; simp; omega) w
        rw [← hm] at this
        simp only [Instr.checkKey, Sem.run_bind, run_underlying hq, Result.andThen_ok, Std.Legacy.Range.forIn_eq_forIn_range', Std.Legacy.Range.size, Nat.sub_zero, Nat.add_one_sub_one, Nat.div_one]
        exact (congrArg (fun r : Result Unit => r.andThen fun _ w' => Sem.run P (pure ()) w') this).trans rfl
      · cases hk
    · rename_i fs hq
      split at hk
      · cases hk
      · have := checkKey_fields (cs := us.toArray) em m fs.toList 0 ks hk (by simp; omega) w
        rw [← hm] at this
        simp only [Instr.checkKey, Sem.run_bind, run_underlying hq, Result.andThen_ok]
        rw [← Array.forIn_toList]
        exact (congrArg (fun r : Result Unit => r.andThen fun _ w' => Sem.run P (pure ()) w') this).trans rfl
    · cases hk
  · obtain ⟨kd, hk, h⟩ := obind_eq h
    exact checkKey_basic hk u em _ w
theorem run_checkKey {t : TypeId} {k : AV} (h : keyOk P t k = true) {u : Value} (hu : VR κ k u) (em : Bool) (w : World) : (Instr.checkKey em 10000 t u).run P w = .ok () w := by
  unfold keyOk at h
  split at h
  · rename_i h'
    exact run_checkKey2 h' hu em 9998 (m' := 9999) rfl w
  · cases h
theorem keyOk_under {t : TypeId} {k : AV} (h : keyOk P t k = true) : ∃ d, P.underlying t = some d := by
  unfold keyOk at h
  split at h
  · rename_i h'
    unfold aeq at h'
    split at h'
    · obtain ⟨ks, hk, _⟩ := obind_eq h'
      unfold kindsT at hk
      cases hq : P.underlying t with
      | none => rw [hq] at hk; cases hk
      | some d => exact ⟨d, rfl⟩
    · obtain ⟨kd, hk, _⟩ := obind_eq h'
      exact cells_of_arr hk
  · cases h
end
section
variable {P : Program} {K : Kx} {H : Heap} {p : Pl} {w : World}
theorem mm_at (hI : Inv K H p w) {b : Nat} {es : List (AV × AV)} (hb : H[b]? = some (.map es)) {u : Value} (hu : VR (kap K H p w) (.mm b) u) :
    ∃ rb ents clock, p b = some (0, some (rb, 0)) ∧ u = .map (some rb) ∧ w.heap[rb]? = some (.map ents clock) ∧ EntR (kap K H p w) es ents.toList := by
  obtain ⟨rb, ents, clock, g1, g2, g3⟩ := hI.blk _ _ hb
  simp only [VR] at hu
  obtain ⟨_, v, x, q1, q2⟩ := hu
  have e1 := g1.symm.trans q1
  cases e1
  obtain ⟨rb', e2, rfl⟩ := q2 rfl
  cases e2
  exact ⟨rb, ents, clock, g1, rfl, g2, g3⟩
theorem lookupA_sound (hI : Inv K H p w) {t : TypeId} {m k r : AV} {ok : Bool} (h : lookupA P t m k ok H = some r) {u v : Value} (hu : VR (kap K H p w) m u) (hv : VR (kap K H p w) k v) :
    ∃ y, VR (kap K H p w) r y ∧ (Instr.lookup t u v ok).run P w = .ok y w := by
  unfold lookupA at h
  split at h
  · rename_i kt et b hq
    split at h
    · rename_i es hb
      split at h
      · rename_i hk
        obtain ⟨rr, hr, h⟩ := obind_eq h
        obtain ⟨rb, ents, clock, g1, rfl, g2, g3⟩ := mm_at hI hb hu
        obtain ⟨d, hd⟩ := keyOk_under hk
        obtain ⟨q, hq1, hq2⟩ := findA_hit es 0 rr hr
        obtain ⟨r', f1, f2⟩ := findKey_sound (P := P) hd hv w hq1 g3
        have hck := run_checkKey (P := P) hk hv ents.isEmpty w
        have hobj : (getObj rb).run P w = .ok (.map ents clock) w := by simp [getObj, Sem.run, g2]
        have hpre : ∀ z : Sem Value, True := fun _ => trivial
        cases q with
        | none =>
          cases r' with
          | some x => exact f2.elim
          | none =>
            simp at hq2
            subst hq2
            simp only at h
            obtain ⟨z, hz, h⟩ := obind_eq h
            obtain ⟨zx, i, hi, hzi, rfl, hcst, hrun⟩ := run_zeroT hz
            cases h
            cases ok
            · exact ⟨zx, VR_val hcst, by simp [Instr.lookup, run_underlying hq, hobj, hck, f1, hrun]⟩
            · refine ⟨.tuple #[zx, .bool false], ?_, by simp [Instr.lookup, run_underlying hq, hobj, hck, f1, hrun]⟩
              simp only [if_true, VR]
              exact ⟨[zx, .bool false], rfl, .cons (VR_val hcst) (.cons (VR_v rfl) .nil)⟩
        | some q =>
          obtain ⟨i, x⟩ := q
          cases r' with
          | none => exact f2.elim
          | some r' =>
            obtain ⟨j, y⟩ := r'
            obtain ⟨rfl, hxy⟩ := f2
            simp at hq2
            subst hq2
            simp only at h
            cases h
            cases ok
            · exact ⟨y, hxy, by simp [Instr.lookup, run_underlying hq, hobj, hck, f1]⟩
            · refine ⟨.tuple #[y, .bool true], ?_, by simp [Instr.lookup, run_underlying hq, hobj, hck, f1]⟩
              simp only [if_true, VR]
              exact ⟨[y, .bool true], rfl, .cons hxy (.cons (VR_v rfl) .nil)⟩
      · cases h
    · cases h
  · cases h
/-- A map block gets new entries. -/
theorem map_sound (hI : Inv K H p w) {b rb clock clock' : Nat} {es es' : List (AV × AV)} {ents ents' : Array MapEntry} (hb : H[b]? = some (.map es)) (hp : p b = some (0, some (rb, 0))) (hr : w.heap[rb]? = some (.map ents clock))
    (he : EntR (kap K H p w) es' ents'.toList) {w' : World} (hw : w'.heap = w.heap.setIfInBounds rb (.map ents' clock')) (ho : w'.os = w.os) (ht : w'.tape = w.tape) (hu : w'.output = w.output) :
    Inv K (H.set b (.map es')) p w' ∧ PK (kap K H p w) (kap K (H.set b (.map es')) p w') := by
  have hbl : b < H.length := (List.getElem?_eq_some_iff.1 hb).1
  have hrl : rb < w.heap.size := (Array.getElem?_eq_some_iff.1 hr).1
  have hL : LiveAt H p b rb := ⟨_, _, _, hb, rfl, hp⟩
  have main := Inv.chg (b := b) (H' := H.set b (.map es')) (p' := p) (w' := w') hI
    (fun i hi => by rw [List.getElem?_set_ne (Ne.symm hi)]) (by simp) (fun i hi => by simp at hi; exact .inl hi) (fun i hi => rfl)
    (fun v x h => ⟨v, x, h, .inl ⟨rfl, rfl⟩⟩)
    (fun rb' hl => by
      obtain ⟨x, v, o2, q1, q2, q3⟩ := hl
      exact .inl ⟨_, v, o2, hb, rfl, q3⟩)
    (fun v rb' o' h => .inl ⟨v, o', hbl, h⟩)
    (fun h => by simp at h; omega)
    (fun i hi hn => by
      rw [hw, Array.getElem?_setIfInBounds_ne]
      intro e; subst e; exact hn hL)
    (by rw [hw]; simp)
    (fun i k hl hr' => by
      obtain ⟨x, v, o2, q1, q2, q3⟩ := hl
      have : i = rb := by
        have := q3.symm.trans hp
        cases this; rfl
      subst this
      obtain ⟨c2, e2, fr2, r1, r2⟩ := hr'
      rw [hr] at r1; cases r1)
    ho ht hu (fun a => by
      by_cases h : a.block = rb
      · simp only [World.frozen?, h, hr, hw, Array.getElem?_setIfInBounds_self_of_lt hrl]
      · simp only [World.frozen?, hw, Array.getElem?_setIfInBounds_ne (Ne.symm h)])
  refine ⟨main.2 fun x hx => ?_, main.1⟩
  rw [List.getElem?_set_self hbl] at hx
  cases hx
  exact ⟨rb, ents', clock', hp, by show w'.heap[rb]? = _; rw [hw]; simp [hrl], he.mono main.1⟩
theorem EntR.push {κ : Kap} {k x : AV} {u v : Value} (hk : VR κ k u) (hx : VR κ x v) (n : Nat) : ∀ {es : List (AV × AV)} {xs : List MapEntry}, EntR κ es xs → EntR κ (es ++ [(k, x)]) (xs ++ [⟨u, v, n⟩])
  | [], xs, h => by cases h; exact ⟨_, _, rfl, hk, hx, rfl⟩
  | (k', x') :: r, xs, h => by
    obtain ⟨e, s, rfl, h1, h2, h3⟩ := h
    exact ⟨e, s ++ [⟨u, v, n⟩], rfl, h1, h2, EntR.push hk hx n h3⟩
theorem EntR.put {κ : Kap} {k x : AV} {u v : Value} (hk : VR κ k u) (hx : VR κ x v) : ∀ {es : List (AV × AV)} {xs : List MapEntry} (i : Nat), EntR κ es xs → EntR κ (es.set i (k, x)) (xs.modify i fun e => { e with key := u, val := v })
  | [], xs, i, h => by cases h; simp; exact rfl
  | (k', x') :: r, xs, 0, h => by
    obtain ⟨e, s, rfl, h1, h2, h3⟩ := h
    exact ⟨{ e with key := u, val := v }, s, by simp, hk, hx, h3⟩
  | (k', x') :: r, xs, i + 1, h => by
    obtain ⟨e, s, rfl, h1, h2, h3⟩ := h
    exact ⟨e, _, by simp, h1, h2, EntR.put hk hx i h3⟩
theorem EntR.at {κ : Kap} : ∀ {es : List (AV × AV)} {xs : List MapEntry} (i : Nat) (k x : AV), EntR κ es xs → es[i]? = some (k, x) → ∃ e, xs[i]? = some e ∧ VR κ k e.key
  | [], xs, i, k, x, h, hi => by simp at hi
  | (k', x') :: r, xs, 0, k, x, h, hi => by
    obtain ⟨e, s, rfl, h1, h2, h3⟩ := h
    simp at hi
    obtain ⟨rfl, rfl⟩ := hi
    exact ⟨e, rfl, h1⟩
  | (k', x') :: r, xs, i + 1, k, x, h, hi => by
    obtain ⟨e, s, rfl, h1, h2, h3⟩ := h
    simp at hi
    simpa using EntR.at i k x h3 hi
theorem updA_hit {t : TypeId} {k x : AV} : ∀ (es es' : List (AV × AV)) (i : Nat), updA P t k x es = some es' →
    ∃ q, hitA P t k i es = some q ∧ match q with
      | none => es' = es ++ [(k, x)]
      | some (j, y) => ∃ k', i ≤ j ∧ es[j - i]? = some (k', y) ∧ aeq P t k k' = some true ∧ es' = es.set (j - i) (k, x)
  | [], es', i, h => by cases h; exact ⟨none, rfl, rfl⟩
  | (k', x') :: es, es', i, h => by
    simp only [updA] at h
    obtain ⟨b, hb, h⟩ := obind_eq h
    cases b
    · simp only [Bool.false_eq_true, if_false] at h
      obtain ⟨r', h2, h⟩ := obind_eq h
      cases h
      obtain ⟨q, h1, h2⟩ := updA_hit es r' (i + 1) h2
      refine ⟨q, by simp [hitA, hb, obind_some, h1], ?_⟩
      cases q with
      | none => simp only at h2 ⊢; rw [h2]; rfl
      | some q =>
        obtain ⟨j, y⟩ := q
        simp only at h2 ⊢
        obtain ⟨k2, g1, g2, g3, g4⟩ := h2
        have e1 : j - i = (j - (i + 1)) + 1 := by omega
        exact ⟨k2, by omega, by rw [e1]; simpa using g2, g3, by rw [e1, g4]; rfl⟩
    · simp only [if_true] at h
      cases h
      exact ⟨some (i, x'), by simp [hitA, hb, obind_some], k', Nat.le_refl _, by simp, hb, by simp⟩
theorem mapUpdateA_sound (hI : Inv K H p w) {t : TypeId} {m k x : AV} {H' : Heap} (h : mapUpdateA P t m k x H = some H') {u v y : Value} (hu : VR (kap K H p w) m u) (hv : VR (kap K H p w) k v) (hy : VR (kap K H p w) x y) :
    ∃ w', (Instr.mapUpdate t u v y).run P w = .ok () w' ∧ Inv K H' p w' ∧ PK (kap K H p w) (kap K H' p w') := by
  unfold mapUpdateA at h
  split at h
  · rename_i kt et b hq
    split at h
    · rename_i es hb
      split at h
      · rename_i hk
        obtain ⟨es', hes, h⟩ := obind_eq h
        cases h
        obtain ⟨rb, ents, clock, g1, rfl, g2, g3⟩ := mm_at hI hb hu
        obtain ⟨d, hd⟩ := keyOk_under hk
        obtain ⟨q, hq1, hq2⟩ := updA_hit es es' 0 hes
        obtain ⟨r', f1, f2⟩ := findKey_sound (P := P) hd hv w hq1 g3
        have hck := run_checkKey (P := P) hk hv false w
        have hobj : (getObj rb).run P w = .ok (.map ents clock) w := by simp [getObj, Sem.run, g2]
        have hset : ∀ (w' : World) o, w'.heap = w.heap → (setObj rb o).run P w' = .ok () { w' with heap := w'.heap.setIfInBounds rb o } := by
          intro w' o hw
          simp [setObj, Sem.run, hw, g2]
        cases q with
        | none =>
          cases r' with
          | some x => exact f2.elim
          | none =>
            simp only at hq2
            subst hq2
            obtain ⟨n1, n2⟩ := map_sound (clock' := clock + 1) hI hb g1 g2 (ents' := ents.push ⟨v, y, clock⟩) (by simpa using EntR.push hv hy clock g3) (w' := { w with heap := w.heap.setIfInBounds rb (.map (ents.push ⟨v, y, clock⟩) (clock + 1)) }) rfl rfl rfl rfl
            exact ⟨_, by simp [Instr.mapUpdate, run_underlying hq, hobj, hck, f1, hset w _ rfl], n1, n2⟩
        | some q =>
          obtain ⟨i, z⟩ := q
          cases r' with
          | none => exact f2.elim
          | some r' =>
            obtain ⟨j, zz⟩ := r'
            obtain ⟨rfl, hxy⟩ := f2
            simp only at hq2
            obtain ⟨k', _, hget, hke, rfl⟩ := hq2
            rw [Nat.sub_zero] at hget ⊢
            obtain ⟨e, he1, he2⟩ := EntR.at i k' z g3 hget
            have hkey : v = e.key := aeq_val hke hv he2
            have hold : ((ents[i]?).map (·.key)).getD v = v := by
              rw [Array.getElem?_toList] at he1
              rw [he1]
              exact hkey.symm
            have hstay : ∃ w', (Instr.keyThatStays v v).run P w = .ok v w' ∧ (w' = w ∨ w' = w.drew) := by
              unfold Instr.keyThatStays
              by_cases hsb : Instr.sameBits 10000 v v = true
              · exact ⟨w, by simp [hsb], .inl rfl⟩
              · refine ⟨w.drew, ?_, .inr rfl⟩
                simp [hsb, Question.forced]
            obtain ⟨w1, hst1, hst2⟩ := hstay
            have hh : w1.heap = w.heap := by rcases hst2 with rfl | rfl <;> rfl
            have hr2 : (Instr.mapUpdate t (.map (some rb)) v y).run P w = .ok () { w1 with heap := w1.heap.setIfInBounds rb (.map (ents.modify i fun e => { e with key := v, val := y }) clock) } := by
              simp only [Instr.mapUpdate, Sem.run_bind, run_underlying hq, Result.andThen_ok, hobj, hck, f1, hold, hst1, hset w1 _ hh]
            obtain ⟨n1, n2⟩ := map_sound (clock' := clock) hI hb g1 g2 (ents' := ents.modify i fun e => { e with key := v, val := y }) (by
              have := EntR.put hv hy i g3
              simpa using this) (w' := { w1 with heap := w1.heap.setIfInBounds rb (.map (ents.modify i fun e => { e with key := v, val := y }) clock) }) (by rw [hh])
              (by rcases hst2 with rfl | rfl <;> rfl) (by rcases hst2 with rfl | rfl <;> rfl) (by rcases hst2 with rfl | rfl <;> rfl)
            exact ⟨_, hr2, n1, n2⟩
      · cases h
    · cases h
  · cases h
end
end Go.AI
