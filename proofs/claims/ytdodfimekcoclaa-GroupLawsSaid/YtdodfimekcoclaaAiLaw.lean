/- The abstract interpreter: from a call's answer to a law's row. Conditions: the call's answer; the law's arguments read as trees. -/
import Derived.Test.YtdodfimekcoclaaAiTop
import Derived.ProofKit
set_option linter.unusedVariables false
namespace Go.AI
open Go.ChangeShapes Go.WideShapes Go.ChangeAt Go.RowKit
def K0 (W : World) : Kx := ⟨fun _ => False, fun _ => False, W⟩
def κ0 (W : World) : Kap := kap (K0 W) [] (fun _ => none) W
/-- What a call that answers `true` does in the program. -/
theorem true_sound {c : Cfg} (hF : Fit c) {f : FuncId} {args : List AV} (h : call c f args [] = some (.v (.bool true), [])) {W : World} {cargs : List Value} (hv : VRs (κ0 W) args cargs) :
    Calls c.P f cargs.toArray W fun e W' => e = .returned (.bool true) ∧ Ext (K0 W) W' := by
  have hI : Inv (K0 W) [] (fun _ => none) W := noP_inv (fun b hb => hb.elim) ⟨rfl, rfl, rfl, Nat.le_refl _, fun _ _ _ => rfl, fun _ => rfl⟩
  exact ((call_sound hF f args [] _ _ h).2.2 (K0 W) (fun _ => none) W cargs hI hv).mono fun e W' ⟨u, p', h1, h2, h3, h4⟩ => by
    cases h4.v_eq
    exact ⟨h1, h2.ext⟩
theorem Ext.below {W W' : World} (h : Ext (K0 W) W') : Below W.heap.size W W' := ⟨h.os, h.tape, h.output, h.size, fun k hk => h.block k hk (fun h => h)⟩
theorem trodAll_stays {H : Type} {enc : TypeId × Value → H} {P : Program} (hl : laidOutB P = true) {W W' : World} {sp : Nat → Bool} (hb : Below W.heap.size W W') : ∀ {ts : List TypeId} {vs : List Value} {ds : List (DataW H)} {ps : List MemPlace},
    (∀ t ∈ ts, P.readableRec t = true ∧ t < P.types.size) → DataW.TrodAll enc P W 0 (fun _ => true) true ts vs ds ps → (∀ x ∈ ps, x.block < W.heap.size) → (∀ x ∈ ps, sp x.block = true) → DataW.TrodAll enc P W' 0 sp true ts vs ds ps
  | [], [], [], ps, _, h, _, _ => h
  | t :: ts, v :: vs, d :: ds, ps, hr, h, hlt, hs => by
    obtain ⟨p, q, h1, h2, rfl⟩ := h
    refine ⟨p, q, ?_, ?_, rfl⟩
    · exact WideElems.Trod_stays hl (hr t (by simp)).1 (hr t (by simp)).2 h1 (fun x hx => hb.same (hlt x (by simp [hx]))) (fun x hx => hs x (by simp [hx]))
    · exact trodAll_stays hl hb (fun t ht => hr t (by simp [ht])) h2 (fun x hx => hlt x (by simp [hx])) (fun x hx => hs x (by simp [hx]))
  | [], _ :: _, _, _, _, h, _, _ => h.elim
  | [], [], _ :: _, _, _, h, _, _ => h.elim
  | _ :: _, [], _, _, _, h, _, _ => h.elim
  | _ :: _, _ :: _, [], _, _, h, _, _ => h.elim
theorem law_post {H : Type} {enc : TypeId × Value → H} {P : Program} (hl : laidOutB P = true) {f : Func} {s : ChangeSpec} {apart fresh handsOn again : Bool} {W W' : World} {args : Array Value} {ds gs : List (DataW H)} {before : List MemPlace}
    (hW : DataW.Whole enc P f.params.toList s.vars apart W args.toList ds gs before) (hvars : s.vars = []) (h1 : (s.fn H (ds ++ gs)).results = [.lit (.bool true)]) (h2 : (s.fn H (ds ++ gs)).args = ds) (h3 : (s.fn H (ds ++ gs)).vars = [])
    {tb : TypeId} (ht : f.resultTypes = #[tb]) (hb : P.underlying tb = some .bool) (hr : ∀ t ∈ f.params.toList, P.readableRec t = true ∧ t < P.types.size) (hE : Ext (K0 W) W') :
    s.post enc P f apart fresh handsOn again W args (.bool true) W' := by
  have hW' := hW
  obtain ⟨p, q, hA, hV, rfl, hfz, hnd⟩ := hW
  rw [hvars] at hV
  obtain ⟨rfl, rfl⟩ := trodVars_none hV
  refine post_of_same (pa := p) (pv := []) hW' ?_ ?_ ?_ rfl (hE.below.frame _) hE.froz ?_
  · intro b sp hd
    rw [h1, ht]
    exact trodAll_mk1 (shut_bool hb true)
  · intro sp hsp
    rw [h2]
    exact trodAll_stays hl hE.below hr hA (fun x hx => hW'.lt x (by simpa using hx)) (fun x hx => hsp x (by simpa using hx))
  · intro sp hsp
    rw [h3, hvars]
    rfl
  · refine ok_one ht rfl ?_
    exact okWide_bool_mk hb true

/-! ### Arguments read as trees -/
section
variable {H : Type} {enc : TypeId × Value → H} {P : Program} {W : World}
/-- One cell that reads at a type. -/
abbrev Rd (enc : TypeId × Value → H) (P : Program) (W : World) (t : TypeId) (u : Value) : Prop := ∃ fuel z, DataW.trod enc P W 0 (fun _ => true) true fuel t [u] = some z
theorem cell_spot {a : Addr} {u : Value} (h : W.cell? a = some u) : a.spot = none := by
  unfold World.cell? at h
  split at h
  · split at h
    · cases h
    · rename_i hs; simpa using hs
  · cases h
theorem add_none {a : Addr} (h : a.spot = none) (i : Nat) : a.add i = ⟨a.block, a.off + i, none⟩ := by
  obtain ⟨b, o, s⟩ := a
  simp only at h
  subst h
  exact abs_add b o i
theorem rd_slice {α : Type} {en : α → AV} (hgood : ∀ x, (en x).good = true) {Q : α → Prop} {t e : TypeId} (ht : P.underlying t = some (.slice e)) (hc : P.cellsOf e = 1)
    (hel : ∀ u, Rd enc P W e u → ∃ x, Q x ∧ VR (κ0 W) (en x) u ∧ u.oneCell' = true) {u : Value} (h : Rd enc P W t u) :
    ∃ l : List α, (∀ x ∈ l, Q x) ∧ l.length ≤ maxLen ∧ VR (κ0 W) (.sl false l.length (l.map en)) u ∧ u.oneCell' = true := by
  obtain ⟨fuel, z, h⟩ := h
  have hg : ∀ l : List α, goodL (l.map en) = true := by
    intro l
    induction l with
    | nil => rfl
    | cons a r ih => simp only [List.map_cons, goodL, hgood, ih, Bool.and_self]
  rcases DataW.trod_slice ht h with ⟨h0, _⟩ | ⟨a, len, cap, elems, rest, n, _, h1, h2, h3, h4, h5, h6, h7, _⟩
  · cases h0
    refine ⟨[], (fun x hx => by cases hx), Nat.zero_le _, ?_, rfl⟩
    simp only [VR]
    exact ⟨none, 0, rfl, Nat.le_refl _, fun _ => rfl, fun h => absurd h (Nat.lt_irrefl _), rfl, [], .nil, rfl⟩
  · cases h1
    have each : ∀ i, i < len → ∃ c x, W.cell? (a.add i) = some c ∧ Q x ∧ VR (κ0 W) (en x) c ∧ c.oneCell' = true := by
      intro i hi
      have h8 := h7 i hi
      have h9 : elems[i]? = some elems[i] := by simp [h6, hi]
      rw [h9, hc, Nat.mul_one, Option.bind_eq_some_iff] at h8
      obtain ⟨cs, hcs, htr⟩ := h8
      simp only [World.cells?, Nat.zero_le, if_true] at hcs
      cases hq : W.cell? ((a.add i).add 0) with
      | none => simp [List.range_succ, hq] at hcs
      | some c =>
        have hcs' : cs = [c] := by simpa [List.range_succ, hq] using hcs.symm
        subst hcs'
        obtain ⟨x, hx1, hx2, hx3⟩ := hel c ⟨n, _, htr⟩
        exact ⟨c, x, by simpa [Addr.add] using hq, hx1, hx2, hx3⟩
    have build : ∀ m, m ≤ len → ∃ (l : List α) (us : List Value), l.length = m ∧ (∀ x ∈ l, Q x) ∧ VRs (κ0 W) (l.map en) us ∧ (∀ j y, us[j]? = some y → W.cell? (a.add j) = some y) ∧ ∀ y ∈ us, y.oneCell' = true := by
      intro m
      induction m with
      | zero => intro _; exact ⟨[], [], rfl, (fun x hx => by cases hx), .nil, (fun j y hj => by simp at hj), (fun y hy => by cases hy)⟩
      | succ m ih =>
        intro hm
        obtain ⟨l, us, g1, g2, g3, g4, g5⟩ := ih (by omega)
        obtain ⟨c, x, e1, e2, e3, e4⟩ := each m (by omega)
        have hul : us.length = m := by rw [g3.length, List.length_map, g1]
        refine ⟨l ++ [x], us ++ [c], by simp [g1], ?_, ?_, ?_, ?_⟩
        · intro y hy
          rcases List.mem_append.1 hy with hy | hy
          · exact g2 y hy
          · simp at hy; subst hy; exact e2
        · rw [List.map_append]
          exact g3.append (.cons e3 .nil)
        · intro j y hj
          rcases Nat.lt_or_ge j us.length with hlt | hge
          · rw [List.getElem?_append_left hlt] at hj
            exact g4 j y hj
          · rw [List.getElem?_append_right hge] at hj
            have hj0 : j - us.length = 0 := by
              have := (List.getElem?_eq_some_iff.1 hj).1
              simp at this
              omega
            rw [hj0] at hj
            have : j = m := by omega
            subst this
            simp at hj
            subst hj
            exact e1
        · intro y hy
          rcases List.mem_append.1 hy with hy | hy
          · exact g5 y hy
          · simp at hy; subst hy; exact e4
    obtain ⟨l, us, g1, g2, g3, g4, g5⟩ := build len (Nat.le_refl _)
    have hspot : us ≠ [] → a.spot = none := by
      intro hne
      obtain ⟨c, r, rfl⟩ := List.exists_cons_of_ne_nil hne
      have := cell_spot (g4 0 c rfl)
      simpa [Addr.add] using this
    have hul : us.length = len := by rw [g3.length, List.length_map, g1]
    refine ⟨l, g2, by omega, ?_, rfl⟩
    simp only [VR]
    refine ⟨some a, cap, by rw [g1], by omega, (fun h => by cases h), fun _ => rfl, hg l, us, g3, ?_, ?_⟩
    · rintro (h | h)
      · exact hspot (fun e => by rw [e] at hul; simp at hul; omega)
      · exact hspot h
    · refine ⟨fun j y hj => ?_, fun hne hA => ?_, g5⟩
      · have hne : us ≠ [] := by intro e; rw [e] at hj; simp at hj
        have := g4 j y hj
        rw [add_none (hspot hne)] at this
        exact this
      · rcases hA with hA | ⟨b, x, v, o, q1, _⟩
        · exact hA.elim
        · simp at q1
theorem rd_int {e : TypeId} {k : IntKind} (he : P.underlying e = some (.int k)) {u : Value} (h : Rd enc P W e u) : ∃ x : Int, (Lit.int k x).wf = true ∧ VR (κ0 W) (.v (.int k x)) u ∧ u.oneCell' = true := by
  obtain ⟨fuel, z, h⟩ := h
  obtain ⟨n, h1, h2, h3⟩ := DataW.trod_int he h
  cases h1
  exact ⟨n, h3, VR_v rfl, rfl⟩
theorem rd_bool {e : TypeId} (he : P.underlying e = some .bool) {u : Value} (h : Rd enc P W e u) : ∃ x : Bool, VR (κ0 W) (.v (.bool x)) u ∧ u.oneCell' = true := by
  obtain ⟨fuel, z, h⟩ := h
  obtain ⟨n, h1, h2⟩ := DataW.trod_bool he h
  cases h1
  exact ⟨n, VR_v rfl, rfl⟩
theorem rd_string {e : TypeId} (he : P.underlying e = some .string) {u : Value} (h : Rd enc P W e u) : ∃ x : ByteArray, x.size ≤ maxLen ∧ VR (κ0 W) (.v (.string x)) u ∧ u.oneCell' = true := by
  obtain ⟨fuel, z, h⟩ := h
  obtain ⟨n, h1, h2, h3⟩ := DataW.trod_string he h
  cases h1
  exact ⟨n, h3, VR_v rfl, rfl⟩
/-- An argument of one cell. -/
theorem rd_arg {r : Reach} {t : TypeId} {v : Value} {d : DataW H} {ps : List MemPlace} (h1 : ∀ fs, P.underlying t ≠ some (.struct fs)) (h2 : ∀ n e, P.underlying t ≠ some (.array n e)) (hv : v.cells.toList = [v]) (h : DataW.Trod enc P W 0 (fun _ => true) true t v d ps) : Rd enc P W t v := by
  obtain ⟨fuel, h⟩ := h
  rw [hv] at h
  exact ⟨fuel, _, h⟩
theorem arg_int {b : Nat} {t : TypeId} {v : Value} {d : DataW H} {ps : List MemPlace} (ht : P.underlying t = some (.int .i64)) (ho : Value.okWide P W .any b t v) (h : DataW.Trod enc P W 0 (fun _ => true) true t v d ps) :
    ∃ x : Int, (-9223372036854775808 ≤ x ∧ x < 9223372036854775808) ∧ VR (κ0 W) (.v (.int .i64 x)) v := by
  obtain ⟨n, rfl⟩ := okWide_int ht ho
  obtain ⟨fuel, h⟩ := h
  obtain ⟨x, h1, h2, _⟩ := rd_int (enc := enc) (W := W) ht ⟨fuel, _, h⟩
  refine ⟨x, ?_, h2⟩
  simp only [Lit.wf, IntKind.min, IntKind.max, IntKind.signed, IntKind.bits] at h1
  simp at h1
  omega
theorem arg_bool {b : Nat} {t : TypeId} {v : Value} {d : DataW H} {ps : List MemPlace} (ht : P.underlying t = some .bool) (ho : Value.okWide P W .any b t v) (h : DataW.Trod enc P W 0 (fun _ => true) true t v d ps) :
    ∃ x : Bool, VR (κ0 W) (.v (.bool x)) v := by
  obtain ⟨n, rfl⟩ := okWide_bool ht ho
  exact ⟨n, VR_v rfl⟩
def i64 (x : Int) : Prop := -9223372036854775808 ≤ x ∧ x < 9223372036854775808
theorem wf_i64 {x : Int} (h : (Lit.int .i64 x).wf = true) : i64 x := by
  simp only [Lit.wf, IntKind.min, IntKind.max, IntKind.signed, IntKind.bits] at h
  simp at h
  unfold i64
  omega
theorem rd_ints {t e : TypeId} (ht : P.underlying t = some (.slice e)) (hc : P.cellsOf e = 1) (he : P.underlying e = some (.int .i64)) {u : Value} (h : Rd enc P W t u) :
    ∃ l : List Int, ((∀ x ∈ l, i64 x) ∧ l.length ≤ maxLen) ∧ VR (κ0 W) (.sl false l.length (l.map fun n => .v (.int .i64 n))) u ∧ u.oneCell' = true := by
  obtain ⟨l, h1, h2, h3, h4⟩ := rd_slice (en := fun n => .v (.int .i64 n)) (Q := i64) (fun _ => rfl) ht hc (fun u hu => by
    obtain ⟨x, g1, g2, g3⟩ := rd_int he hu
    exact ⟨x, wf_i64 g1, g2, g3⟩) h
  exact ⟨l, ⟨h1, h2⟩, h3, h4⟩
theorem arg_slice {b : Nat} {t e : TypeId} {v : Value} {d : DataW H} {ps : List MemPlace} (ht : P.underlying t = some (.slice e)) (ho : Value.okWide P W .any b t v) (h : DataW.Trod enc P W 0 (fun _ => true) true t v d ps) : Rd enc P W t v := by
  obtain ⟨a, len, cap, rfl⟩ := okWide_slice ht ho
  obtain ⟨fuel, h⟩ := h
  exact ⟨fuel, _, h⟩
end
end Go.AI
