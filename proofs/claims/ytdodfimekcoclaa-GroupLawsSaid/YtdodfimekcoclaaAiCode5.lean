/- The abstract interpreter: a region whose order is drawn. Conditions: the callees' contracts; the region's check. -/
import Derived.Test.YtdodfimekcoclaaAiCode4
set_option linter.unusedVariables false
set_option linter.unusedSimpArgs false
namespace Go.AI
section
variable {K : Kx} {H : Heap} {p : Pl} {w : World}
theorem vld_of (hI : Inv K H p w) {x : AV} {u : Value} (hx : VR (kap K H p w) x u) : vld H x := by
  have key : ∀ b ver, (∃ v x, p b = some (v, x) ∧ ver ≤ v) → b < H.length ∧ ∀ l v cs, H[b]? = some (.cells l v cs) → ver ≤ v := by
    rintro b ver ⟨v, x, h1, h2⟩
    refine ⟨?_, fun l v' cs hc => ?_⟩
    · rcases Nat.lt_or_ge b H.length with h | h
      · exact h
      · rw [hI.dom b h] at h1; cases h1
    · obtain ⟨x', h3, _⟩ := hI.blk b _ hc
      have h3' : p b = some (v', x') := h3
      rw [h1] at h3'
      cases h3'
      exact h2
  cases x <;> simp only [vld]
  · simp only [VR] at hx
    obtain ⟨_, v, x, h1, h2, _⟩ := hx
    exact key _ _ ⟨v, x, h1, h2⟩
  · simp only [VR] at hx
    obtain ⟨_, v, x, h1, h2, _⟩ := hx
    exact key _ _ ⟨v, x, h1, h2⟩
theorem vldO_of (hI : Inv K H p w) {g : G} {a : Act} (hE : EnvR (kap K H p w) g a) (o : Oper) : vldO o g H := fun _ x _ b hb => vld_of hI (aev_sound hE hb)
theorem ready_iff {ops : Array Oper} {listed : Array Bool} {i : Nat} : i ∈ Region.ready .any ops listed ↔ i < ops.size ∧ listed.getD i true = false ∧ ∃ o, ops[i]? = some o ∧ ∀ e ∈ o.after.toList, Region.binds .any e = true → listed.getD e.on false = true := by
  unfold Region.ready
  simp only [List.mem_filter, List.mem_range, Bool.and_eq_true, Bool.not_eq_true']
  constructor
  · rintro ⟨h1, h2, h3⟩
    refine ⟨h1, h2, ?_⟩
    cases ho : ops[i]? with
    | none => simp [ho] at h3
    | some o =>
      refine ⟨o, rfl, fun e he hb => ?_⟩
      simp only [ho, Option.map_some, Option.getD_some, Array.all_eq_true_iff_forall_mem] at h3
      have := h3 e (Array.mem_def.2 he)
      simpa [hb] using this
  · rintro ⟨h1, h2, o, h3, h4⟩
    refine ⟨h1, h2, ?_⟩
    simp only [h3, Option.map_some, Option.getD_some, Array.all_eq_true_iff_forall_mem]
    intro e he
    cases hb : Region.binds .any e with
    | false => rfl
    | true => simpa [hb] using h4 e (Array.mem_def.1 he) hb
theorem okAny_on {sh : FuncId → Bool} {ops : Array Oper} (h : okAny sh ops = true) {j : Nat} {o : Oper} (ho : ops[j]? = some o) :
    (∀ e ∈ o.after.toList, Region.binds .any e = true → e.on < j) ∧ ∀ i, i < j → ∃ x, ops[i]? = some x ∧ (indep sh ops x o = true ∨ reach ops 3 j i = true) := by
  unfold okAny at h
  rw [List.all_eq_true] at h
  have := h j (by simpa using (Array.getElem?_eq_some_iff.1 ho).1)
  simp only [ho, Bool.and_eq_true, List.all_eq_true, decide_eq_true_eq, List.mem_range] at this
  refine ⟨fun e he hb => by have := this.1 e he; simpa [hb] using this, fun i hi => ?_⟩
  have h2 := this.2 i hi
  cases hx : ops[i]? with
  | none => simp [hx] at h2
  | some x => simp only [hx, Bool.or_eq_true] at h2; exact ⟨x, rfl, h2⟩
theorem any_sound {c : Cfg} {C : Cl} {ops : Array Oper} (hC : SoundC c C) (hok : okAny c.shared ops = true) {Q : Exit → Act → World → Prop} {n : Nat} (hd : ∀ o ∈ ops.toList, ∀ i, o.dst = some i → i < n) :
    ∀ (k : Nat) (l : List Nat) (listed : Array Bool) {g g' : G} {H H' : Heap} {p : Pl} {w : World} {a : Act},
    listed.size = ops.size → (∀ i, i < ops.size → (listed[i]? = some false ↔ i ∈ l)) → (∀ i ∈ l, i < ops.size) → l.Pairwise (· < ·) → l.length ≤ k → Shut ops listed →
    stepsG c C ops (l.filterMap (ops[·]?)) g H = some (g', H') → Inv K H p w → EnvR (kap K H p w) g a → a.tmps.size = n →
    (∀ a' w' p', Inv K H' p' w' → PK (kap K H p w) (kap K H' p' w') → EnvR (kap K H' p' w') g' a' → a'.tmps.size = n → a'.defers = a.defers → Q .normal a' w') → wpAny c.P .any ops Q k listed a w := by
  have done : ∀ (l : List Nat) (listed : Array Bool), listed.size = ops.size → (∀ i, i < ops.size → (listed[i]? = some false ↔ i ∈ l)) → (∀ i ∈ l, i < ops.size) → l.Pairwise (· < ·) → Region.ready .any ops listed = [] → l = [] := by
    intro l listed hsz hl hlt hp hr
    cases l with
    | nil => rfl
    | cons i rest =>
      exfalso
      have hi := hlt i (by simp)
      have : i ∈ Region.ready .any ops listed := by
        refine ready_iff.2 ⟨hi, ?_, ops[i], by simp [hi], fun e he hb => ?_⟩
        · have := (hl i hi).2 (by simp)
          simp [this]
        · have h1 := (okAny_on hok (j := i) (o := ops[i]) (by simp [hi])).1 e he hb
          have h2 : e.on < ops.size := by omega
          have h3 : listed[e.on]? ≠ some false := by
            rw [Ne, hl _ h2]
            intro hm
            rcases List.mem_cons.1 hm with hm | hm
            · omega
            · have := (List.pairwise_cons.1 hp).1 _ hm
              omega
          have h4 : e.on < listed.size := by omega
          have h5 : listed[e.on]? = some listed[e.on] := by simp [h4]
          rw [h5] at h3
          have h6 : listed[e.on] = true := by cases hq : listed[e.on] <;> simp_all
          simp [h5, h6]
      rw [hr] at this
      cases this
  intro k
  induction k with
  | zero =>
    intro l listed g g' H H' p w a hsz hl hlt hp hlen hs h hI hE ha hn
    have hl0 : l = [] := by cases l with | nil => rfl | cons => simp at hlen
    subst hl0
    cases h
    refine ⟨?_, hn a w p hI (PK.refl _) hE ha rfl⟩
    apply List.eq_nil_iff_forall_not_mem.2
    intro i hi
    obtain ⟨h1, h2, _⟩ := ready_iff.1 hi
    have h4 : i < listed.size := by omega
    have : listed[i]? = some false := by simpa [h4] using h2
    have := (hl i h1).1 this
    cases this
  | succ k ih =>
    intro l listed g g' H H' p w a hsz hl hlt hp hlen hs h hI hE ha hn
    refine ⟨fun hr => ?_, fun i hi => ?_⟩
    · have := done l listed hsz hl hlt hp hr
      subst this
      cases h
      exact hn a w p hI (PK.refl _) hE ha rfl
    · obtain ⟨h1, h2, o, ho, h3⟩ := ready_iff.1 hi
      have hil : i < listed.size := by omega
      have hmem : i ∈ l := (hl i h1).1 (by simpa [hil] using h2)
      have h3' : ∀ o', ops[i]? = some o' → ∀ e ∈ o'.after.toList, Region.binds .any e = true → listed[e.on]? = some true := by
        intro o' ho' e he hb
        rw [ho] at ho'; cases ho'
        have := h3 e he hb
        cases hq : listed[e.on]? with
        | none => simp [hq] at this
        | some b => simp [hq] at this; rw [this]
      obtain ⟨pre, post, rfl⟩ := List.append_of_mem hmem
      have hpre : ∀ x ∈ pre, x < i := fun x hx => (List.pairwise_append.1 hp).2.2 x hx i (by simp)
      rw [List.filterMap_append, List.filterMap_cons, ho] at h
      have hind : ∀ x ∈ pre.filterMap (ops[·]?), indep c.shared ops x o = true := by
        intro x hx
        obtain ⟨j, hj, hxj⟩ := List.mem_filterMap.1 hx
        obtain ⟨x', hx', h4⟩ := (okAny_on hok ho).2 j (hpre j hj)
        rw [hxj] at hx'; cases hx'
        rcases h4 with h4 | h4
        · exact h4
        · have h5 := reach_listed hs 3 i j h3' h4
          have h6 := (hl j (hlt j (by simp [hj]))).2 (by simp [hj])
          rw [h5] at h6; cases h6
      obtain ⟨g1, H1, k1, k2⟩ := bubble hind (vldO_of hI hE o) h
      unfold wpOp
      simp only [ho]
      have hoi : o ∈ ops.toList := by
        have := Array.mem_of_getElem? ho
        exact Array.mem_def.1 this
      refine step_sound hC k1 hI hE (fun j hj => by rw [ha]; exact hd o hoi j hj) fun a' w' p' i1 i2 i3 i4 i5 => ?_
      refine ih (pre ++ post) (listed.setIfInBounds i true) (by simpa using hsz) (fun j hj => ?_) (fun j hj => hlt j (by simp at hj ⊢; rcases hj with hj | hj; exact .inl hj; exact .inr (.inr hj))) ?_ (by simp at hlen ⊢; omega) ?_ (by rw [List.filterMap_append]; exact k2) i1 i3 (by rw [i4, ha])
        fun a2 w2 p2 j1 j2 j3 j4 j5 => hn a2 w2 p2 j1 (i2.trans j2) j3 j4 (by rw [j5, i5])
      · by_cases hji : j = i
        · subst hji
          have hnot : j ∉ pre ++ post := by
            intro hm
            rcases List.mem_append.1 hm with hm | hm
            · exact absurd (hpre j hm) (Nat.lt_irrefl _)
            · have := (List.pairwise_cons.1 (List.pairwise_append.1 hp).2.1).1 j hm
              exact absurd this (Nat.lt_irrefl _)
          simp only [hnot, iff_false]
          simp [hil]
        · rw [Array.getElem?_setIfInBounds_ne (Ne.symm hji), hl j hj]
          simp [hji]
      · have := hp
        rw [List.pairwise_append] at this ⊢
        exact ⟨this.1, (List.pairwise_cons.1 this.2.1).2, fun x hx y hy => this.2.2 x hx y (by simp [hy])⟩
      · intro j o' hj ho' e he hb
        by_cases hei : e.on = i
        · rw [hei]; simp [hil]
        · rw [Array.getElem?_setIfInBounds_ne (Ne.symm hei)]
          by_cases hji : j = i
          · subst hji; exact h3' o' ho' e he hb
          · rw [Array.getElem?_setIfInBounds_ne (Ne.symm hji)] at hj
            exact hs j o' hj ho' e he hb
theorem filter_range (ops : Array Oper) : ∀ (l : List Oper) (k : Nat), (∀ j, l[j]? = ops[k + j]?) → (List.range' k l.length).filterMap (ops[·]?) = l
  | [], k, _ => rfl
  | o :: l, k, h => by
    have h0 : ops[k]? = some o := by simpa using (h 0).symm
    have ih := filter_range ops l (k + 1) (fun j => by have := h (j + 1); simpa [Nat.add_assoc, Nat.add_comm 1 j] using this)
    simp only [List.length_cons, List.range'_succ, List.filterMap_cons, h0, ih]
/-- A region, drawn or not. -/
theorem region_sound {c : Cfg} {C : Cl} {ops : Array Oper} {id : Nat} {dr : Bool} (hC : SoundC c C) (hm : c.P.follows .mixedOrders = true) (hok : dr = true → okAny c.shared ops = true) {Q : Exit → Act → World → Prop} {n : Nat} (hd : ∀ o ∈ ops.toList, ∀ i, o.dst = some i → i < n)
    {e e' : Env} {H' : Heap} {a : Act} (h : aops c C ops ops.toList e H = some (e', H')) (hI : Inv K H p w) (hE : EnvR (kap K H p w) e.get a) (ha : a.tmps.size = n)
    (hn : ∀ a' w' p', Inv K H' p' w' → PK (kap K H p w) (kap K H' p' w') → EnvR (kap K H' p' w') e'.get a' → a'.tmps.size = n → a'.defers = a.defers → Q .normal a' w') : (Code.region id ops dr).wp c.P Q a w := by
  have hs := aops_G h
  cases dr with
  | false => exact wp_region_list (steps_sound hC ops.toList hs hI hE ha hd hn)
  | true =>
    refine wp_region_any hm ?_
    obtain ⟨f1, f2⟩ := frame_sound hI (w' := { w with drawn := w.drawn + 1 }) (fun i _ => rfl) (Nat.le_refl _) rfl rfl rfl (fun _ => rfl)
    refine any_sound hC (hok rfl) hd ops.size (List.range ops.size) _ (by simp) (fun i hi => by simp [hi]) (fun i hi => by simpa using hi) List.pairwise_lt_range (by simp) ?_ ?_ f1 (hE.mono f2) ha
      fun a' w' p' i1 i2 i3 i4 i5 => hn a' w' p' i1 (f2.trans i2) i3 i4 i5
    · intro j o hj ho e he hb
      exfalso
      rw [Array.getElem?_replicate] at hj
      split at hj <;> cases hj
    · rw [List.range_eq_range', ← Array.length_toList, filter_range ops ops.toList 0 (by simp)]; exact hs
end
end Go.AI
