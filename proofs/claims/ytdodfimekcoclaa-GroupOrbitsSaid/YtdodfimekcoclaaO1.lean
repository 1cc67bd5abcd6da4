/- Texts of one proof, joined: AiCode5, AiRun, AiTop, AiSeat, AiSimp, AiSym, F35, F32, Sort0, FLex, F23. Conditions: none of its own; each part names what it shows. -/
import Derived.Test.YtdodfimekcoclaaProg
import Derived.KernelRfl
import Derived.Test.YtdodfimekcoclaaO0
/- The abstract interpreter: a region whose order is drawn. Conditions: the callees' contracts; the region's check. -/
set_option linter.unusedVariables false
set_option linter.unusedSimpArgs false
namespace Go.AI
section
variable {K : Kx} {H : Heap} {p : Pl} {w : World}
theorem vld_of (hI : Inv K H p w) {x : AV} {u : Value} (hx : VR (kap K H p w) x u) : vld H x := by
  have key : ∀ b ver, (∃ v x, p b = some (v, x) ∧ ver ≤ v) → b < H.length ∧ ∀ l v cs, H[b]? = some (.cells l v cs) → ver ≤ v := by
    rintro b ver ⟨v, x, h1, h2⟩
    refine ⟨?_, fun l v' cs hc => ?_⟩
    · rcases Nat.lt_or_ge b H.length with h | h
      · exact h
      · rw [hI.dom b h] at h1; cases h1
    · obtain ⟨x', h3, _⟩ := hI.blk b _ hc
      have h3' : p b = some (v', x') := h3
      rw [h1] at h3'
      cases h3'
      exact h2
  cases x <;> simp only [vld]
  · simp only [VR] at hx
    obtain ⟨_, v, x, h1, h2, _⟩ := hx
    exact key _ _ ⟨v, x, h1, h2⟩
  · simp only [VR] at hx
    obtain ⟨_, v, x, h1, h2, _⟩ := hx
    exact key _ _ ⟨v, x, h1, h2⟩
theorem vldO_of (hI : Inv K H p w) {g : G} {a : Act} (hE : EnvR (kap K H p w) g a) (o : Oper) : vldO o g H := fun _ x _ b hb => vld_of hI (aev_sound hE hb)
theorem ready_iff {ops : Array Oper} {listed : Array Bool} {i : Nat} : i ∈ Region.ready .any ops listed ↔ i < ops.size ∧ listed.getD i true = false ∧ ∃ o, ops[i]? = some o ∧ ∀ e ∈ o.after.toList, Region.binds .any e = true → listed.getD e.on false = true := by
  unfold Region.ready
  simp only [List.mem_filter, List.mem_range, Bool.and_eq_true, Bool.not_eq_true']
  constructor
  · rintro ⟨h1, h2, h3⟩
    refine ⟨h1, h2, ?_⟩
    cases ho : ops[i]? with
    | none => simp [ho] at h3
    | some o =>
      refine ⟨o, rfl, fun e he hb => ?_⟩
      simp only [ho, Option.map_some, Option.getD_some, Array.all_eq_true_iff_forall_mem] at h3
      have := h3 e (Array.mem_def.2 he)
      simpa [hb] using this
  · rintro ⟨h1, h2, o, h3, h4⟩
    refine ⟨h1, h2, ?_⟩
    simp only [h3, Option.map_some, Option.getD_some, Array.all_eq_true_iff_forall_mem]
    intro e he
    cases hb : Region.binds .any e with
    | false => rfl
    | true => simpa [hb] using h4 e (Array.mem_def.1 he) hb
theorem okAny_on {sh : FuncId → Bool} {ops : Array Oper} (h : okAny sh ops = true) {j : Nat} {o : Oper} (ho : ops[j]? = some o) :
    (∀ e ∈ o.after.toList, Region.binds .any e = true → e.on < j) ∧ ∀ i, i < j → ∃ x, ops[i]? = some x ∧ (indep sh ops x o = true ∨ reach ops 3 j i = true) := by
  unfold okAny at h
  rw [List.all_eq_true] at h
  have := h j (by simpa using (Array.getElem?_eq_some_iff.1 ho).1)
  simp only [ho, Bool.and_eq_true, List.all_eq_true, decide_eq_true_eq, List.mem_range] at this
  refine ⟨fun e he hb => by have := this.1 e he; simpa [hb] using this, fun i hi => ?_⟩
  have h2 := this.2 i hi
  cases hx : ops[i]? with
  | none => simp [hx] at h2
  | some x => simp only [hx, Bool.or_eq_true] at h2; exact ⟨x, rfl, h2⟩
theorem any_sound {c : Cfg} {C : Cl} {ops : Array Oper} (hC : SoundC c C) (hok : okAny c.shared ops = true) {Q : Exit → Act → World → Prop} {n : Nat} (hd : ∀ o ∈ ops.toList, ∀ i, o.dst = some i → i < n) :
    ∀ (k : Nat) (l : List Nat) (listed : Array Bool) {g g' : G} {H H' : Heap} {p : Pl} {w : World} {a : Act},
    listed.size = ops.size → (∀ i, i < ops.size → (listed[i]? = some false ↔ i ∈ l)) → (∀ i ∈ l, i < ops.size) → l.Pairwise (· < ·) → l.length ≤ k → Shut ops listed →
    stepsG c C ops (l.filterMap (ops[·]?)) g H = some (g', H') → Inv K H p w → EnvR (kap K H p w) g a → a.tmps.size = n →
    (∀ a' w' p', Inv K H' p' w' → PK (kap K H p w) (kap K H' p' w') → EnvR (kap K H' p' w') g' a' → a'.tmps.size = n → a'.defers = a.defers → Q .normal a' w') → wpAny c.P .any ops Q k listed a w := by
  have done : ∀ (l : List Nat) (listed : Array Bool), listed.size = ops.size → (∀ i, i < ops.size → (listed[i]? = some false ↔ i ∈ l)) → (∀ i ∈ l, i < ops.size) → l.Pairwise (· < ·) → Region.ready .any ops listed = [] → l = [] := by
    intro l listed hsz hl hlt hp hr
    cases l with
    | nil => rfl
    | cons i rest =>
      exfalso
      have hi := hlt i (by simp)
      have : i ∈ Region.ready .any ops listed := by
        refine ready_iff.2 ⟨hi, ?_, ops[i], by simp [hi], fun e he hb => ?_⟩
        · have := (hl i hi).2 (by simp)
          simp [this]
        · have h1 := (okAny_on hok (j := i) (o := ops[i]) (by simp [hi])).1 e he hb
          have h2 : e.on < ops.size := by omega
          have h3 : listed[e.on]? ≠ some false := by
            rw [Ne, hl _ h2]
            intro hm
            rcases List.mem_cons.1 hm with hm | hm
            · omega
            · have := (List.pairwise_cons.1 hp).1 _ hm
              omega
          have h4 : e.on < listed.size := by omega
          have h5 : listed[e.on]? = some listed[e.on] := by simp [h4]
          rw [h5] at h3
          have h6 : listed[e.on] = true := by cases hq : listed[e.on] <;> simp_all
          simp [h5, h6]
      rw [hr] at this
      cases this
  intro k
  induction k with
  | zero =>
    intro l listed g g' H H' p w a hsz hl hlt hp hlen hs h hI hE ha hn
    have hl0 : l = [] := by cases l with | nil => rfl | cons => simp at hlen
    subst hl0
    cases h
    refine ⟨?_, hn a w p hI (PK.refl _) hE ha rfl⟩
    apply List.eq_nil_iff_forall_not_mem.2
    intro i hi
    obtain ⟨h1, h2, _⟩ := ready_iff.1 hi
    have h4 : i < listed.size := by omega
    have : listed[i]? = some false := by simpa [h4] using h2
    have := (hl i h1).1 this
    cases this
  | succ k ih =>
    intro l listed g g' H H' p w a hsz hl hlt hp hlen hs h hI hE ha hn
    refine ⟨fun hr => ?_, fun i hi => ?_⟩
    · have := done l listed hsz hl hlt hp hr
      subst this
      cases h
      exact hn a w p hI (PK.refl _) hE ha rfl
    · obtain ⟨h1, h2, o, ho, h3⟩ := ready_iff.1 hi
      have hil : i < listed.size := by omega
      have hmem : i ∈ l := (hl i h1).1 (by simpa [hil] using h2)
      have h3' : ∀ o', ops[i]? = some o' → ∀ e ∈ o'.after.toList, Region.binds .any e = true → listed[e.on]? = some true := by
        intro o' ho' e he hb
        rw [ho] at ho'; cases ho'
        have := h3 e he hb
        cases hq : listed[e.on]? with
        | none => simp [hq] at this
        | some b => simp [hq] at this; rw [this]
      obtain ⟨pre, post, rfl⟩ := List.append_of_mem hmem
      have hpre : ∀ x ∈ pre, x < i := fun x hx => (List.pairwise_append.1 hp).2.2 x hx i (by simp)
      rw [List.filterMap_append, List.filterMap_cons, ho] at h
      have hind : ∀ x ∈ pre.filterMap (ops[·]?), indep c.shared ops x o = true := by
        intro x hx
        obtain ⟨j, hj, hxj⟩ := List.mem_filterMap.1 hx
        obtain ⟨x', hx', h4⟩ := (okAny_on hok ho).2 j (hpre j hj)
        rw [hxj] at hx'; cases hx'
        rcases h4 with h4 | h4
        · exact h4
        · have h5 := reach_listed hs 3 i j h3' h4
          have h6 := (hl j (hlt j (by simp [hj]))).2 (by simp [hj])
          rw [h5] at h6; cases h6
      obtain ⟨g1, H1, k1, k2⟩ := bubble hind (vldO_of hI hE o) h
      unfold wpOp
      simp only [ho]
      have hoi : o ∈ ops.toList := by
        have := Array.mem_of_getElem? ho
        exact Array.mem_def.1 this
      refine step_sound hC k1 hI hE (fun j hj => by rw [ha]; exact hd o hoi j hj) fun a' w' p' i1 i2 i3 i4 i5 => ?_
      refine ih (pre ++ post) (listed.setIfInBounds i true) (by simpa using hsz) (fun j hj => ?_) (fun j hj => hlt j (by simp at hj ⊢; rcases hj with hj | hj; exact .inl hj; exact .inr (.inr hj))) ?_ (by simp at hlen ⊢; omega) ?_ (by rw [List.filterMap_append]; exact k2) i1 i3 (by rw [i4, ha])
        fun a2 w2 p2 j1 j2 j3 j4 j5 => hn a2 w2 p2 j1 (i2.trans j2) j3 j4 (by rw [j5, i5])
      · by_cases hji : j = i
        · subst hji
          have hnot : j ∉ pre ++ post := by
            intro hm
            rcases List.mem_append.1 hm with hm | hm
            · exact absurd (hpre j hm) (Nat.lt_irrefl _)
            · have := (List.pairwise_cons.1 (List.pairwise_append.1 hp).2.1).1 j hm
              exact absurd this (Nat.lt_irrefl _)
          simp only [hnot, iff_false]
          simp [hil]
        · rw [Array.getElem?_setIfInBounds_ne (Ne.symm hji), hl j hj]
          simp [hji]
      · have := hp
        rw [List.pairwise_append] at this ⊢
        exact ⟨this.1, (List.pairwise_cons.1 this.2.1).2, fun x hx y hy => this.2.2 x hx y (by simp [hy])⟩
      · intro j o' hj ho' e he hb
        by_cases hei : e.on = i
        · rw [hei]; simp [hil]
        · rw [Array.getElem?_setIfInBounds_ne (Ne.symm hei)]
          by_cases hji : j = i
          · subst hji; exact h3' o' ho' e he hb
          · rw [Array.getElem?_setIfInBounds_ne (Ne.symm hji)] at hj
            exact hs j o' hj ho' e he hb
theorem filter_range (ops : Array Oper) : ∀ (l : List Oper) (k : Nat), (∀ j, l[j]? = ops[k + j]?) → (List.range' k l.length).filterMap (ops[·]?) = l
  | [], k, _ => rfl
  | o :: l, k, h => by
    have h0 : ops[k]? = some o := by simpa using (h 0).symm
    have ih := filter_range ops l (k + 1) (fun j => by have := h (j + 1); simpa [Nat.add_assoc, Nat.add_comm 1 j] using this)
    simp only [List.length_cons, List.range'_succ, List.filterMap_cons, h0, ih]
/-- A region, drawn or not. -/
theorem region_sound {c : Cfg} {C : Cl} {ops : Array Oper} {id : Nat} {dr : Bool} (hC : SoundC c C) (hm : c.P.follows .mixedOrders = true) (hok : dr = true → okAny c.shared ops = true) {Q : Exit → Act → World → Prop} {n : Nat} (hd : ∀ o ∈ ops.toList, ∀ i, o.dst = some i → i < n)
    {e e' : Env} {H' : Heap} {a : Act} (h : aops c C ops ops.toList e H = some (e', H')) (hI : Inv K H p w) (hE : EnvR (kap K H p w) e.get a) (ha : a.tmps.size = n)
    (hn : ∀ a' w' p', Inv K H' p' w' → PK (kap K H p w) (kap K H' p' w') → EnvR (kap K H' p' w') e'.get a' → a'.tmps.size = n → a'.defers = a.defers → Q .normal a' w') : (Code.region id ops dr).wp c.P Q a w := by
  have hs := aops_G h
  cases dr with
  | false => exact wp_region_list (steps_sound hC ops.toList hs hI hE ha hd hn)
  | true =>
    refine wp_region_any hm ?_
    obtain ⟨f1, f2⟩ := frame_sound hI (w' := { w with drawn := w.drawn + 1 }) (fun i _ => rfl) (Nat.le_refl _) rfl rfl rfl (fun _ => rfl)
    refine any_sound hC (hok rfl) hd ops.size (List.range ops.size) _ (by simp) (fun i hi => by simp [hi]) (fun i hi => by simpa using hi) List.pairwise_lt_range (by simp) ?_ ?_ f1 (hE.mono f2) ha
      fun a' w' p' i1 i2 i3 i4 i5 => hn a' w' p' i1 (f2.trans i2) i3 i4 i5
    · intro j o hj ho e he hb
      exfalso
      rw [Array.getElem?_replicate] at hj
      split at hj <;> cases hj
    · rw [List.range_eq_range', ← Array.length_toList, filter_range ops ops.toList 0 (by simp)]; exact hs
end
end Go.AI

/- The abstract interpreter: code and functions. Conditions: the callees' contracts; a check of the function's text. -/
set_option linter.unusedVariables false
set_option linter.unusedSimpArgs false
namespace Go.AI

/-! ### What goes on to be true, for the blocks that are kept -/
structure PKB (B : Nat → Prop) (κ κ' : Kap) : Prop where
  cell : ∀ a u, ¬ κ.A a.block → κ.w.cell? a = some u → κ'.w.cell? a = some u
  avo : ∀ b, κ'.A b → κ.A b ∨ κ.w.heap.size ≤ b
  size : κ.w.heap.size ≤ κ'.w.heap.size
  row : ∀ b k, RowSz κ.w b k → RowSz κ'.w b k
  pl : ∀ b v x, B b → κ.p b = some (v, x) → ∃ v' x', κ'.p b = some (v', x') ∧ ((v' = v ∧ x' = x) ∨ v < v')
theorem PK.toB {κ κ' : Kap} (B : Nat → Prop) (h : PK κ κ') : PKB B κ κ' := ⟨h.cell, h.avo, h.size, h.row, fun b v x _ hp => h.pl b v x hp⟩
theorem PKB.toPK {κ κ' : Kap} {B : Nat → Prop} (h : PKB B κ κ') (hB : ∀ b, B b) : PK κ κ' := ⟨h.cell, h.avo, h.size, h.row, fun b v x hp => h.pl b v x (hB b) hp⟩
theorem PKB.refl (B : Nat → Prop) (κ : Kap) : PKB B κ κ := (PK.refl κ).toB B
theorem PKB.trans {B : Nat → Prop} {κ κ' κ'' : Kap} (h : PKB B κ κ') (h' : PKB B κ' κ'') : PKB B κ κ'' := by
  refine ⟨fun a u hA hc => h'.cell a u (fun h1 => ?_) (h.cell a u hA hc), fun b hb => ?_, Nat.le_trans h.size h'.size, fun b k hr => h'.row b k (h.row b k hr), fun b v x hB hp => ?_⟩
  · rcases h.avo _ h1 with h2 | h2
    · exact hA h2
    · have := World.block_lt_of_cell? _ _ hc
      omega
  · rcases h'.avo b hb with h1 | h1
    · exact h.avo b h1
    · exact .inr (Nat.le_trans h.size h1)
  · obtain ⟨v1, x1, h1, h2⟩ := h.pl b v x hB hp
    obtain ⟨v2, x2, h3, h4⟩ := h'.pl b v1 x1 hB h1
    refine ⟨v2, x2, h3, ?_⟩
    rcases h2 with ⟨rfl, rfl⟩ | h2
    · exact h4
    · rcases h4 with ⟨rfl, rfl⟩ | h4
      · exact .inr h2
      · exact .inr (Nat.lt_trans h2 h4)

/-! ### Fewer blocks -/
structure Cut (m : Nat) (κ κ' : Kap) : Prop where
  w : κ'.w = κ.w
  avo : ∀ b, κ'.A b → κ.A b
  pl : ∀ b, b < m → κ'.p b = κ.p b
mutual
theorem VR.cut {m : Nat} {κ κ' : Kap} (h : Cut m κ κ') : ∀ (x : AV) (u : Value), x.under m = true → VR κ x u → VR κ' x u
  | .v _, u, hm, hx => by simp only [VR] at hx ⊢; exact hx
  | .sl full n cs, u, hm, hx => by
    simp only [VR] at hx ⊢
    obtain ⟨ad, cap, h1, h2, h3, h4, h5, us, h6, h7⟩ := hx
    refine ⟨ad, cap, h1, h2, h3, h4, h5, us, VRs.cutGood h cs us h5 h6, ?_⟩
    cases ad with
    | none => exact h7
    | some a => exact ⟨h7.1, fun j u hj => by rw [h.w]; exact h7.2.1 j u hj, fun hne hA => h7.2.2.1 hne (h.avo _ hA), h7.2.2.2⟩
  | .pt cs off, u, hm, hx => by
    simp only [VR] at hx ⊢
    obtain ⟨b, o, h1, h2, us, h3, h4⟩ := hx
    exact ⟨b, o, h1, h2, us, VRs.cutGood h cs us h2 h3, fun j u hj => by rw [h.w]; exact h4.1 j u hj, fun hne hA => h4.2.1 hne (h.avo _ hA), h4.2.2⟩
  | .ms b ver off n sz, u, hm, hx => by
    simp only [VR, AV.under, decide_eq_true_eq] at hx hm ⊢
    rw [h.pl b hm, h.w]
    exact hx
  | .mp b ver off, u, hm, hx => by
    simp only [VR, AV.under, decide_eq_true_eq] at hx hm ⊢
    rw [h.pl b hm]
    exact hx
  | .mm b, u, hm, hx => by
    simp only [VR, AV.under, decide_eq_true_eq] at hx hm ⊢
    rw [h.pl b hm]
    exact hx
  | .ag cs, u, hm, hx => by
    simp only [VR, AV.under] at hx hm ⊢
    obtain ⟨us, h1, h2, h3⟩ := hx
    exact ⟨us, h1, VRs.cut h cs us hm h2, h3⟩
  | .tu cs, u, hm, hx => by
    simp only [VR, AV.under] at hx hm ⊢
    obtain ⟨us, h1, h2⟩ := hx
    exact ⟨us, h1, VRs.cut h cs us hm h2⟩
  | .fn f cs, u, hm, hx => by
    simp only [VR, AV.under] at hx hm ⊢
    obtain ⟨us, h1, h2⟩ := hx
    exact ⟨us, h1, VRs.cut h cs us hm h2⟩
theorem VRs.cut {m : Nat} {κ κ' : Kap} (h : Cut m κ κ') : ∀ (xs : List AV) (us : List Value), underL m xs = true → VRs κ xs us → VRs κ' xs us
  | [], us, hm, hx => by simp only [VRs] at hx ⊢; exact hx
  | x :: r, us, hm, hx => by
    simp only [VRs, underL, Bool.and_eq_true] at hx hm ⊢
    obtain ⟨u, s, h1, h2, h3⟩ := hx
    exact ⟨u, s, h1, VR.cut h x u hm.1 h2, VRs.cut h r s hm.2 h3⟩
theorem VR.cutGood {m : Nat} {κ κ' : Kap} (h : Cut m κ κ') : ∀ (x : AV) (u : Value), x.good = true → VR κ x u → VR κ' x u
  | .v _, u, hm, hx => by simp only [VR] at hx ⊢; exact hx
  | .sl full n cs, u, hm, hx => VR.cut h (.sl full n cs) u rfl hx
  | .pt cs off, u, hm, hx => VR.cut h (.pt cs off) u rfl hx
  | .ms b ver off n sz, u, hm, hx => by cases hm
  | .mp b ver off, u, hm, hx => by cases hm
  | .mm b, u, hm, hx => by cases hm
  | .ag cs, u, hm, hx => by
    simp only [VR, AV.good] at hx hm ⊢
    obtain ⟨us, h1, h2, h3⟩ := hx
    exact ⟨us, h1, VRs.cutGood h cs us hm h2, h3⟩
  | .tu cs, u, hm, hx => by
    simp only [VR, AV.good] at hx hm ⊢
    obtain ⟨us, h1, h2⟩ := hx
    exact ⟨us, h1, VRs.cutGood h cs us hm h2⟩
  | .fn f cs, u, hm, hx => by
    simp only [VR, AV.good] at hx hm ⊢
    obtain ⟨us, h1, h2⟩ := hx
    exact ⟨us, h1, VRs.cutGood h cs us hm h2⟩
theorem VRs.cutGood {m : Nat} {κ κ' : Kap} (h : Cut m κ κ') : ∀ (xs : List AV) (us : List Value), goodL xs = true → VRs κ xs us → VRs κ' xs us
  | [], us, hm, hx => by simp only [VRs] at hx ⊢; exact hx
  | x :: r, us, hm, hx => by
    simp only [VRs, goodL, Bool.and_eq_true] at hx hm ⊢
    obtain ⟨u, s, h1, h2, h3⟩ := hx
    exact ⟨u, s, h1, VR.cutGood h x u hm.1 h2, VRs.cutGood h r s hm.2 h3⟩
end
section
variable {K : Kx} {H : Heap} {p : Pl} {w : World}
theorem BlkR.cut {m : Nat} {κ κ' : Kap} (h : Cut m κ κ') {b : Nat} (hb : b < m) : ∀ {x : AB}, x.under m = true → BlkR κ b x → BlkR κ' b x
  | .cells live ver cs, hm, hx => by
    obtain ⟨x, h1, h2⟩ := hx
    refine ⟨x, by rw [h.pl b hb]; exact h1, ?_⟩
    cases x with
    | none => exact h2
    | some q =>
      obtain ⟨rb, o⟩ := q
      obtain ⟨c, e, fr, us, r1, r2, r3, r4, r5⟩ := h2
      exact ⟨c, e, fr, us, by rw [h.w]; exact r1, VRs.cut h cs us hm r2, r3, r4, r5⟩
  | .map es, hm, hx => by
    obtain ⟨rb, ents, clock, h1, h2, h3⟩ := hx
    refine ⟨rb, ents, clock, by rw [h.pl b hb]; exact h1, by rw [h.w]; exact h2, ?_⟩
    have key : ∀ (es : List (AV × AV)) (xs : List MapEntry), (es.all fun p => p.1.under m && p.2.under m) = true → EntR κ es xs → EntR κ' es xs := by
      intro es
      induction es with
      | nil => intro xs _ h; exact h
      | cons e r ih =>
        intro xs hm hx
        obtain ⟨k, x⟩ := e
        obtain ⟨e', s, rfl, q1, q2, q3⟩ := hx
        simp only [List.all_cons, Bool.and_eq_true] at hm
        exact ⟨e', s, rfl, VR.cut h k _ hm.1.1 q1, VR.cut h x _ hm.1.2 q2, ih s hm.2 q3⟩
    exact key es _ hm h3
theorem Env.get_mem : ∀ {e : Env} {t : Nat} {x : AV}, e.get t = some x → (t, x) ∈ e
  | [], t, x, h => by cases h
  | (j, y) :: r, t, x, h => by
    simp only [Env.get] at h
    split at h
    · rename_i hj; subst hj; cases h; simp
    · exact List.mem_cons_of_mem _ (Env.get_mem h)
theorem Env.get_keep {ks : List Nat} : ∀ {e : Env} {t : Nat} {x : AV}, (e.keep ks).get t = some x → e.get t = some x
  | [], t, x, h => by cases h
  | (j, y) :: r, t, x, h => by
    simp only [Env.keep] at h
    simp only [Env.get]
    split at h
    · simp only [Env.get] at h
      split at h
      · rename_i hj; rw [if_pos hj]; exact h
      · rename_i hj; rw [if_neg hj]; exact Env.get_keep h
    · rename_i hk
      have h2 := Env.get_keep h
      split
      · rename_i hj
        subst hj
        exfalso
        have hm : ∀ {e : Env}, (e.keep ks).get j = some x → ks.contains j = true := by
          intro e
          induction e with
          | nil => intro h; cases h
          | cons q r ih =>
            obtain ⟨i, z⟩ := q
            intro h
            simp only [Env.keep] at h
            split at h
            · rename_i hi
              simp only [Env.get] at h
              split at h
              · rename_i hij; subst hij; exact hi
              · exact ih h
            · exact ih h
        exact hk (hm h)
      · exact h2
theorem EnvR.sub {κ : Kap} {g g' : G} {a : Act} (h : ∀ t x, g' t = some x → g t = some x) (hE : EnvR κ g a) : EnvR κ g' a := fun t x ht => hE t x (h t x ht)
theorem truncA_sound (hI : Inv K H p w) {m : Nat} {e : Env} {s : St} {a : Act} (h : truncA m (e, H) = some s) (hE : EnvR (kap K H p w) e.get a) :
    ∃ p', Inv K s.2 p' w ∧ PKB (fun _ => False) (kap K H p w) (kap K s.2 p' w) ∧ EnvR (kap K s.2 p' w) s.1.get a := by
  unfold truncA at h
  split at h
  · rename_i hc
    simp only [Bool.and_eq_true, List.all_eq_true] at hc
    cases h
    let p' : Pl := fun b => if b < m then p b else none
    have hlen : ∀ i, i < (H.take m).length → i < m ∧ i < H.length := fun i hi => by simp at hi; omega
    have hget : ∀ i x, (H.take m)[i]? = some x → i < m ∧ H[i]? = some x := by
      intro i x hx
      have hi := (List.getElem?_eq_some_iff.1 hx).1
      have := hlen i hi
      refine ⟨this.1, ?_⟩
      rw [List.getElem?_take] at hx
      rw [if_pos this.1] at hx
      exact hx
    have hlv : ∀ b rb, LiveAt (H.take m) p' b rb → LiveAt H p b rb := by
      rintro b rb ⟨x, v, o, h1, h2, h3⟩
      obtain ⟨g1, g2⟩ := hget _ _ h1
      refine ⟨x, v, o, g2, h2, ?_⟩
      simpa [p', g1] using h3
    have hcut : Cut m (kap K H p w) (kap K (H.take m) p' w) := by
      refine ⟨rfl, fun b hb => ?_, fun b hb => by simp [kap, p', hb]⟩
      rcases hb with hb | ⟨i, hi⟩
      · exact .inl hb
      · exact .inr ⟨i, hlv i b hi⟩
    refine ⟨p', ⟨fun b x hx => ?_, fun b b' v o v' o' rb hb hb' h1 h2 => ?_, fun b v o rb hb h1 => ?_, fun b rb hl => hI.old b rb (hlv b rb hl), hI.fsz, hI.ext, fun b hb => ?_⟩, ⟨fun a u _ h => h, fun b hb => .inl (hcut.avo b hb), Nat.le_refl _, fun _ _ h => h, fun b v x hB => hB.elim⟩, ?_⟩
    · obtain ⟨g1, g2⟩ := hget b x hx
      exact BlkR.cut hcut g1 (hc.2 x (List.mem_of_getElem? hx)) (hI.blk b x g2)
    · have g := hlen b hb
      have g' := hlen b' hb'
      simp only [p', g.1, g'.1, if_true] at h1 h2
      exact hI.inj b b' v o v' o' rb g.2 g'.2 h1 h2
    · have g := hlen b hb
      simp only [p', g.1, if_true] at h1
      exact hI.dis b v o rb g.2 h1
    · simp only [p']
      split
      · rename_i hbm
        refine hI.dom b ?_
        simp at hb
        omega
      · rfl
    · intro t x ht
      have hu := hc.1 (t, x) (Env.get_mem ht)
      exact VR.cut hcut x _ hu (hE t x ht)
  · cases h
theorem closeSlots_sound : ∀ (cl : List Nat) {H : Heap} {e : Env} {s : St} {a : Act}, Inv K H p w → closeSlots cl (e, H) = some s → EnvR (kap K H p w) e.get a →
    Inv K s.2 p w ∧ PK (kap K H p w) (kap K s.2 p w) ∧ EnvR (kap K s.2 p w) s.1.get a
  | [], H, e, s, a, hI, h, hE => by cases h; exact ⟨hI, PK.refl _, hE⟩
  | t :: r, H, e, s, a, hI, h, hE => by
    obtain ⟨x, hx, h⟩ := obind_eq h
    obtain ⟨⟨y, bs⟩, hq, h⟩ := obind_eq h
    have hu := hE t x hx
    obtain ⟨c1, c2, c3, c4⟩ := closeA_sound hI depthA x y bs _ hq hu
    obtain ⟨m1, m2, m3, m4⟩ := mark_sound bs hI
    have hy : VR (kap K (markA H bs) p w) y (a.tmps.getD t undef) := by
      refine c4 _ rfl fun rb hA => ?_
      rcases hA with hA | ⟨i, hi⟩
      · refine ⟨.inl hA, fun b hb v o hp => ?_⟩
        obtain ⟨l, vv, cs, hc⟩ := c3 b hb
        exact hI.dis b v o rb (List.getElem?_eq_some_iff.1 hc).1 hp hA
      · obtain ⟨n1, n2⟩ := m4 i rb hi
        refine ⟨.inr ⟨i, n1⟩, fun j hj v o hp => ?_⟩
        obtain ⟨l, vv, cs, hc⟩ := c3 j hj
        obtain ⟨x, v', o', q1, q2, q3⟩ := n1
        have : i = j := hI.inj i j _ _ _ _ rb (List.getElem?_eq_some_iff.1 q1).1 (List.getElem?_eq_some_iff.1 hc).1 q3 hp
        subst this
        exact n2 hj (c3 i hj)
    have hE' : EnvR (kap K (markA H bs) p w) (e.put t y).get a := by
      intro i z hz
      rw [get_put] at hz
      split at hz
      · rename_i h; subst h; cases hz; exact hy
      · exact (hE i z hz).mono' m2
    obtain ⟨k1, k2, k3⟩ := closeSlots_sound r m1 h hE'
    exact ⟨k1, m2.trans k2, k3⟩
theorem headA_sound (hI : Inv K H p w) {an : Option Ann} {e : Env} {s : St} {a : Act} {B : Nat → Prop} (hB : ∀ i o cl m z, an = some (i, o, cl, some m, z) → ∀ b, ¬ B b)
    (h : headA an (e, H) = some s) (hE : EnvR (kap K H p w) e.get a) : ∃ p', Inv K s.2 p' w ∧ PKB B (kap K H p w) (kap K s.2 p' w) ∧ EnvR (kap K s.2 p' w) s.1.get a := by
  unfold headA at h
  split at h
  · cases h; exact ⟨p, hI, PKB.refl _ _, hE⟩
  · rename_i inn out cl tr cz
    obtain ⟨s', hs, h⟩ := obind_eq h
    obtain ⟨k1, k2, k3⟩ := closeSlots_sound cl hI hs (hE.sub fun t x => Env.get_keep)
    cases tr with
    | none => cases h; exact ⟨p, k1, k2.toB B, k3⟩
    | some m =>
      obtain ⟨p', q1, q2, q3⟩ := truncA_sound (e := s'.1) k1 h k3
      refine ⟨p', q1, (k2.toB B).trans ⟨q2.cell, q2.avo, q2.size, q2.row, fun b v x hb => absurd hb (hB _ _ _ _ _ rfl b)⟩, q3⟩
end

theorem pruneA_sound {κ : Kap} {an : Option (List Nat)} {e : Env} {a : Act} (hE : EnvR κ e.get a) : EnvR κ (pruneA an e).get a := by
  unfold pruneA
  split
  · exact hE
  · exact hE.sub fun t x => Env.get_keep
theorem exitA_sound {κ : Kap} {an : Option Ann} {e : Env} {a : Act} (hE : EnvR κ e.get a) : EnvR κ (exitA an e).get a := by
  unfold exitA
  split
  · exact hE
  · exact hE.sub fun t x => Env.get_keep

/-! ### Code -/
def okCode (n : Nat) (sh : FuncId → Bool) : Code → Bool
  | .region _ ops dr => (ops.toList.all fun o => match o.dst with | some d => decide (d < n) | none => true) && (!dr || okAny sh ops)
  | .seq a b => okCode n sh a && okCode n sh b
  | .cond _ a b => okCode n sh a && okCode n sh b
  | .block _ a => okCode n sh a
  | .loop a => okCode n sh a
  | _ => true
def Ex.toExit : Ex → Exit
  | .normal => .normal
  | .exit id => .exit id
  | .ret => .ret
theorem arun_sound {c : Cfg} {C : Cl} {f : FuncId} {N n m : Nat} {B : Nat → Prop} (hC : SoundC c C) (hm : c.P.follows .mixedOrders = true) (hmn : m ≤ n)
    (hB : ∀ k i o cl m z, c.ann f k = some (i, o, cl, some m, z) → ∀ b, ¬ B b) : ∀ (code : Code) (k : Nat), okCode m c.shared code = true → ∀ {e : Env} {H : Heap} {x : Ex} {e' : Env} {H' : Heap},
    arun c f (iterN N) C k code e H = some (x, (e', H')) → ∀ {K : Kx} {p : Pl} {w : World} {a : Act} {Q : Exit → Act → World → Prop}, Inv K H p w → EnvR (kap K H p w) e.get a → a.tmps.size = n →
    (∀ a' w' p', Inv K H' p' w' → PKB B (kap K H p w) (kap K H' p' w') → EnvR (kap K H' p' w') e'.get a' → a'.tmps.size = n → a'.defers = a.defers → Q x.toExit a' w') → code.wp c.P Q a w := by
  intro code
  induction code with
  | skip =>
    intro k hok e H x e' H' h K p w a Q hI hE ha hn
    cases h
    exact wp_skip (hn a w p hI (PKB.refl _ _) hE ha rfl)
  | region id ops dr =>
    intro k hok e H x e' H' h K p w a Q hI hE ha hn
    simp only [arun] at h
    obtain ⟨s, hs, h⟩ := obind_eq h
    cases h
    simp only [okCode, Bool.and_eq_true, List.all_eq_true] at hok
    refine region_sound hC hm (fun hd => ?_) (n := n) (fun o ho i hi => ?_) hs hI hE ha fun a' w' p' i1 i2 i3 i4 i5 => hn a' w' p' i1 (i2.toB B) (pruneA_sound i3) i4 i5
    · have := hok.2
      simpa [hd] using this
    · have := hok.1 o ho
      rw [hi] at this
      have h2 : i < m := by simpa using this
      exact Nat.lt_of_lt_of_le h2 hmn
  | seq u v ihu ihv =>
    intro k hok e H x e' H' h K p w a Q hI hE ha hn
    simp only [arun] at h
    simp only [okCode, Bool.and_eq_true] at hok
    obtain ⟨⟨x1, e1, H1⟩, hs, h⟩ := obind_eq h
    refine wp_seq (ihu k hok.1 hs hI hE ha fun a' w' p' i1 i2 i3 i4 i5 => ?_)
    cases x1 with
    | normal =>
      exact ihv k hok.2 h i1 i3 i4 fun a2 w2 p2 j1 j2 j3 j4 j5 => hn a2 w2 p2 j1 (i2.trans j2) j3 j4 (by rw [j5, i5])
    | exit id => cases h; exact hn a' w' p' i1 i2 i3 i4 i5
    | ret => cases h; exact hn a' w' p' i1 i2 i3 i4 i5
  | cond o u v ihu ihv =>
    intro k hok e H x e' H' h K p w a Q hI hE ha hn
    simp only [arun, acond] at h
    simp only [okCode, Bool.and_eq_true] at hok
    split at h
    · rename_i t ht
      have hv := (aev_sound hE ht).v_eq
      refine wp_cond hv ?_
      cases t with
      | true => exact ihu k hok.1 h hI hE ha hn
      | false => exact ihv k hok.2 h hI hE ha hn
    · cases h
  | block id u ihu =>
    intro k hok e H x e' H' h K p w a Q hI hE ha hn
    simp only [arun, blockA] at h
    simp only [okCode] at hok
    obtain ⟨⟨x1, e1, H1⟩, hs, h⟩ := obind_eq h
    have tail : ∀ {K : Kx} {p : Pl} {w : World} {a : Act} {s : St}, Inv K H1 p w → EnvR (kap K H1 p w) e1.get a → tailA (c.ann f id) e1 H1 = some s →
        Inv K s.2 p w ∧ PK (kap K H1 p w) (kap K s.2 p w) ∧ EnvR (kap K s.2 p w) s.1.get a := by
      intro K p w a s hI hE hs
      unfold tailA at hs
      split at hs
      · cases hs; exact ⟨hI, PK.refl _, hE⟩
      · exact closeSlots_sound _ hI hs (hE.sub fun t x => Env.get_keep)
    refine wp_block (ihu id hok hs hI hE ha fun a' w' p' i1 i2 i3 i4 i5 => ?_)
    cases x1 with
    | normal =>
      obtain ⟨s, hs, h⟩ := obind_eq h
      cases h
      obtain ⟨t1, t2, t3⟩ := tail i1 i3 hs
      exact hn a' w' p' t1 (i2.trans (t2.toB B)) t3 i4 i5
    | exit j =>
      simp only at h
      split at h
      · rename_i hj
        obtain ⟨s, hs, h⟩ := obind_eq h
        cases h
        obtain ⟨t1, t2, t3⟩ := tail i1 i3 hs
        simp only [Ex.toExit, Exit.inBlock, hj, if_true]
        exact hn a' w' p' t1 (i2.trans (t2.toB B)) t3 i4 i5
      · rename_i hj
        cases h
        simp only [Ex.toExit, Exit.inBlock, hj, if_false]
        exact hn a' w' p' i1 i2 i3 i4 i5
    | ret => cases h; exact hn a' w' p' i1 i2 i3 i4 i5
  | loop u ihu =>
    intro k hok e H x e' H' h K p w a Q hI hE ha hn
    simp only [arun] at h
    simp only [okCode] at hok
    obtain ⟨s0, hh, h⟩ := obind_eq h
    obtain ⟨p0, k1, k2, k3⟩ := headA_sound hI (fun i o cl m z hm => hB k i o cl m z hm) hh hE
    refine wp_loop_rounds N ?_
    have key : ∀ (M : Nat) {s : St} {p : Pl} {w : World} {a : Act}, iterN M (fun s => obind (arun c f (iterN N) C k u s.1 s.2) (endA (c.ann f k))) s = some (x, (e', H')) → Inv K s.2 p w → EnvR (kap K s.2 p w) s.1.get a → a.tmps.size = n →
        (∀ a' w' p', Inv K H' p' w' → PKB B (kap K s.2 p w) (kap K H' p' w') → EnvR (kap K H' p' w') e'.get a' → a'.tmps.size = n → a'.defers = a.defers → Q x.toExit a' w') → Code.rounds c.P u Q M a w := by
      intro M
      induction M with
      | zero => intro s p w a h; cases h
      | succ M ih =>
        intro s p w a h hI hE ha hn
        rw [rounds_succ]
        unfold iterN at h
        obtain ⟨⟨x1, e1, H1⟩, hs, h⟩ := obind_eq h
        obtain ⟨⟨x2, e2, H2⟩, hs, he⟩ := obind_eq hs
        refine ihu k hok hs hI hE ha fun a' w' p' i1 i2 i3 i4 i5 => ?_
        cases x2 with
        | normal =>
          obtain ⟨s', hh', he⟩ := obind_eq he
          cases he
          obtain ⟨p1, q1, q2, q3⟩ := headA_sound i1 (fun i o cl m z hm => hB k i o cl m z hm) hh' i3
          exact ih h q1 q3 i4 fun a2 w2 p2 j1 j2 j3 j4 j5 => hn a2 w2 p2 j1 ((i2.trans q2).trans j2) j3 j4 (by rw [j5, i5])
        | exit id => cases he; cases h; exact hn a' w' p' i1 i2 i3 i4 i5
        | ret => cases he; cases h; exact hn a' w' p' i1 i2 i3 i4 i5
    exact key N h k1 k3 ha fun a' w' p' i1 i2 i3 i4 i5 => hn a' w' p' i1 (k2.trans i2) i3 i4 i5
  | exit id =>
    intro k hok e H x e' H' h K p w a Q hI hE ha hn
    cases h
    exact wp_exit (hn a w p hI (PKB.refl _ _) (exitA_sound hE) ha rfl)
  | label l =>
    intro k hok e H x e' H' h K p w a Q hI hE ha hn
    cases h
    exact wp_label (hn a w p hI (PKB.refl _ _) hE ha rfl)
  | ret =>
    intro k hok e H x e' H' h K p w a Q hI hE ha hn
    cases h
    exact wp_ret (hn a w p hI (PKB.refl _ _) (exitA_sound hE) ha rfl)
  | _ =>
    intro k hok e H x e' H' h
    cases h

/-! ### Functions -/
def resVal (tmps : Array Value) (r : ResultVar) : Sem Value := match r with
  | .tmp t => pure (tmps.getD t undef)
  | .cell q t => do loadVar t (← asAddr (tmps.getD q undef))
theorem resA_sound {P : Program} {K : Kx} {H : Heap} {p : Pl} {w : World} {g : G} {a : Act} (hI : Inv K H p w) (hE : EnvR (kap K H p w) g a) : ∀ {rs : List ResultVar} {xs : List AV}, resA P H g rs = some xs →
    ∃ us : List Value, VRs (kap K H p w) xs us ∧ (rs.mapM (resVal a.tmps)).run P w = .ok us w
  | [], xs, h => by cases h; exact ⟨[], .nil, by simp⟩
  | .tmp t :: r, xs, h => by
    obtain ⟨x, hx, h⟩ := obind_eq h
    obtain ⟨ys, hy, h⟩ := obind_eq h
    cases h
    obtain ⟨us, h1, h2⟩ := resA_sound hI hE hy
    refine ⟨_ :: us, .cons (hE t x hx) h1, ?_⟩
    simp [List.mapM_cons, resVal, h2]
  | .cell q t :: r, xs, h => by
    obtain ⟨pv, hp, h⟩ := obind_eq h
    obtain ⟨x, hx, h⟩ := obind_eq h
    obtain ⟨ys, hy, h⟩ := obind_eq h
    cases h
    obtain ⟨us, h1, h2⟩ := resA_sound hI hE hy
    obtain ⟨⟨cs, off⟩, g1, g2⟩ := obind_eq hx
    obtain ⟨b, o, vs, g3, g4, g5, g6⟩ := cellsAt_sound hI g1 (hE q pv hp)
    obtain ⟨y, hy', _, hl⟩ := partA_sound g2 g3 g5
    refine ⟨y :: us, .cons hy' h1, ?_⟩
    have : (resVal a.tmps (.cell q t)).run P w = .ok y w := by
      simp only [resVal, g6, asAddr, Sem.run_bind, Sem.run_pure, Result.andThen_ok]
      exact hl w b o g4
    simp [List.mapM_cons, this, h2]
theorem results_sound {P : Program} {K : Kx} {H : Heap} {p : Pl} {w : World} {g : G} {a : Act} {fn : Func} (hI : Inv K H p w) (hE : EnvR (kap K H p w) g a) {xs : List AV} (h : resA P H g fn.results.toList = some xs) :
    ∃ u, VR (kap K H p w) (tupA xs) u ∧ (results fn a.tmps).run P w = .ok u w := by
  obtain ⟨us, h1, h2⟩ := resA_sound hI hE h
  have h3 : (fn.results.mapM (resVal a.tmps)).run P w = .ok us.toArray w := by
    rw [Array.mapM_eq_mapM_toList]
    simp [h2]
  have h4 : (results fn a.tmps).run P w = .ok (if h : us.toArray.size = 1 then us.toArray[0] else .tuple us.toArray) w := by
    have : results fn a.tmps = (do
      let vs ← fn.results.mapM (resVal a.tmps)
      pure (if h : vs.size = 1 then vs[0] else .tuple vs)) := by
      unfold results
      congr 2
    rw [this]
    simp [h3]
  rw [h4]
  refine ⟨_, ?_, rfl⟩
  cases xs with
  | nil =>
    rw [h1.nil_eq]
    simp only [tupA, VR]
    exact ⟨[], by simp, .nil⟩
  | cons x r =>
    obtain ⟨u, s, rfl, hu, hr⟩ := h1.uncons
    cases r with
    | nil =>
      rw [hr.nil_eq]
      simpa [tupA] using hu
    | cons y r =>
      obtain ⟨v, s', rfl, hv, hr'⟩ := hr.uncons
      have : tupA (x :: y :: r) = .tu (x :: y :: r) := rfl
      rw [this]
      simp only [VR]
      exact ⟨u :: v :: s', by simp, h1⟩
theorem ofList_get : ∀ (xs : List AV) (k t : Nat) (x : AV), (Env.ofList k xs).get t = some x → k ≤ t ∧ xs[t - k]? = some x
  | [], k, t, x, h => by cases h
  | y :: r, k, t, x, h => by
    simp only [Env.ofList, Env.get] at h
    split at h
    · rename_i hk
      subst hk
      cases h
      exact ⟨Nat.le_refl _, by simp⟩
    · rename_i hk
      obtain ⟨h1, h2⟩ := ofList_get r (k + 1) t x h
      refine ⟨by omega, ?_⟩
      have : t - k = (t - (k + 1)) + 1 := by omega
      rw [this]
      simpa using h2
def okFn (sh : FuncId → Bool) (fn : Func) : Bool := (match fn.body with | some code => okCode fn.ntmps sh code | none => true) && !(fn.name == "runtime.NumGoroutine")
/-- What is asked of a configuration: the model takes mixed orders; the functions that are walked are sound in their text; the overrides tell the truth. -/
structure Fit (c : Cfg) : Prop where
  mixed : c.P.follows .mixedOrders = true
  text : ∀ (f : FuncId) (fn : Func), c.ov f = none → c.P.funcs[f]? = some fn → okFn c.shared fn = true
  cut : ∀ f, c.shared f = true → ∀ k i o cl m z, c.ann f k ≠ some (i, o, cl, some m, z)
  over : ∀ f g, c.ov f = some g → ∀ args H r H', g args H = some (r, H') → CallOk c f args H r H'
theorem body_sound {c : Cfg} {C : Cl} {f : FuncId} {N : Nat} {B : Nat → Prop} (hF : Fit c) (hC : SoundC c C) (ho : c.ov f = none) (hB : ∀ k i o cl m z, c.ann f k = some (i, o, cl, some m, z) → ∀ b, ¬ B b)
    {args : List AV} {H H' : Heap} {r : AV} (h : bodyA c (iterN N) C f args H = some (r, H')) : Entry c.P f ∧ ∀ (K : Kx) (p : Pl) (w : World) (cargs : List Value), Inv K H p w → VRs (kap K H p w) args cargs →
    Calls c.P f cargs.toArray w fun e w' => ∃ u p', e = .returned u ∧ Inv K H' p' w' ∧ PKB B (kap K H p w) (kap K H' p' w') ∧ VR (kap K H' p' w') r u := by
  unfold bodyA at h
  split at h
  · rename_i fn hfn
    split at h
    · rename_i code hb
      obtain ⟨⟨x, e', H1⟩, hr, h⟩ := obind_eq h
      have hok := hF.text f fn ho hfn
      simp only [okFn, hb, Bool.and_eq_true, Bool.not_eq_true'] at hok
      refine ⟨⟨fn, hfn, by rw [hb]; rfl, hok.2⟩, fun K p w cargs hI hv => ?_⟩
      have post : ∀ a' w' p', Inv K H1 p' w' → PKB B (kap K H p w) (kap K H1 p' w') → EnvR (kap K H1 p' w') e'.get a' → a'.tmps.size = (cargs.toArray ++ Array.replicate (fn.ntmps - cargs.toArray.size) undef).size → a'.defers = [] →
          bodyPost c.P fn (fun e w' => ∃ u p', e = .returned u ∧ Inv K H' p' w' ∧ PKB B (kap K H p w) (kap K H' p' w') ∧ VR (kap K H' p' w') r u) x.toExit a' w' := by
        intro a' w' p' i1 i2 i3 i4 i5
        cases x with
        | exit id => cases h
        | normal =>
          obtain ⟨xs, hxs, h⟩ := obind_eq h
          cases h
          obtain ⟨u, hu, hrun⟩ := results_sound i1 i3 hxs
          exact ⟨i5, u, hrun, u, p', rfl, i1, i2, hu⟩
        | ret =>
          obtain ⟨xs, hxs, h⟩ := obind_eq h
          cases h
          obtain ⟨u, hu, hrun⟩ := results_sound i1 i3 hxs
          exact ⟨i5, u, hrun, u, p', rfl, i1, i2, hu⟩
      refine calls_of_wp hfn hb ?_
      refine arun_sound (n := (cargs.toArray ++ Array.replicate (fn.ntmps - cargs.toArray.size) undef).size) hC hF.mixed (by simp; omega) hB code 0 hok.1 hr hI ?_ rfl fun a' w' p' i1 i2 i3 i4 i5 => post a' w' p' i1 i2 i3 i4 i5
      intro t x ht
      obtain ⟨_, h2⟩ := ofList_get args 0 t x ht
      obtain ⟨u, hu, hvu⟩ := hv.get _ _ h2
      have hlt : t < cargs.length := by
        have := (List.getElem?_eq_some_iff.1 hu).1
        simpa using this
      have : (cargs.toArray ++ Array.replicate (fn.ntmps - cargs.toArray.size) undef).getD t undef = u := by
        simp only [Nat.sub_zero] at hu
        rw [Array.getD_eq_getD_getElem?, Array.getElem?_append_left (by simpa using hlt)]
        simp [hu]
      show VR _ x ((cargs.toArray ++ Array.replicate (fn.ntmps - cargs.toArray.size) undef).getD t undef)
      rw [this]; exact hvu
    · cases h
  · cases h
theorem mapC_good {f : AV → Option (AV × List Nat)} (hf : ∀ x y bs, f x = some (y, bs) → y.good = true) : ∀ (l ys : List AV) (bs : List Nat), mapC f l = some (ys, bs) → goodL ys = true
  | [], ys, bs, h => by cases h; rfl
  | x :: r, ys, bs, h => by
    obtain ⟨⟨y, b1⟩, h1, h⟩ := obind_eq h
    obtain ⟨⟨zs, b2⟩, h2, h⟩ := obind_eq h
    cases h
    simp only [goodL, hf _ _ _ h1, mapC_good hf _ _ _ h2, Bool.and_self]
theorem closeA_good (H : Heap) : ∀ (k : Nat) (x y : AV) (bs : List Nat), closeA k H x = some (y, bs) → y.good = true
  | 0, x, y, bs, h => by cases h
  | k + 1, x, y, bs, h => by
    have ih := closeA_good H k
    unfold closeA at h
    split at h
    · rename_i hg; cases h; exact hg
    · split at h
      · cases h; rfl
      · obtain ⟨⟨ys, bs'⟩, h1, h⟩ := obind_eq h
        cases h
        exact mapC_good ih _ _ _ h1
      · obtain ⟨⟨ys, bs'⟩, h1, h⟩ := obind_eq h
        cases h
        exact mapC_good ih _ _ _ h1
      · split at h
        · split at h
          · split at h
            · obtain ⟨⟨ys, bs'⟩, h1, h⟩ := obind_eq h
              cases h
              rfl
            · cases h
          · cases h
        · cases h
      · split at h
        · split at h
          · obtain ⟨⟨ys, bs'⟩, h1, h⟩ := obind_eq h
            cases h
            rfl
          · cases h
        · cases h
      · cases h
theorem step_ok {c : Cfg} {C : Cl} {N : Nat} (hF : Fit c) (hC : SoundC c C) : SoundC c (stepA c (iterN N) C) := by
  intro f args H r H' h
  unfold stepA at h
  split at h
  · rename_i g hg
    exact hF.over f g hg args H r H' h
  · rename_i ho
    split at h
    · rename_i hs
      obtain ⟨h1, h2⟩ := body_sound (B := fun _ => True) hF hC ho (fun k i o cl m z hm => absurd hm (hF.cut f hs k i o cl m z)) h
      refine ⟨h1, (fun hs' => by rw [hs] at hs'; cases hs'), fun K p w cargs hI hv => (h2 K p w cargs hI hv).mono fun e w' ⟨u, p', e1, e2, e3, e4⟩ => ⟨u, p', e1, e2, e3.toPK fun _ => trivial, e4⟩⟩
    · rename_i hs
      split at h
      · obtain ⟨⟨r1, H1⟩, hr, h⟩ := obind_eq h
        obtain ⟨⟨y, bs⟩, hq, h⟩ := obind_eq h
        cases h
        obtain ⟨h1, h2⟩ := body_sound (B := fun _ => False) hF hC ho (fun _ _ _ _ _ _ _ _ => id) hr
        refine ⟨h1, fun _ => ?_, fun K p w cargs hI hv => ?_⟩
        · exact closeA_good H1 depthA r1 _ _ hq
        · refine (h2 K p w cargs hI hv).mono fun e w' ⟨u, p', e1, e2, e3, e4⟩ => ?_
          obtain ⟨c1, c2, c3, c4⟩ := closeA_sound e2 depthA r1 y bs u hq e4
          refine ⟨u, fun _ => none, e1, noP_inv e2.fsz e2.ext, ⟨e3.cell, fun b hb => ?_, e3.size, e3.row, fun b v x hp => ?_⟩, ?_⟩
          · rcases hb with hb | ⟨i, x, v, o, q1, _⟩
            · exact .inl (.inl hb)
            · simp at q1
          · have := hI.dom b (by simp)
            have hp' : p b = some (v, x) := hp
            rw [this] at hp'; cases hp'
          · refine c4 _ rfl fun rb hA => ?_
            rcases hA with hA | ⟨i, x, v, o, q1, _⟩
            · refine ⟨.inl hA, fun b hb v o hp => ?_⟩
              obtain ⟨l, vv, cs, hc⟩ := c3 b hb
              exact e2.dis b v o rb (List.getElem?_eq_some_iff.1 hc).1 hp hA
            · simp at q1
      · cases h
theorem acallN_sound {c : Cfg} (hF : Fit c) : ∀ n, SoundC c (acallN c n)
  | 0 => fun f args H r H' h => by cases h
  | n + 1 => step_ok hF (acallN_sound hF n)
end Go.AI

/- The abstract interpreter: calls and loops without a bound. Conditions: none. -/
set_option linter.unusedVariables false
set_option linter.unusedSimpArgs false
namespace Go.AI
def Ev {α : Type} (X : Nat → Option α) (r : α) : Prop := ∃ n, ∀ m, n ≤ m → X m = some r
open Classical in
noncomputable def lim {α : Type} (X : Nat → Option α) : Option α := if h : ∃ r, Ev X r then some h.choose else none
theorem Ev.uniq {α : Type} {X : Nat → Option α} {r s : α} (h : Ev X r) (h' : Ev X s) : r = s := by
  obtain ⟨n, hn⟩ := h
  obtain ⟨m, hm⟩ := h'
  have h1 := hn (max n m) (Nat.le_max_left _ _)
  have h2 := hm (max n m) (Nat.le_max_right _ _)
  rw [h1] at h2
  cases h2; rfl
theorem lim_iff {α : Type} {X : Nat → Option α} {r : α} : lim X = some r ↔ Ev X r := by
  unfold lim
  split
  · rename_i h
    constructor
    · intro e; cases e; exact h.choose_spec
    · intro e; rw [h.choose_spec.uniq e]
  · rename_i h
    constructor
    · intro e; cases e
    · intro e; exact absurd ⟨r, e⟩ h
theorem Ev.bind {α β : Type} {X : Nat → Option α} {f : Nat → α → Option β} {a : α} {r : β} (h : Ev X a) (h' : Ev (fun n => f n a) r) : Ev (fun n => obind (X n) (f n)) r := by
  obtain ⟨n, hn⟩ := h
  obtain ⟨m, hm⟩ := h'
  refine ⟨max n m, fun k hk => ?_⟩
  have h1 := hn k (Nat.le_trans (Nat.le_max_left _ _) hk)
  have h2 := hm k (Nat.le_trans (Nat.le_max_right _ _) hk)
  simp only [h1, obind_some]
  exact h2
theorem Ev.const {α : Type} {x : Option α} {r : α} (h : x = some r) : Ev (fun _ => x) r := ⟨0, fun _ _ => h⟩
noncomputable def call (c : Cfg) : Cl := fun f args H => lim fun n => acallN c n f args H
noncomputable def iter : Lp := fun F s => lim fun n => iterN n F s
/-- What is eventually found by bounded calls, bounded loops. -/
def LimC (c : Cfg) (C : Cl) : Prop := ∀ f args H r, C f args H = some r → Ev (fun n => acallN c n f args H) r
def LimL (lp : Lp) : Prop := ∀ (F : St → Option (Ex × St)) (Fn : Nat → St → Option (Ex × St)), (∀ s r, F s = some r → Ev (fun n => Fn n s) r) → ∀ s r, lp F s = some r → Ev (fun n => iterN n (Fn n) s) r
theorem iter_ev {F : St → Option (Ex × St)} {Fn : Nat → St → Option (Ex × St)} (hF : ∀ s r, F s = some r → Ev (fun n => Fn n s) r) : ∀ (N : Nat) (s : St) (r : Ex × St), iterN N F s = some r → ∃ n, ∀ m, n ≤ m → ∀ k, N ≤ k → iterN k (Fn m) s = some r
  | 0, s, r, h => by cases h
  | N + 1, s, r, h => by
    unfold iterN at h
    obtain ⟨q, hq, h⟩ := obind_eq h
    obtain ⟨n1, h1⟩ := hF s q hq
    obtain ⟨x, s'⟩ := q
    cases x with
    | normal =>
      obtain ⟨n2, h2⟩ := iter_ev hF N s' r h
      refine ⟨max n1 n2, fun m hm k hk => ?_⟩
      obtain ⟨k', rfl⟩ : ∃ k', k = k' + 1 := ⟨k - 1, by omega⟩
      unfold iterN
      simp only at h1
      rw [h1 m (by omega), obind_some]
      exact h2 m (by omega) k' (by omega)
    | exit id =>
      cases h
      refine ⟨n1, fun m hm k hk => ?_⟩
      obtain ⟨k', rfl⟩ : ∃ k', k = k' + 1 := ⟨k - 1, by omega⟩
      unfold iterN
      simp only at h1
      rw [h1 m hm, obind_some]
    | ret =>
      cases h
      refine ⟨n1, fun m hm k hk => ?_⟩
      obtain ⟨k', rfl⟩ : ∃ k', k = k' + 1 := ⟨k - 1, by omega⟩
      unfold iterN
      simp only at h1
      rw [h1 m hm, obind_some]
theorem callA_ev {c : Cfg} {C : Cl} (hC : LimC c C) {f : FuncId} {args : List AV} {H : Heap} {r : AV × Heap} (h : callA c C f args H = some r) : Ev (fun n => callA c (acallN c n) f args H) r := by
  unfold callA at h ⊢
  split
  · rename_i hs
    simp only [hs, if_true] at h
    exact hC _ _ _ _ h
  · rename_i hs
    rw [if_neg hs] at h
    obtain ⟨q, hq, h⟩ := obind_eq h
    obtain ⟨s, hs, h⟩ := obind_eq h
    refine Ev.bind (Ev.const hq) (Ev.bind (hC _ _ _ _ hs) (Ev.const h))
theorem callOpA_ev {c : Cfg} {C : Cl} (hC : LimC c C) {k : Call} {g : G} {H : Heap} {r : AV × Heap} (h : callOpA c C k g H = some r) : Ev (fun n => callOpA c (acallN c n) k g H) r := by
  unfold callOpA at h ⊢
  obtain ⟨args, ha, h⟩ := obind_eq h
  refine Ev.bind (Ev.const ha) ?_
  cases hk : k.callee with
  | builtin b => simp only [hk] at h ⊢; exact Ev.const h
  | value f =>
    simp only [hk] at h ⊢
    obtain ⟨x, hx, h⟩ := obind_eq h
    refine Ev.bind (Ev.const hx) ?_
    cases x with
    | fn f caps => exact callA_ev hC h
    | _ => cases h
  | invoke => simp only [hk] at h; cases h
theorem aop_ev {c : Cfg} {C : Cl} (hC : LimC c C) {o : Op} {g : G} {H : Heap} {r : AV × Heap} (h : aop c C o g H = some r) : Ev (fun n => aop c (acallN c n) o g H) r := by
  cases o
  case call k => exact callOpA_ev hC h
  case slice t x l hh m => cases m <;> exact Ev.const h
  all_goals exact Ev.const h
theorem aops_ev {c : Cfg} {C : Cl} (hC : LimC c C) {ops : Array Oper} : ∀ {l : List Oper} {e : Env} {H : Heap} {r : Env × Heap}, aops c C ops l e H = some r → Ev (fun n => aops c (acallN c n) ops l e H) r
  | [], e, H, r, h => Ev.const h
  | o :: l, e, H, r, h => by
    obtain ⟨t, ht, h⟩ := obind_eq h
    refine Ev.bind (Ev.const ht) ?_
    cases t with
    | true =>
      simp only [if_true] at h ⊢
      obtain ⟨q, hq, h⟩ := obind_eq h
      exact Ev.bind (aop_ev hC hq) (aops_ev hC h)
    | false =>
      simp only [Bool.false_eq_true, if_false] at h ⊢
      exact aops_ev hC h
theorem arun_ev {c : Cfg} {C : Cl} {lp : Lp} (hC : LimC c C) (hl : LimL lp) {f : FuncId} : ∀ (code : Code) (k : Nat) {e : Env} {H : Heap} {r : Ex × St}, arun c f lp C k code e H = some r → Ev (fun n => arun c f (iterN n) (acallN c n) k code e H) r := by
  intro code
  induction code with
  | region id ops dr =>
    intro k e H r h
    simp only [arun] at h ⊢
    obtain ⟨s, hs, h⟩ := obind_eq h
    exact Ev.bind (aops_ev hC hs) (Ev.const h)
  | seq u v ihu ihv =>
    intro k e H r h
    simp only [arun] at h ⊢
    obtain ⟨s, hs, h⟩ := obind_eq h
    refine Ev.bind (ihu k hs) ?_
    obtain ⟨x, s'⟩ := s
    cases x with
    | normal => exact ihv k h
    | _ => exact Ev.const h
  | cond o u v ihu ihv =>
    intro k e H r h
    simp only [arun, acond] at h ⊢
    split at h
    · rename_i t ht
      cases t with
      | true => exact ihu k h
      | false => exact ihv k h
    · cases h
  | block id u ihu =>
    intro k e H r h
    simp only [arun, blockA] at h ⊢
    obtain ⟨s, hs, h⟩ := obind_eq h
    exact Ev.bind (ihu id hs) (Ev.const h)
  | loop u ihu =>
    intro k e H r h
    simp only [arun] at h ⊢
    obtain ⟨s0, h0, h⟩ := obind_eq h
    refine Ev.bind (Ev.const h0) ?_
    exact hl _ (fun n s => obind (arun c f (iterN n) (acallN c n) k u s.1 s.2) (endA (c.ann f k))) (fun s r hr => by
      obtain ⟨s', hs', hr⟩ := obind_eq hr
      exact Ev.bind (ihu k hs') (Ev.const hr)) _ _ h
  | skip => intro k e H r h; exact Ev.const h
  | exit id => intro k e H r h; exact Ev.const h
  | ret => intro k e H r h; exact Ev.const h
  | label l => intro k e H r h; exact Ev.const h
  | _ => intro k e H r h; cases h
theorem bodyA_ev {c : Cfg} {C : Cl} {lp : Lp} (hC : LimC c C) (hl : LimL lp) {f : FuncId} {args : List AV} {H : Heap} {r : AV × Heap} (h : bodyA c lp C f args H = some r) : Ev (fun n => bodyA c (iterN n) (acallN c n) f args H) r := by
  unfold bodyA at h ⊢
  split
  · rename_i fn hf
    simp only [hf] at h
    split
    · rename_i code hb
      simp only [hb] at h
      obtain ⟨s, hs, h⟩ := obind_eq h
      exact Ev.bind (arun_ev hC hl code 0 hs) (Ev.const h)
    · rename_i hb
      simp only [hb] at h
      cases h
  · rename_i hf
    simp only [hf] at h
    cases h
theorem stepA_ev {c : Cfg} {C : Cl} {lp : Lp} (hC : LimC c C) (hl : LimL lp) {f : FuncId} {args : List AV} {H : Heap} {r : AV × Heap} (h : stepA c lp C f args H = some r) : Ev (fun n => acallN c n f args H) r := by
  have : Ev (fun n => stepA c (iterN n) (acallN c n) f args H) r := by
    unfold stepA at h ⊢
    split
    · rename_i g hg
      simp only [hg] at h
      exact Ev.const h
    · rename_i hg
      simp only [hg] at h
      split
      · rename_i hs
        simp only [hs, if_true] at h
        exact bodyA_ev hC hl h
      · rename_i hs
        rw [if_neg hs] at h
        split
        · obtain ⟨q, hq, h⟩ := obind_eq h
          exact Ev.bind (bodyA_ev hC hl hq) (Ev.const h)
        · rename_i hH
          split at h
          · exact absurd rfl hH
          · cases h
  obtain ⟨n, hn⟩ := this
  refine ⟨n + 1, fun m hm => ?_⟩
  obtain ⟨k, rfl⟩ : ∃ k, m = k + 1 := ⟨m - 1, by omega⟩
  exact hn k (by omega)
theorem limL_iterN (N : Nat) : LimL (iterN N) := by
  intro F Fn hF s r h
  obtain ⟨n, hn⟩ := iter_ev hF N s r h
  exact ⟨max n N, fun m hm => hn m (by omega) m (by omega)⟩
theorem limL_iter : LimL iter := by
  intro F Fn hF s r h
  obtain ⟨N, hN⟩ := lim_iff.1 h
  exact limL_iterN N F Fn hF s r (hN N (Nat.le_refl _))
theorem limC_call (c : Cfg) : LimC c (call c) := fun f args H r h => lim_iff.1 h
theorem limC_acallN (c : Cfg) : ∀ n, LimC c (acallN c n)
  | 0 => fun f args H r h => by cases h
  | n + 1 => fun f args H r h => stepA_ev (limC_acallN c n) (limL_iterN n) h
/-- A bounded run will do. -/
theorem call_run {c : Cfg} (n : Nat) {f : FuncId} {args : List AV} {H : Heap} {r : AV × Heap} (h : acallN c n f args H = some r) : call c f args H = some r := lim_iff.2 (limC_acallN c n f args H r h)
theorem call_step {c : Cfg} {f : FuncId} {args : List AV} {H : Heap} {r : AV × Heap} (h : stepA c iter (call c) f args H = some r) : call c f args H = some r := lim_iff.2 (stepA_ev (limC_call c) limL_iter h)
/-- A function that keeps its own heap to itself. -/
theorem call_pure {c : Cfg} {f : FuncId} {args : List AV} (ho : c.ov f = none) (hs : c.shared f = false) {fn : Func} {code : Code} (hf : c.P.funcs[f]? = some fn) (hb : fn.body = some code) {s : Ex × St} {xs : List AV} {y : AV × List Nat}
    (h : arun c f iter (call c) 0 code (Env.ofList 0 args) [] = some s) (hx : ∀ id, s.1 ≠ .exit id) (hr : resA c.P s.2.2 s.2.1.get fn.results.toList = some xs) (hc : closeA depthA s.2.2 (tupA xs) = some y) : call c f args [] = some (y.1, []) := by
  refine call_step ?_
  have hB : bodyA c iter (call c) f args [] = some (tupA xs, s.2.2) := by
    unfold bodyA
    simp only [hf, hb, h, obind_some]
    obtain ⟨x, e, H⟩ := s
    cases x with
    | exit id => exact absurd rfl (hx id)
    | normal => simp only [hr, obind_some]
    | ret => simp only [hr, obind_some]
  unfold stepA
  simp only [ho, hs, Bool.false_eq_true, if_false, hB, obind_some, hc]
theorem iter_unfold {F : St → Option (Ex × St)} {s : St} {r : Ex × St} (h : obind (F s) (fun q => match q.1 with | .normal => iter F q.2 | _ => some q) = some r) : iter F s = some r := by
  obtain ⟨⟨x, s'⟩, hq, h⟩ := obind_eq h
  refine lim_iff.2 ?_
  cases x with
  | normal =>
    obtain ⟨n, hn⟩ := lim_iff.1 h
    refine ⟨n + 1, fun m hm => ?_⟩
    obtain ⟨k, rfl⟩ : ∃ k, m = k + 1 := ⟨m - 1, by omega⟩
    show iterN (k + 1) F s = some r
    unfold iterN
    rw [hq, obind_some]
    exact hn k (by omega)
  | exit id =>
    refine ⟨1, fun m hm => ?_⟩
    obtain ⟨k, rfl⟩ : ∃ k, m = k + 1 := ⟨m - 1, by omega⟩
    show iterN (k + 1) F s = some r
    unfold iterN
    rw [hq, obind_some]
    exact h
  | ret =>
    refine ⟨1, fun m hm => ?_⟩
    obtain ⟨k, rfl⟩ : ∃ k, m = k + 1 := ⟨m - 1, by omega⟩
    show iterN (k + 1) F s = some r
    unfold iterN
    rw [hq, obind_some]
    exact h
theorem iter_normal {F : St → Option (Ex × St)} {s s' : St} {r : Ex × St} (h : F s = some (.normal, s')) (h' : iter F s' = some r) : iter F s = some r := iter_unfold (by rw [h, obind_some]; exact h')
theorem iter_last {F : St → Option (Ex × St)} {s : St} {r : Ex × St} (h : F s = some r) (hn : r.1 ≠ .normal) : iter F s = some r := iter_unfold (by
  rw [h, obind_some]
  split
  · rename_i e; exact absurd e hn
  · rfl)
theorem call_sound {c : Cfg} (hF : Fit c) : SoundC c (call c) := by
  intro f args H r H' h
  obtain ⟨n, hn⟩ := lim_iff.1 h
  exact acallN_sound hF n f args H r H' (hn n (Nat.le_refl _))
/-- A table of what is kept behind regions. -/
def prOf1 : List (Nat × List Nat) → Nat → Option (List Nat)
  | [], _ => none
  | (k, ks) :: r, i => if k = i then some ks else prOf1 r i
def prOf : List (Nat × List (Nat × List Nat)) → FuncId → Nat → Option (List Nat)
  | [], _, _ => none
  | (f', l) :: r, f, i => if f' = f then prOf1 l i else prOf r f i
theorem prOf_none : ∀ {T : List (Nat × List (Nat × List Nat))} {f : FuncId}, (T.all fun e => !(e.1 == f)) = true → ∀ i, prOf T f i = none
  | [], f, _, i => rfl
  | (f', l) :: r, f, h, i => by
    simp only [List.all_cons, Bool.and_eq_true, Bool.not_eq_true', beq_eq_false_iff_ne] at h
    rw [prOf, if_neg h.1]
    exact prOf_none h.2 i
/-- A table of what is known of blocks. -/
def annOf : List (Nat × Nat × Ann) → FuncId → Nat → Option Ann
  | [], _, _ => none
  | (f', k', a) :: r, f, k => if f' = f ∧ k' = k then some a else annOf r f k
theorem annOf_mem : ∀ {T : List (Nat × Nat × Ann)} {f : FuncId} {k : Nat} {a : Ann}, annOf T f k = some a → (f, k, a) ∈ T
  | [], f, k, a, h => by cases h
  | (f', k', a') :: r, f, k, a, h => by
    simp only [annOf] at h
    split at h
    · rename_i hh
      obtain ⟨rfl, rfl⟩ := hh
      cases h
      simp
    · exact List.mem_cons_of_mem _ (annOf_mem h)
def noCut (sh : FuncId → Bool) (T : List (Nat × Nat × Ann)) : Bool := T.all fun e => !(sh e.1) || e.2.2.2.2.2.1.isNone
theorem annOf_cut {sh : FuncId → Bool} {T : List (Nat × Nat × Ann)} (hc : noCut sh T = true) {f : FuncId} (hf : sh f = true) {k m : Nat} {i o cl z : List Nat} (h : annOf T f k = some (i, o, cl, some m, z)) : False := by
  have := List.all_eq_true.1 hc _ (annOf_mem h)
  simp [hf] at this
end Go.AI

/- The seat's configuration of the abstract interpreter, and facts about its types. No conditions. (written by gen.py) -/
set_option linter.unusedVariables false
namespace Go.Proofs
open Go.AI

def Try.ann : List (Nat × Nat × Ann) := [
  (2, 999999, ([], [], [], none, [])),
  (3, 999999, ([4], [4], [], none, [])),
  (4, 999999, ([8], [8], [], none, [])),
  (4, 0, ([0, 3, 19, 21, 23, 24], [3, 19, 23], [], none, [])),
  (4, 2, ([3, 19, 23, 25], [19, 23], [], none, [])),
  (5, 999999, ([8], [8], [], none, [])),
  (6, 999999, ([12], [12], [], none, [])),
  (7, 999999, ([6], [6], [], none, [])),
  (7, 0, ([0, 2, 7], [], [], none, [])),
  (8, 999999, ([0], [0], [], none, [])),
  (9, 999999, ([4, 5], [4, 5], [], none, [])),
  (9, 0, ([0, 1, 25, 26, 27], [0, 1], [], none, [])),
  (9, 2, ([0, 1, 35, 36, 37], [0, 1], [], none, [])),
  (9, 4, ([1, 10, 11, 12], [10], [], none, [])),
  (9, 6, ([1, 10, 11, 12, 61, 62, 63], [1, 10, 11, 12], [], none, [])),
  (10, 999999, ([4, 5], [4, 5], [], none, [])),
  (10, 0, ([0, 1, 6], [0, 1], [], none, [])),
  (10, 2, ([0, 1, 7], [0, 1], [], none, [])),
  (11, 999999, ([2], [2], [], none, [])),
  (11, 0, ([0, 3, 11, 12, 13], [0, 3], [], none, [])),
  (11, 2, ([0, 3, 63, 64, 65], [], [], none, [])),
  (11, 4, ([0, 3, 7, 63, 64, 65, 69, 70, 71], [0, 3, 63, 64, 65], [], none, [])),
  (12, 999999, ([2], [2], [], none, [])),
  (12, 0, ([0, 3], [0], [], none, [])),
  (12, 2, ([0, 4], [], [], none, [])),
  (12, 4, ([0, 4, 5], [0, 4], [], none, [])),
  (13, 999999, ([4], [4], [], none, [])),
  (13, 0, ([0, 1, 5], [], [], none, [])),
  (14, 999999, ([2], [2], [], none, [])),
  (14, 0, ([0, 3], [], [], none, [])),
  (15, 999999, ([4], [4], [], none, [])),
  (16, 999999, ([4], [4], [], none, [])),
  (16, 0, ([0, 1, 5, 6], [5], [5], some 1, [])),
  (17, 999999, ([4, 5], [4, 5], [], none, [])),
  (18, 999999, ([2, 3], [2, 3], [], none, [])),
  (18, 0, ([4, 13, 14, 15], [4], [], none, [])),
  (19, 999999, ([2, 3], [2, 3], [], none, [])),
  (19, 0, ([0, 4, 5, 6], [5], [], none, [])),
  (20, 999999, ([4], [4], [], none, [])),
  (20, 0, ([0, 1, 5], [], [], none, [])),
  (21, 999999, ([4, 5], [4, 5], [], none, [])),
  (22, 999999, ([2, 3], [2, 3], [], none, [])),
  (22, 0, ([0, 4, 5], [4], [], none, [])),
  (23, 999999, ([2], [2], [], none, [])),
  (23, 0, ([0, 3, 9, 10, 11], [], [], none, [])),
  (24, 999999, ([2], [2], [], none, [])),
  (24, 0, ([0, 3, 4], [], [], none, [])),
  (25, 999999, ([2, 3], [2, 3], [], none, [])),
  (25, 0, ([0, 4, 5], [4], [], none, [])),
  (26, 999999, ([2, 3], [2, 3], [], none, [])),
  (26, 0, ([0, 4, 5, 16, 17], [4], [], some 3, [])),
  (26, 2, ([0, 4, 5, 7, 8, 16, 17], [0, 4, 5, 7, 16, 17], [], none, [7])),
  (27, 999999, ([2, 3], [2, 3], [], none, [])),
  (27, 0, ([0, 4, 5, 6], [4], [], some 3, [])),
  (27, 2, ([0, 4, 5, 6, 7, 8], [0, 4, 5, 6, 7], [], none, [7])),
  (28, 999999, ([6, 7], [6, 7], [], none, [])),
  (29, 999999, ([4, 5], [4, 5], [], none, [])),
  (29, 0, ([0, 1, 6, 24, 25, 26], [0, 1, 6], [], some 2, [6])),
  (29, 2, ([0, 1, 6, 43, 44, 45], [0, 1, 6], [], none, [])),
  (29, 4, ([0, 13, 14, 61, 62, 63], [13], [], none, [])),
  (29, 6, ([0, 13, 14, 15, 16, 17, 61, 62, 63, 81, 82, 83], [0, 13, 14, 15, 17, 61, 62, 63], [], none, [])),
  (30, 999999, ([4, 5], [4, 5], [], none, [])),
  (30, 0, ([0, 1, 6, 7], [0, 1, 6], [], none, [])),
  (30, 2, ([0, 1, 8], [0, 1], [], none, [])),
  (30, 4, ([0, 1, 9, 10, 11], [9], [], some 3, [])),
  (30, 6, ([0, 1, 9, 10, 11, 12, 13], [0, 1, 9, 10, 11, 12], [], none, [12])),
  (30, 8, ([0, 1, 9, 10, 11, 12, 13, 14], [0, 1, 9, 10, 11, 12, 13], [], none, [])),
  (31, 999999, ([2], [2], [], none, [])),
  (31, 0, ([3, 8, 9], [3], [], none, [])),
  (32, 999999, ([2], [2], [], none, [])),
  (33, 999999, ([4], [4], [], none, [])),
  (33, 0, ([0, 5, 11, 12, 13], [5], [], none, [])),
  (34, 999999, ([], [], [], none, [])),
  (35, 999999, ([4], [4], [], none, [])),
  (35, 0, ([0, 1, 9, 10, 11], [0, 1], [], none, [])),
  (36, 999999, ([4], [4], [], none, [])),
  (36, 0, ([1, 5, 6], [5], [5], some 2, [])),
  (36, 2, ([1, 5, 6, 7, 8], [1, 5, 6], [5], some 2, [])),
  (37, 999999, ([4], [4], [], none, [])),
  (37, 0, ([0, 1, 12, 13], [], [], none, [])),
  (38, 999999, ([2], [2], [], none, [])),
  (38, 0, ([0, 3, 4], [3], [], none, [])),
  (39, 999999, ([4], [4], [], none, [])),
  (40, 999999, ([4, 5], [4, 5], [], none, [])),
  (40, 0, ([0, 1, 6, 7], [0, 1, 6], [], none, [])),
  (41, 999999, ([4], [4], [], none, [])),
  (41, 0, ([0, 1, 5, 6], [5], [], none, [])),
  (42, 999999, ([2], [2], [], none, [])),
  (43, 999999, ([4, 5], [4, 5], [], none, [])),
  (43, 0, ([1, 4, 6, 13, 14, 15], [4, 6], [], none, [])),
  (44, 999999, ([4], [4], [], none, [])),
  (44, 0, ([3, 4, 5, 8, 9, 10], [4, 5], [], none, [])),
  (45, 999999, ([2], [2], [], none, [])),
  (46, 999999, ([4], [4], [], none, [])),
  (46, 0, ([0, 1, 5, 6], [5], [], none, [])),
  (47, 999999, ([], [], [], none, [])),
  (47, 0, ([0, 1, 2, 3, 4, 10, 11], [], [], none, [])),
  (48, 999999, ([2], [2], [], none, [])),
  (49, 999999, ([4], [4], [], none, [])),
  (50, 999999, ([2], [2], [], none, [])),
  (50, 0, ([3, 9, 10, 11], [3], [], none, [])),
  (51, 999999, ([2], [2], [], none, [])),
  (51, 0, ([0, 3, 4], [3], [], none, [])),
  (52, 999999, ([], [], [], none, [])),
  (52, 0, ([0, 1, 2, 3, 8], [], [], none, [])),
  (52, 2, ([0, 1, 2, 3, 8, 9], [0, 1, 2, 3, 8], [], none, [])),
  (53, 999999, ([], [], [], none, [])),
  (53, 0, ([0, 3, 8, 9, 10, 11], [0, 3, 8, 9, 10], [], none, [])),
  (53, 2, ([0, 3, 8, 9, 12], [], [], none, [])),
  (54, 999999, ([], [], [], none, [])),
  (54, 0, ([0, 1, 8, 9, 10, 11], [], [], none, [])),
  (55, 999999, ([8, 9], [8, 9], [], none, [])),
  (56, 999999, ([], [], [], none, [])),
  (56, 0, ([0, 8, 9], [], [], none, [])),
  (57, 999999, ([8], [8], [], none, [])),
  (57, 0, ([0, 1, 2, 3, 9, 10], [], [], none, [])),
  (57, 2, ([0, 1, 2, 3, 9, 10], [0, 1, 2, 3, 9, 10], [], none, [])),
  (57, 4, ([0, 1, 2, 3, 9, 10, 11], [0, 1, 2, 3, 9, 10], [], none, [])),
  (57, 6, ([0, 1, 2, 3, 9, 10, 12], [0, 1, 2, 3, 9, 10], [], none, [])),
  (58, 999999, ([10], [10], [], none, [])),
  (58, 0, ([0, 1, 4, 11, 12], [11], [], none, [])),
  (58, 2, ([0, 1, 4, 11, 12], [0, 1, 4, 11, 12], [], none, [])),
  (58, 4, ([0, 1, 4, 11, 12], [0, 1, 4, 11, 12], [], none, [])),
  (59, 999999, ([10, 11], [10, 11], [], none, [])),
  (59, 0, ([0, 1, 4, 12, 13], [0, 1, 4, 12, 13], [], none, [])),
  (59, 2, ([0, 1, 4, 12, 13], [0, 1, 4, 12, 13], [], none, [])),
  (59, 4, ([0, 1, 4, 12, 13], [0, 1, 13], [], none, [])),
  (59, 6, ([0, 1, 4, 12, 13], [0, 1, 4, 12, 13], [], none, [])),
  (59, 8, ([0, 1, 4, 12, 13], [0, 1, 4, 12, 13], [], none, [])),
  (60, 999999, ([2], [2], [], none, [])),
  (61, 999999, ([2], [2], [], none, [])),
  (62, 999999, ([2], [2], [], none, [])),
  (63, 999999, ([], [], [], none, [])),
  (63, 0, ([0, 2, 3, 4, 10], [], [], none, [])),
  (64, 999999, ([2], [2], [], none, [])),
  (65, 999999, ([2], [2], [], none, [])),
  (66, 999999, ([8], [8], [], none, [])),
  (67, 999999, ([12], [12], [], none, [])),
  (68, 999999, ([10, 11], [10, 11], [], none, []))]
def Try.prT : List (Nat × List (Nat × List Nat)) := [
  (4, [(0, [0, 1, 2, 3]), (1, [0, 1, 2, 3, 31]), (2, [8]), (3, [0, 1, 2, 3]), (4, [0, 1, 2, 3]), (5, [0, 1, 2, 3, 9, 10]), (6, [0, 2, 3, 9, 10, 11, 12]), (7, [0, 3, 10, 11, 12, 13, 14]), (8, [0, 3, 10, 12, 13, 14, 15, 16]), (9, [0, 3, 10, 12, 13, 14, 15, 16, 17, 18]), (10, [0, 3, 10, 12, 13, 14, 15, 16, 18, 19, 20]), (11, [0, 3, 10, 12, 13, 14, 15, 16, 18, 19, 20, 21, 22]), (12, [0, 3, 19, 21, 123]), (13, [8]), (14, [0, 3, 19, 21, 23]), (15, [0, 3, 19, 21, 23, 24]), (16, [0, 3, 19, 21, 23, 24, 127]), (17, [0, 3, 19, 21, 23, 24]), (18, [0, 3, 19, 21, 23, 24, 142]), (19, [8]), (20, [0, 3, 10, 19, 21, 23, 24]), (21, [0, 3, 19, 21, 23, 24, 150]), (22, [8]), (23, [3, 19, 23, 25]), (24, [3, 19, 23, 25, 153]), (25, [3, 19, 23, 25]), (26, [3, 19, 23, 25, 161]), (27, [8]), (28, [8])]),
  (5, [(0, [0, 1, 2, 3]), (1, [0, 1, 2, 3, 25]), (2, [8]), (3, [0, 1, 2, 28]), (4, [0, 1, 2]), (5, [0, 1]), (6, [0, 1, 9, 10]), (7, [0, 9, 10, 11, 12]), (8, [0, 9, 10, 11, 12, 13, 14]), (9, [0, 9, 10, 11, 12, 13, 14, 15, 16]), (10, [0, 85]), (11, [8]), (12, [0, 10, 17]), (13, [0, 10, 12, 17, 18]), (14, [0, 10, 12, 14, 17, 18, 19]), (15, [10, 12, 14, 16, 17, 18, 19, 20]), (16, [8])]),
  (6, [(0, [0, 1, 2, 3, 4, 5]), (1, [0, 1, 2, 3, 4, 5, 43]), (2, [12]), (3, [3, 4, 5, 13]), (4, [3, 4, 13, 52]), (5, [3, 13]), (6, [3, 13, 15, 16]), (7, [15, 16, 17, 18]), (8, [12])]),
  (9, [(0, [0, 1]), (1, [0, 1, 21]), (2, [4, 5]), (3, [0, 1, 24]), (4, [4, 5]), (5, [0, 1, 25, 26, 27]), (6, [0, 1, 25, 26, 27, 28]), (7, [0, 1, 7, 25, 26, 27]), (8, [0, 1, 25, 26, 27, 33]), (9, [4, 5]), (10, [0, 1, 25, 26, 27]), (11, [0, 1, 35, 36, 37]), (12, [0, 1, 35, 36, 37, 38]), (13, [0, 1, 9, 35, 36, 37]), (14, [0, 1, 35, 36, 37, 44]), (15, [4, 5]), (16, [0, 1, 35, 36, 37]), (17, [1, 10]), (18, [1, 10, 11]), (19, [1, 10, 11, 12]), (20, [1, 10, 11, 12, 58]), (21, [1, 10, 11, 12]), (22, [1, 10, 11, 12, 61, 62, 63]), (23, [1, 10, 11, 12, 61, 62, 63, 64]), (24, [1, 10, 11, 12, 14, 61, 62, 63]), (25, [1, 10, 11, 12, 15, 61, 62, 63]), (26, [1, 10, 11, 12, 15, 61, 62, 63, 77]), (27, [1, 10, 11, 12, 15, 61, 62, 63]), (28, [1, 10, 11, 12, 61, 62, 63]), (29, [1, 10, 11, 12, 61, 62, 63]), (30, [10]), (31, [4, 5])]),
  (11, [(0, [0]), (1, [0, 3]), (2, [0, 3, 11, 12, 13]), (3, [0, 3, 11, 12, 13, 14]), (4, [0, 3, 4, 5, 11, 12, 13]), (5, [0, 3, 5, 11, 12, 13, 43]), (6, [2]), (7, [0, 3, 11, 12, 13]), (8, [0, 3, 11, 12, 13]), (9, [0, 3, 62]), (10, [2]), (11, [0, 3, 63, 64, 65]), (12, [0, 3, 63, 64, 65, 66]), (13, [0, 3, 7, 63, 64, 65]), (14, [0, 3, 7, 63, 64, 65, 69, 70, 71]), (15, [0, 3, 7, 63, 64, 65, 69, 70, 71, 72]), (16, [0, 3, 7, 9, 63, 64, 65, 69, 70, 71]), (17, [0, 3, 7, 63, 64, 65, 69, 70, 71, 81]), (18, [2]), (19, [0, 3, 7, 63, 64, 65, 69, 70, 71]), (20, [0, 3, 63, 64, 65]), (21, [2])]),
  (12, [(0, [0]), (1, [0, 34]), (2, [2]), (3, [0, 3]), (4, [0, 3, 38]), (5, [0, 3]), (6, [0, 3, 71]), (7, [2]), (8, [0, 4]), (9, [0, 4, 75]), (10, [0, 4]), (11, [0, 4, 5]), (12, [0, 4, 5, 81]), (13, [0, 4, 5]), (14, [0, 4, 5, 7]), (15, [0, 4, 5, 99]), (16, [2]), (17, [2])]),
  (29, [(0, [0, 1]), (1, [0, 1, 23]), (2, [4, 5]), (3, [0, 1, 6]), (4, [0, 1, 6, 24, 25, 26]), (5, [0, 1, 6, 24, 25, 26, 27]), (6, [0, 1, 6, 8, 24, 25, 26]), (7, [0, 1, 6, 8, 24, 25, 26, 32]), (8, [4, 5]), (9, [0, 1, 6, 9, 24, 25, 26]), (10, [0, 1, 6, 24, 25, 26]), (11, [0, 1, 6, 24, 25, 26]), (12, [0, 1, 6, 43, 44, 45]), (13, [0, 1, 6, 43, 44, 45, 46]), (14, [0, 1, 6, 12, 43, 44, 45]), (15, [0, 1, 6, 43, 44, 45, 55]), (16, [4, 5]), (17, [0, 1, 6, 43, 44, 45]), (18, [0, 6, 59]), (19, [4, 5]), (20, [0, 6, 13]), (21, [0, 6, 13, 14]), (22, [0, 13, 14, 61, 62, 63]), (23, [0, 13, 14, 61, 62, 63, 64]), (24, [0, 13, 14, 15, 16, 61, 62, 63]), (25, [0, 13, 14, 15, 16, 17, 18, 61, 62, 63]), (26, [0, 13, 14, 15, 16, 17, 61, 62, 63, 75]), (27, [0, 13, 14, 15, 16, 17, 61, 62, 63]), (28, [0, 13, 14, 15, 16, 17, 61, 62, 63]), (29, [0, 13, 14, 15, 16, 17, 61, 62, 63, 81, 82, 83]), (30, [0, 13, 14, 15, 16, 17, 61, 62, 63, 81, 82, 83, 84]), (31, [0, 13, 14, 15, 16, 17, 20, 61, 62, 63, 81, 82, 83]), (32, [0, 13, 14, 15, 16, 17, 61, 62, 63, 81, 82, 83]), (33, [0, 13, 14, 15, 16, 17, 61, 62, 63, 81, 82, 83]), (34, [0, 13, 14, 61, 62, 63]), (35, [0, 13, 14, 61, 62, 63]), (36, [4, 5])]),
  (30, [(0, [0, 1]), (1, [0, 1, 6]), (2, [0, 1, 6, 7]), (3, [0, 1, 6, 7, 20]), (4, [0, 1, 6, 7]), (5, [0, 1, 6, 7]), (6, [0, 1, 32]), (7, [4, 5]), (8, [0, 1, 8]), (9, [0, 1, 8, 36]), (10, [0, 1, 8]), (11, [0, 1, 8, 48]), (12, [4, 5]), (13, [0, 1, 51]), (14, [4, 5]), (15, [0, 1, 9]), (16, [0, 1, 9, 10]), (17, [0, 1, 9, 10, 11]), (18, [0, 1, 9, 10, 11, 58]), (19, [0, 1, 9, 10, 11]), (20, [0, 1, 9, 10, 11, 64]), (21, [0, 1, 9, 10, 11, 12]), (22, [0, 1, 9, 10, 11, 12, 13]), (23, [0, 1, 9, 10, 11, 12, 13, 69]), (24, [0, 1, 9, 10, 11, 12, 13]), (25, [0, 1, 9, 10, 11, 12, 13, 14]), (26, [0, 1, 9, 10, 11, 12, 13, 14, 82]), (27, [0, 1, 9, 10, 11, 12, 13, 14]), (28, [0, 1, 9, 10, 11, 12, 13, 14, 98]), (29, [0, 1, 9, 10, 11, 12, 13, 14]), (30, [0, 1, 9, 10, 11, 12, 13, 14]), (31, [0, 1, 9, 10, 11]), (32, [4, 5])]),
  (36, [(0, [0, 1]), (1, [0, 1, 5]), (2, [1, 5, 6]), (3, [1, 5, 6, 20]), (4, [1, 5, 6, 7]), (5, [1, 5, 6, 7]), (6, [1, 5, 6, 7, 8]), (7, [1, 5, 6, 7, 8, 35]), (8, [1, 5, 6, 7, 8]), (9, [1, 5, 6, 7, 8, 9]), (10, [1, 5, 6, 7, 8, 9, 10, 11]), (11, [1, 5, 6, 7, 8, 9, 10, 51]), (12, [1, 5, 6, 7, 8, 9]), (13, [1, 5, 6, 7, 8]), (14, [4])]),
  (47, [(0, [0, 1, 2, 3, 4, 10]), (1, [0, 1, 2, 3, 4, 10, 11]), (2, [0, 1, 2, 3, 4, 10, 11, 12]), (3, [0, 1, 2, 3, 4, 10, 11, 12, 25]), (4, []), (5, [0, 1, 2, 3, 4, 10, 11, 12, 32]), (6, []), (7, [0, 1, 2, 3, 4, 10, 11, 12, 39]), (8, [0, 1, 2, 3, 4, 10, 11, 12]), (9, [0, 1, 2, 3, 4, 10, 11, 12]), (10, [0, 1, 2, 3, 4, 10, 11, 12, 13, 14]), (11, [0, 1, 2, 3, 4, 10, 11, 12, 13, 14, 56]), (12, [0, 1, 2, 3, 4, 10, 11, 12, 13]), (13, [0, 1, 2, 3, 4, 10, 11, 12, 13]), (14, [0, 1, 2, 3, 4, 10, 11, 12, 13, 14]), (15, [0, 1, 2, 3, 4, 10, 11, 12, 13, 75]), (16, [0, 1, 2, 3, 4, 10, 11, 12, 13, 80]), (17, [0, 1, 2, 3, 4, 10, 11, 12, 13, 97]), (18, [0, 2, 3, 4, 10, 11, 15]), (19, [0, 1, 2, 3, 4, 10, 11]), (20, [0, 1, 2, 3, 4, 12, 16, 17]), (21, [0, 1, 2, 3, 4, 11, 12, 16]), (22, [0, 1, 2, 3, 4, 11, 12, 16, 18, 19]), (23, [0, 1, 2, 3, 4, 11, 16, 18, 19, 20]), (24, [0, 1, 2, 3, 4, 11, 16, 18, 19, 20, 125]), (25, [0, 1, 2, 3, 4, 10, 11, 16]), (26, [0, 2, 3, 4, 10, 11, 16]), (27, [0, 1, 2, 3, 4, 10, 11]), (28, [0, 1, 2, 3, 4, 10, 11, 16]), (29, [0, 1, 3, 4, 10, 11, 16]), (30, [0, 1, 2, 3, 4, 10, 11])]),
  (54, [(0, [0, 1, 8]), (1, [0, 1, 8, 17]), (2, [0, 1, 8, 9]), (3, [0, 1, 8, 9, 10]), (4, [0, 1, 8, 9, 10, 11]), (5, [0, 1, 8, 9, 10, 11, 35]), (6, [0, 1, 8, 9, 10, 11]), (7, [0, 1, 8, 9, 10, 11, 12]), (8, [0, 1, 8, 9, 10, 11, 12, 45]), (9, [0, 1, 8, 9, 10, 11, 12]), (10, [0, 1, 8, 9, 10, 11])]),
  (57, [(0, [0, 1, 2, 3]), (1, [0, 1, 2, 3, 9]), (2, [0, 1, 2, 3, 9, 10]), (3, [0, 1, 2, 3, 9, 10, 16]), (4, [0, 1, 2, 3, 9, 10]), (5, [0, 1, 2, 3, 9, 10, 36]), (6, [0, 1, 2, 3, 9, 10]), (7, [0, 1, 2, 3, 9, 10, 41]), (8, [8]), (9, [0, 1, 2, 3, 9, 10, 45]), (10, [8]), (11, [0, 1, 2, 3, 9, 10]), (12, [0, 1, 2, 3, 9, 10, 65]), (13, [0, 1, 2, 3, 9, 10, 11]), (14, [0, 1, 2, 3, 9, 10, 11, 69]), (15, [0, 1, 2, 3, 9, 10, 11]), (16, [0, 1, 2, 3, 9, 10, 11, 84]), (17, [0, 1, 2, 3, 9, 10, 11]), (18, [0, 1, 2, 3, 9, 10, 104]), (19, [0, 1, 2, 3, 9, 10, 12]), (20, [0, 1, 2, 3, 9, 10, 12, 109]), (21, [0, 1, 2, 3, 9, 10, 12]), (22, [0, 1, 2, 3, 9, 10, 12, 124]), (23, [0, 1, 2, 3, 9, 10, 12]), (24, [8])]),
  (58, [(0, [0, 1, 2, 3, 4]), (1, [0, 1, 2, 4]), (2, [0, 1, 4, 11, 12]), (3, [0, 1, 4, 11, 12, 47]), (4, [0, 1, 4, 11, 12]), (5, [0, 1, 4, 11, 12, 65]), (6, [0, 1, 4, 11, 12]), (7, [0, 1, 4, 11, 12, 70]), (8, [0, 1, 4, 11, 12]), (9, [0, 1, 4, 11, 12]), (10, [0, 1, 4, 11, 12]), (11, [10])]),
  (59, [(0, [0, 1, 2, 3, 4]), (1, [0, 1, 2, 4]), (2, [0, 1, 4, 12, 13]), (3, [0, 1, 4, 12, 13, 47]), (4, [0, 1, 4, 12, 13]), (5, [0, 1, 4, 12, 13, 66]), (6, [0, 1, 4, 12, 13]), (7, [0, 1, 4, 12, 13, 71]), (8, [13]), (9, [10, 11]), (10, [0, 1, 4, 12, 13]), (11, [0, 1, 4, 12, 13]), (12, [0, 1, 4, 12, 13]), (13, [0, 1, 4, 12, 13, 120]), (14, [0, 1, 4, 12, 13]), (15, [0, 1, 4, 12, 13, 139]), (16, [0, 1, 4, 12, 13]), (17, [0, 1, 4, 12, 13, 144]), (18, [0, 1, 4, 12, 13]), (19, [0, 1, 4, 12, 13]), (20, [0, 1, 4, 12, 13]), (21, [13]), (22, [10, 11])]),
  (63, [(0, [0, 2, 3, 4, 10]), (1, [0, 2, 3, 4, 10, 11]), (2, [0, 2, 3, 4, 10, 11, 18]), (3, [0, 2, 3, 4, 10, 11, 40]), (4, [0, 2, 3, 4, 10, 11]), (5, [0, 2, 3, 4, 10, 11, 58]), (6, [0, 2, 3, 4, 11]), (7, [0, 2, 3, 4, 10])])]
def Try.shared (f : FuncId) : Bool := [34, 47, 52, 53, 54, 55, 56, 57, 58, 59, 63, 65, 66, 67, 68].contains f
noncomputable def Try.cfg : Cfg := { P := Try.prog, shared := Try.shared, ov := fun _ => none, ann := annOf Try.ann, pr := prOf Try.prT }
theorem Try.cfgP : Try.cfg.P = Try.prog := rfl
theorem Try.cfgO (f : FuncId) : Try.cfg.ov f = none := rfl
theorem Try.fitText : ((List.range Try.prog.funcs.size).all fun f => match Try.prog.funcs[f]? with | some fn => okFn Try.shared fn | none => true) = true := by kernel_rfl
theorem Try.mixed : Try.prog.follows .mixedOrders = true := by kernel_rfl
theorem Try.fit : Fit Try.cfg := by
  refine ⟨Try.mixed, fun f fn _ hf => ?_, fun f hf k i o cl m z h => ?_, fun f g h => by cases h⟩
  · have hlt : f < Try.prog.funcs.size := (Array.getElem?_eq_some_iff.1 hf).1
    have := List.all_eq_true.1 Try.fitText f (by simpa using hlt)
    have hf' : Try.prog.funcs[f]? = some fn := hf
    rw [hf'] at this
    exact this
  · exact annOf_cut (T := Try.ann) (sh := Try.shared) rfl hf h
theorem Try.sh0 : Try.cfg.shared 0 = false := rfl
theorem Try.sh1 : Try.cfg.shared 1 = false := rfl
theorem Try.sh2 : Try.cfg.shared 2 = false := rfl
theorem Try.sh3 : Try.cfg.shared 3 = false := rfl
theorem Try.sh4 : Try.cfg.shared 4 = false := rfl
theorem Try.sh5 : Try.cfg.shared 5 = false := rfl
theorem Try.sh6 : Try.cfg.shared 6 = false := rfl
theorem Try.sh7 : Try.cfg.shared 7 = false := rfl
theorem Try.sh8 : Try.cfg.shared 8 = false := rfl
theorem Try.sh9 : Try.cfg.shared 9 = false := rfl
theorem Try.sh10 : Try.cfg.shared 10 = false := rfl
theorem Try.sh11 : Try.cfg.shared 11 = false := rfl
theorem Try.sh12 : Try.cfg.shared 12 = false := rfl
theorem Try.sh13 : Try.cfg.shared 13 = false := rfl
theorem Try.sh14 : Try.cfg.shared 14 = false := rfl
theorem Try.sh15 : Try.cfg.shared 15 = false := rfl
theorem Try.sh16 : Try.cfg.shared 16 = false := rfl
theorem Try.sh17 : Try.cfg.shared 17 = false := rfl
theorem Try.sh18 : Try.cfg.shared 18 = false := rfl
theorem Try.sh19 : Try.cfg.shared 19 = false := rfl
theorem Try.sh20 : Try.cfg.shared 20 = false := rfl
theorem Try.sh21 : Try.cfg.shared 21 = false := rfl
theorem Try.sh22 : Try.cfg.shared 22 = false := rfl
theorem Try.sh23 : Try.cfg.shared 23 = false := rfl
theorem Try.sh24 : Try.cfg.shared 24 = false := rfl
theorem Try.sh25 : Try.cfg.shared 25 = false := rfl
theorem Try.sh26 : Try.cfg.shared 26 = false := rfl
theorem Try.sh27 : Try.cfg.shared 27 = false := rfl
theorem Try.sh28 : Try.cfg.shared 28 = false := rfl
theorem Try.sh29 : Try.cfg.shared 29 = false := rfl
theorem Try.sh30 : Try.cfg.shared 30 = false := rfl
theorem Try.sh31 : Try.cfg.shared 31 = false := rfl
theorem Try.sh32 : Try.cfg.shared 32 = false := rfl
theorem Try.sh33 : Try.cfg.shared 33 = false := rfl
theorem Try.sh34 : Try.cfg.shared 34 = true := rfl
theorem Try.sh35 : Try.cfg.shared 35 = false := rfl
theorem Try.sh36 : Try.cfg.shared 36 = false := rfl
theorem Try.sh37 : Try.cfg.shared 37 = false := rfl
theorem Try.sh38 : Try.cfg.shared 38 = false := rfl
theorem Try.sh39 : Try.cfg.shared 39 = false := rfl
theorem Try.sh40 : Try.cfg.shared 40 = false := rfl
theorem Try.sh41 : Try.cfg.shared 41 = false := rfl
theorem Try.sh42 : Try.cfg.shared 42 = false := rfl
theorem Try.sh43 : Try.cfg.shared 43 = false := rfl
theorem Try.sh44 : Try.cfg.shared 44 = false := rfl
theorem Try.sh45 : Try.cfg.shared 45 = false := rfl
theorem Try.sh46 : Try.cfg.shared 46 = false := rfl
theorem Try.sh47 : Try.cfg.shared 47 = true := rfl
theorem Try.sh48 : Try.cfg.shared 48 = false := rfl
theorem Try.sh49 : Try.cfg.shared 49 = false := rfl
theorem Try.sh50 : Try.cfg.shared 50 = false := rfl
theorem Try.sh51 : Try.cfg.shared 51 = false := rfl
theorem Try.sh52 : Try.cfg.shared 52 = true := rfl
theorem Try.sh53 : Try.cfg.shared 53 = true := rfl
theorem Try.sh54 : Try.cfg.shared 54 = true := rfl
theorem Try.sh55 : Try.cfg.shared 55 = true := rfl
theorem Try.sh56 : Try.cfg.shared 56 = true := rfl
theorem Try.sh57 : Try.cfg.shared 57 = true := rfl
theorem Try.sh58 : Try.cfg.shared 58 = true := rfl
theorem Try.sh59 : Try.cfg.shared 59 = true := rfl
theorem Try.sh60 : Try.cfg.shared 60 = false := rfl
theorem Try.sh61 : Try.cfg.shared 61 = false := rfl
theorem Try.sh62 : Try.cfg.shared 62 = false := rfl
theorem Try.sh63 : Try.cfg.shared 63 = true := rfl
theorem Try.sh64 : Try.cfg.shared 64 = false := rfl
theorem Try.sh65 : Try.cfg.shared 65 = true := rfl
theorem Try.sh66 : Try.cfg.shared 66 = true := rfl
theorem Try.sh67 : Try.cfg.shared 67 = true := rfl
theorem Try.sh68 : Try.cfg.shared 68 = true := rfl
theorem Try.sh69 : Try.cfg.shared 69 = false := rfl
theorem Try.sh70 : Try.cfg.shared 70 = false := rfl
theorem Try.sh71 : Try.cfg.shared 71 = false := rfl
theorem Try.sh72 : Try.cfg.shared 72 = false := rfl
theorem Try.sh73 : Try.cfg.shared 73 = false := rfl
theorem Try.sh74 : Try.cfg.shared 74 = false := rfl
theorem Try.sh75 : Try.cfg.shared 75 = false := rfl
theorem Try.sh76 : Try.cfg.shared 76 = false := rfl
theorem Try.sh77 : Try.cfg.shared 77 = false := rfl
theorem Try.sh78 : Try.cfg.shared 78 = false := rfl
theorem Try.sh79 : Try.cfg.shared 79 = false := rfl
theorem Try.sh80 : Try.cfg.shared 80 = false := rfl
theorem Try.sh81 : Try.cfg.shared 81 = false := rfl
theorem Try.sh82 : Try.cfg.shared 82 = false := rfl
theorem Try.sh83 : Try.cfg.shared 83 = false := rfl
theorem Try.sh84 : Try.cfg.shared 84 = false := rfl
theorem Try.sh85 : Try.cfg.shared 85 = false := rfl
theorem Try.pr2_n (i : Nat) : Try.cfg.pr 2 i = none := show prOf Try.prT 2 i = none from prOf_none (by kernel_rfl) i
theorem Try.ann2_r : Try.cfg.ann 2 999999 = some ([], [], [], none, []) := by kernel_rfl
theorem Try.pr3_n (i : Nat) : Try.cfg.pr 3 i = none := show prOf Try.prT 3 i = none from prOf_none (by kernel_rfl) i
theorem Try.ann3_r : Try.cfg.ann 3 999999 = some ([4], [4], [], none, []) := by kernel_rfl
theorem Try.pr4_0 : Try.cfg.pr 4 0 = some [0, 1, 2, 3] := by kernel_rfl
theorem Try.pr4_1 : Try.cfg.pr 4 1 = some [0, 1, 2, 3, 31] := by kernel_rfl
theorem Try.pr4_2 : Try.cfg.pr 4 2 = some [8] := by kernel_rfl
theorem Try.pr4_3 : Try.cfg.pr 4 3 = some [0, 1, 2, 3] := by kernel_rfl
theorem Try.pr4_4 : Try.cfg.pr 4 4 = some [0, 1, 2, 3] := by kernel_rfl
theorem Try.pr4_5 : Try.cfg.pr 4 5 = some [0, 1, 2, 3, 9, 10] := by kernel_rfl
theorem Try.pr4_6 : Try.cfg.pr 4 6 = some [0, 2, 3, 9, 10, 11, 12] := by kernel_rfl
theorem Try.pr4_7 : Try.cfg.pr 4 7 = some [0, 3, 10, 11, 12, 13, 14] := by kernel_rfl
theorem Try.pr4_8 : Try.cfg.pr 4 8 = some [0, 3, 10, 12, 13, 14, 15, 16] := by kernel_rfl
theorem Try.pr4_9 : Try.cfg.pr 4 9 = some [0, 3, 10, 12, 13, 14, 15, 16, 17, 18] := by kernel_rfl
theorem Try.pr4_10 : Try.cfg.pr 4 10 = some [0, 3, 10, 12, 13, 14, 15, 16, 18, 19, 20] := by kernel_rfl
theorem Try.pr4_11 : Try.cfg.pr 4 11 = some [0, 3, 10, 12, 13, 14, 15, 16, 18, 19, 20, 21, 22] := by kernel_rfl
theorem Try.pr4_12 : Try.cfg.pr 4 12 = some [0, 3, 19, 21, 123] := by kernel_rfl
theorem Try.pr4_13 : Try.cfg.pr 4 13 = some [8] := by kernel_rfl
theorem Try.pr4_14 : Try.cfg.pr 4 14 = some [0, 3, 19, 21, 23] := by kernel_rfl
theorem Try.pr4_15 : Try.cfg.pr 4 15 = some [0, 3, 19, 21, 23, 24] := by kernel_rfl
theorem Try.pr4_16 : Try.cfg.pr 4 16 = some [0, 3, 19, 21, 23, 24, 127] := by kernel_rfl
theorem Try.pr4_17 : Try.cfg.pr 4 17 = some [0, 3, 19, 21, 23, 24] := by kernel_rfl
theorem Try.pr4_18 : Try.cfg.pr 4 18 = some [0, 3, 19, 21, 23, 24, 142] := by kernel_rfl
theorem Try.pr4_19 : Try.cfg.pr 4 19 = some [8] := by kernel_rfl
theorem Try.pr4_20 : Try.cfg.pr 4 20 = some [0, 3, 10, 19, 21, 23, 24] := by kernel_rfl
theorem Try.pr4_21 : Try.cfg.pr 4 21 = some [0, 3, 19, 21, 23, 24, 150] := by kernel_rfl
theorem Try.pr4_22 : Try.cfg.pr 4 22 = some [8] := by kernel_rfl
theorem Try.pr4_23 : Try.cfg.pr 4 23 = some [3, 19, 23, 25] := by kernel_rfl
theorem Try.pr4_24 : Try.cfg.pr 4 24 = some [3, 19, 23, 25, 153] := by kernel_rfl
theorem Try.pr4_25 : Try.cfg.pr 4 25 = some [3, 19, 23, 25] := by kernel_rfl
theorem Try.pr4_26 : Try.cfg.pr 4 26 = some [3, 19, 23, 25, 161] := by kernel_rfl
theorem Try.pr4_27 : Try.cfg.pr 4 27 = some [8] := by kernel_rfl
theorem Try.pr4_28 : Try.cfg.pr 4 28 = some [8] := by kernel_rfl
theorem Try.ann4_r : Try.cfg.ann 4 999999 = some ([8], [8], [], none, []) := by kernel_rfl
theorem Try.ann4_0 : Try.cfg.ann 4 0 = some ([0, 3, 19, 21, 23, 24], [3, 19, 23], [], none, []) := by kernel_rfl
theorem Try.ann4_1 : Try.cfg.ann 4 1 = none := by kernel_rfl
theorem Try.ann4_2 : Try.cfg.ann 4 2 = some ([3, 19, 23, 25], [19, 23], [], none, []) := by kernel_rfl
theorem Try.ann4_3 : Try.cfg.ann 4 3 = none := by kernel_rfl
theorem Try.pr5_0 : Try.cfg.pr 5 0 = some [0, 1, 2, 3] := by kernel_rfl
theorem Try.pr5_1 : Try.cfg.pr 5 1 = some [0, 1, 2, 3, 25] := by kernel_rfl
theorem Try.pr5_2 : Try.cfg.pr 5 2 = some [8] := by kernel_rfl
theorem Try.pr5_3 : Try.cfg.pr 5 3 = some [0, 1, 2, 28] := by kernel_rfl
theorem Try.pr5_4 : Try.cfg.pr 5 4 = some [0, 1, 2] := by kernel_rfl
theorem Try.pr5_5 : Try.cfg.pr 5 5 = some [0, 1] := by kernel_rfl
theorem Try.pr5_6 : Try.cfg.pr 5 6 = some [0, 1, 9, 10] := by kernel_rfl
theorem Try.pr5_7 : Try.cfg.pr 5 7 = some [0, 9, 10, 11, 12] := by kernel_rfl
theorem Try.pr5_8 : Try.cfg.pr 5 8 = some [0, 9, 10, 11, 12, 13, 14] := by kernel_rfl
theorem Try.pr5_9 : Try.cfg.pr 5 9 = some [0, 9, 10, 11, 12, 13, 14, 15, 16] := by kernel_rfl
theorem Try.pr5_10 : Try.cfg.pr 5 10 = some [0, 85] := by kernel_rfl
theorem Try.pr5_11 : Try.cfg.pr 5 11 = some [8] := by kernel_rfl
theorem Try.pr5_12 : Try.cfg.pr 5 12 = some [0, 10, 17] := by kernel_rfl
theorem Try.pr5_13 : Try.cfg.pr 5 13 = some [0, 10, 12, 17, 18] := by kernel_rfl
theorem Try.pr5_14 : Try.cfg.pr 5 14 = some [0, 10, 12, 14, 17, 18, 19] := by kernel_rfl
theorem Try.pr5_15 : Try.cfg.pr 5 15 = some [10, 12, 14, 16, 17, 18, 19, 20] := by kernel_rfl
theorem Try.pr5_16 : Try.cfg.pr 5 16 = some [8] := by kernel_rfl
theorem Try.ann5_r : Try.cfg.ann 5 999999 = some ([8], [8], [], none, []) := by kernel_rfl
theorem Try.pr6_0 : Try.cfg.pr 6 0 = some [0, 1, 2, 3, 4, 5] := by kernel_rfl
theorem Try.pr6_1 : Try.cfg.pr 6 1 = some [0, 1, 2, 3, 4, 5, 43] := by kernel_rfl
theorem Try.pr6_2 : Try.cfg.pr 6 2 = some [12] := by kernel_rfl
theorem Try.pr6_3 : Try.cfg.pr 6 3 = some [3, 4, 5, 13] := by kernel_rfl
theorem Try.pr6_4 : Try.cfg.pr 6 4 = some [3, 4, 13, 52] := by kernel_rfl
theorem Try.pr6_5 : Try.cfg.pr 6 5 = some [3, 13] := by kernel_rfl
theorem Try.pr6_6 : Try.cfg.pr 6 6 = some [3, 13, 15, 16] := by kernel_rfl
theorem Try.pr6_7 : Try.cfg.pr 6 7 = some [15, 16, 17, 18] := by kernel_rfl
theorem Try.pr6_8 : Try.cfg.pr 6 8 = some [12] := by kernel_rfl
theorem Try.ann6_r : Try.cfg.ann 6 999999 = some ([12], [12], [], none, []) := by kernel_rfl
theorem Try.pr7_n (i : Nat) : Try.cfg.pr 7 i = none := show prOf Try.prT 7 i = none from prOf_none (by kernel_rfl) i
theorem Try.ann7_r : Try.cfg.ann 7 999999 = some ([6], [6], [], none, []) := by kernel_rfl
theorem Try.ann7_0 : Try.cfg.ann 7 0 = some ([0, 2, 7], [], [], none, []) := by kernel_rfl
theorem Try.ann7_1 : Try.cfg.ann 7 1 = none := by kernel_rfl
theorem Try.pr8_n (i : Nat) : Try.cfg.pr 8 i = none := show prOf Try.prT 8 i = none from prOf_none (by kernel_rfl) i
theorem Try.ann8_r : Try.cfg.ann 8 999999 = some ([0], [0], [], none, []) := by kernel_rfl
theorem Try.pr9_0 : Try.cfg.pr 9 0 = some [0, 1] := by kernel_rfl
theorem Try.pr9_1 : Try.cfg.pr 9 1 = some [0, 1, 21] := by kernel_rfl
theorem Try.pr9_2 : Try.cfg.pr 9 2 = some [4, 5] := by kernel_rfl
theorem Try.pr9_3 : Try.cfg.pr 9 3 = some [0, 1, 24] := by kernel_rfl
theorem Try.pr9_4 : Try.cfg.pr 9 4 = some [4, 5] := by kernel_rfl
theorem Try.pr9_5 : Try.cfg.pr 9 5 = some [0, 1, 25, 26, 27] := by kernel_rfl
theorem Try.pr9_6 : Try.cfg.pr 9 6 = some [0, 1, 25, 26, 27, 28] := by kernel_rfl
theorem Try.pr9_7 : Try.cfg.pr 9 7 = some [0, 1, 7, 25, 26, 27] := by kernel_rfl
theorem Try.pr9_8 : Try.cfg.pr 9 8 = some [0, 1, 25, 26, 27, 33] := by kernel_rfl
theorem Try.pr9_9 : Try.cfg.pr 9 9 = some [4, 5] := by kernel_rfl
theorem Try.pr9_10 : Try.cfg.pr 9 10 = some [0, 1, 25, 26, 27] := by kernel_rfl
theorem Try.pr9_11 : Try.cfg.pr 9 11 = some [0, 1, 35, 36, 37] := by kernel_rfl
theorem Try.pr9_12 : Try.cfg.pr 9 12 = some [0, 1, 35, 36, 37, 38] := by kernel_rfl
theorem Try.pr9_13 : Try.cfg.pr 9 13 = some [0, 1, 9, 35, 36, 37] := by kernel_rfl
theorem Try.pr9_14 : Try.cfg.pr 9 14 = some [0, 1, 35, 36, 37, 44] := by kernel_rfl
theorem Try.pr9_15 : Try.cfg.pr 9 15 = some [4, 5] := by kernel_rfl
theorem Try.pr9_16 : Try.cfg.pr 9 16 = some [0, 1, 35, 36, 37] := by kernel_rfl
theorem Try.pr9_17 : Try.cfg.pr 9 17 = some [1, 10] := by kernel_rfl
theorem Try.pr9_18 : Try.cfg.pr 9 18 = some [1, 10, 11] := by kernel_rfl
theorem Try.pr9_19 : Try.cfg.pr 9 19 = some [1, 10, 11, 12] := by kernel_rfl
theorem Try.pr9_20 : Try.cfg.pr 9 20 = some [1, 10, 11, 12, 58] := by kernel_rfl
theorem Try.pr9_21 : Try.cfg.pr 9 21 = some [1, 10, 11, 12] := by kernel_rfl
theorem Try.pr9_22 : Try.cfg.pr 9 22 = some [1, 10, 11, 12, 61, 62, 63] := by kernel_rfl
theorem Try.pr9_23 : Try.cfg.pr 9 23 = some [1, 10, 11, 12, 61, 62, 63, 64] := by kernel_rfl
theorem Try.pr9_24 : Try.cfg.pr 9 24 = some [1, 10, 11, 12, 14, 61, 62, 63] := by kernel_rfl
theorem Try.pr9_25 : Try.cfg.pr 9 25 = some [1, 10, 11, 12, 15, 61, 62, 63] := by kernel_rfl
theorem Try.pr9_26 : Try.cfg.pr 9 26 = some [1, 10, 11, 12, 15, 61, 62, 63, 77] := by kernel_rfl
theorem Try.pr9_27 : Try.cfg.pr 9 27 = some [1, 10, 11, 12, 15, 61, 62, 63] := by kernel_rfl
theorem Try.pr9_28 : Try.cfg.pr 9 28 = some [1, 10, 11, 12, 61, 62, 63] := by kernel_rfl
theorem Try.pr9_29 : Try.cfg.pr 9 29 = some [1, 10, 11, 12, 61, 62, 63] := by kernel_rfl
theorem Try.pr9_30 : Try.cfg.pr 9 30 = some [10] := by kernel_rfl
theorem Try.pr9_31 : Try.cfg.pr 9 31 = some [4, 5] := by kernel_rfl
theorem Try.ann9_r : Try.cfg.ann 9 999999 = some ([4, 5], [4, 5], [], none, []) := by kernel_rfl
theorem Try.ann9_0 : Try.cfg.ann 9 0 = some ([0, 1, 25, 26, 27], [0, 1], [], none, []) := by kernel_rfl
theorem Try.ann9_1 : Try.cfg.ann 9 1 = none := by kernel_rfl
theorem Try.ann9_2 : Try.cfg.ann 9 2 = some ([0, 1, 35, 36, 37], [0, 1], [], none, []) := by kernel_rfl
theorem Try.ann9_3 : Try.cfg.ann 9 3 = none := by kernel_rfl
theorem Try.ann9_4 : Try.cfg.ann 9 4 = some ([1, 10, 11, 12], [10], [], none, []) := by kernel_rfl
theorem Try.ann9_5 : Try.cfg.ann 9 5 = none := by kernel_rfl
theorem Try.ann9_6 : Try.cfg.ann 9 6 = some ([1, 10, 11, 12, 61, 62, 63], [1, 10, 11, 12], [], none, []) := by kernel_rfl
theorem Try.ann9_7 : Try.cfg.ann 9 7 = none := by kernel_rfl
theorem Try.pr10_n (i : Nat) : Try.cfg.pr 10 i = none := show prOf Try.prT 10 i = none from prOf_none (by kernel_rfl) i
theorem Try.ann10_r : Try.cfg.ann 10 999999 = some ([4, 5], [4, 5], [], none, []) := by kernel_rfl
theorem Try.ann10_0 : Try.cfg.ann 10 0 = some ([0, 1, 6], [0, 1], [], none, []) := by kernel_rfl
theorem Try.ann10_1 : Try.cfg.ann 10 1 = none := by kernel_rfl
theorem Try.ann10_2 : Try.cfg.ann 10 2 = some ([0, 1, 7], [0, 1], [], none, []) := by kernel_rfl
theorem Try.ann10_3 : Try.cfg.ann 10 3 = none := by kernel_rfl
theorem Try.pr11_0 : Try.cfg.pr 11 0 = some [0] := by kernel_rfl
theorem Try.pr11_1 : Try.cfg.pr 11 1 = some [0, 3] := by kernel_rfl
theorem Try.pr11_2 : Try.cfg.pr 11 2 = some [0, 3, 11, 12, 13] := by kernel_rfl
theorem Try.pr11_3 : Try.cfg.pr 11 3 = some [0, 3, 11, 12, 13, 14] := by kernel_rfl
theorem Try.pr11_4 : Try.cfg.pr 11 4 = some [0, 3, 4, 5, 11, 12, 13] := by kernel_rfl
theorem Try.pr11_5 : Try.cfg.pr 11 5 = some [0, 3, 5, 11, 12, 13, 43] := by kernel_rfl
theorem Try.pr11_6 : Try.cfg.pr 11 6 = some [2] := by kernel_rfl
theorem Try.pr11_7 : Try.cfg.pr 11 7 = some [0, 3, 11, 12, 13] := by kernel_rfl
theorem Try.pr11_8 : Try.cfg.pr 11 8 = some [0, 3, 11, 12, 13] := by kernel_rfl
theorem Try.pr11_9 : Try.cfg.pr 11 9 = some [0, 3, 62] := by kernel_rfl
theorem Try.pr11_10 : Try.cfg.pr 11 10 = some [2] := by kernel_rfl
theorem Try.pr11_11 : Try.cfg.pr 11 11 = some [0, 3, 63, 64, 65] := by kernel_rfl
theorem Try.pr11_12 : Try.cfg.pr 11 12 = some [0, 3, 63, 64, 65, 66] := by kernel_rfl
theorem Try.pr11_13 : Try.cfg.pr 11 13 = some [0, 3, 7, 63, 64, 65] := by kernel_rfl
theorem Try.pr11_14 : Try.cfg.pr 11 14 = some [0, 3, 7, 63, 64, 65, 69, 70, 71] := by kernel_rfl
theorem Try.pr11_15 : Try.cfg.pr 11 15 = some [0, 3, 7, 63, 64, 65, 69, 70, 71, 72] := by kernel_rfl
theorem Try.pr11_16 : Try.cfg.pr 11 16 = some [0, 3, 7, 9, 63, 64, 65, 69, 70, 71] := by kernel_rfl
theorem Try.pr11_17 : Try.cfg.pr 11 17 = some [0, 3, 7, 63, 64, 65, 69, 70, 71, 81] := by kernel_rfl
theorem Try.pr11_18 : Try.cfg.pr 11 18 = some [2] := by kernel_rfl
theorem Try.pr11_19 : Try.cfg.pr 11 19 = some [0, 3, 7, 63, 64, 65, 69, 70, 71] := by kernel_rfl
theorem Try.pr11_20 : Try.cfg.pr 11 20 = some [0, 3, 63, 64, 65] := by kernel_rfl
theorem Try.pr11_21 : Try.cfg.pr 11 21 = some [2] := by kernel_rfl
theorem Try.ann11_r : Try.cfg.ann 11 999999 = some ([2], [2], [], none, []) := by kernel_rfl
theorem Try.ann11_0 : Try.cfg.ann 11 0 = some ([0, 3, 11, 12, 13], [0, 3], [], none, []) := by kernel_rfl
theorem Try.ann11_1 : Try.cfg.ann 11 1 = none := by kernel_rfl
theorem Try.ann11_2 : Try.cfg.ann 11 2 = some ([0, 3, 63, 64, 65], [], [], none, []) := by kernel_rfl
theorem Try.ann11_3 : Try.cfg.ann 11 3 = none := by kernel_rfl
theorem Try.ann11_4 : Try.cfg.ann 11 4 = some ([0, 3, 7, 63, 64, 65, 69, 70, 71], [0, 3, 63, 64, 65], [], none, []) := by kernel_rfl
theorem Try.ann11_5 : Try.cfg.ann 11 5 = none := by kernel_rfl
theorem Try.pr12_0 : Try.cfg.pr 12 0 = some [0] := by kernel_rfl
theorem Try.pr12_1 : Try.cfg.pr 12 1 = some [0, 34] := by kernel_rfl
theorem Try.pr12_2 : Try.cfg.pr 12 2 = some [2] := by kernel_rfl
theorem Try.pr12_3 : Try.cfg.pr 12 3 = some [0, 3] := by kernel_rfl
theorem Try.pr12_4 : Try.cfg.pr 12 4 = some [0, 3, 38] := by kernel_rfl
theorem Try.pr12_5 : Try.cfg.pr 12 5 = some [0, 3] := by kernel_rfl
theorem Try.pr12_6 : Try.cfg.pr 12 6 = some [0, 3, 71] := by kernel_rfl
theorem Try.pr12_7 : Try.cfg.pr 12 7 = some [2] := by kernel_rfl
theorem Try.pr12_8 : Try.cfg.pr 12 8 = some [0, 4] := by kernel_rfl
theorem Try.pr12_9 : Try.cfg.pr 12 9 = some [0, 4, 75] := by kernel_rfl
theorem Try.pr12_10 : Try.cfg.pr 12 10 = some [0, 4] := by kernel_rfl
theorem Try.pr12_11 : Try.cfg.pr 12 11 = some [0, 4, 5] := by kernel_rfl
theorem Try.pr12_12 : Try.cfg.pr 12 12 = some [0, 4, 5, 81] := by kernel_rfl
theorem Try.pr12_13 : Try.cfg.pr 12 13 = some [0, 4, 5] := by kernel_rfl
theorem Try.pr12_14 : Try.cfg.pr 12 14 = some [0, 4, 5, 7] := by kernel_rfl
theorem Try.pr12_15 : Try.cfg.pr 12 15 = some [0, 4, 5, 99] := by kernel_rfl
theorem Try.pr12_16 : Try.cfg.pr 12 16 = some [2] := by kernel_rfl
theorem Try.pr12_17 : Try.cfg.pr 12 17 = some [2] := by kernel_rfl
theorem Try.ann12_r : Try.cfg.ann 12 999999 = some ([2], [2], [], none, []) := by kernel_rfl
theorem Try.ann12_0 : Try.cfg.ann 12 0 = some ([0, 3], [0], [], none, []) := by kernel_rfl
theorem Try.ann12_1 : Try.cfg.ann 12 1 = none := by kernel_rfl
theorem Try.ann12_2 : Try.cfg.ann 12 2 = some ([0, 4], [], [], none, []) := by kernel_rfl
theorem Try.ann12_3 : Try.cfg.ann 12 3 = none := by kernel_rfl
theorem Try.ann12_4 : Try.cfg.ann 12 4 = some ([0, 4, 5], [0, 4], [], none, []) := by kernel_rfl
theorem Try.ann12_5 : Try.cfg.ann 12 5 = none := by kernel_rfl
theorem Try.pr13_n (i : Nat) : Try.cfg.pr 13 i = none := show prOf Try.prT 13 i = none from prOf_none (by kernel_rfl) i
theorem Try.ann13_r : Try.cfg.ann 13 999999 = some ([4], [4], [], none, []) := by kernel_rfl
theorem Try.ann13_0 : Try.cfg.ann 13 0 = some ([0, 1, 5], [], [], none, []) := by kernel_rfl
theorem Try.ann13_1 : Try.cfg.ann 13 1 = none := by kernel_rfl
theorem Try.pr14_n (i : Nat) : Try.cfg.pr 14 i = none := show prOf Try.prT 14 i = none from prOf_none (by kernel_rfl) i
theorem Try.ann14_r : Try.cfg.ann 14 999999 = some ([2], [2], [], none, []) := by kernel_rfl
theorem Try.ann14_0 : Try.cfg.ann 14 0 = some ([0, 3], [], [], none, []) := by kernel_rfl
theorem Try.ann14_1 : Try.cfg.ann 14 1 = none := by kernel_rfl
theorem Try.pr15_n (i : Nat) : Try.cfg.pr 15 i = none := show prOf Try.prT 15 i = none from prOf_none (by kernel_rfl) i
theorem Try.ann15_r : Try.cfg.ann 15 999999 = some ([4], [4], [], none, []) := by kernel_rfl
theorem Try.pr16_n (i : Nat) : Try.cfg.pr 16 i = none := show prOf Try.prT 16 i = none from prOf_none (by kernel_rfl) i
theorem Try.ann16_r : Try.cfg.ann 16 999999 = some ([4], [4], [], none, []) := by kernel_rfl
theorem Try.ann16_0 : Try.cfg.ann 16 0 = some ([0, 1, 5, 6], [5], [5], some 1, []) := by kernel_rfl
theorem Try.ann16_1 : Try.cfg.ann 16 1 = none := by kernel_rfl
theorem Try.pr17_n (i : Nat) : Try.cfg.pr 17 i = none := show prOf Try.prT 17 i = none from prOf_none (by kernel_rfl) i
theorem Try.ann17_r : Try.cfg.ann 17 999999 = some ([4, 5], [4, 5], [], none, []) := by kernel_rfl
theorem Try.ann17_0 : Try.cfg.ann 17 0 = none := by kernel_rfl
theorem Try.pr18_n (i : Nat) : Try.cfg.pr 18 i = none := show prOf Try.prT 18 i = none from prOf_none (by kernel_rfl) i
theorem Try.ann18_r : Try.cfg.ann 18 999999 = some ([2, 3], [2, 3], [], none, []) := by kernel_rfl
theorem Try.ann18_0 : Try.cfg.ann 18 0 = some ([4, 13, 14, 15], [4], [], none, []) := by kernel_rfl
theorem Try.ann18_1 : Try.cfg.ann 18 1 = none := by kernel_rfl
theorem Try.pr19_n (i : Nat) : Try.cfg.pr 19 i = none := show prOf Try.prT 19 i = none from prOf_none (by kernel_rfl) i
theorem Try.ann19_r : Try.cfg.ann 19 999999 = some ([2, 3], [2, 3], [], none, []) := by kernel_rfl
theorem Try.ann19_0 : Try.cfg.ann 19 0 = some ([0, 4, 5, 6], [5], [], none, []) := by kernel_rfl
theorem Try.ann19_1 : Try.cfg.ann 19 1 = none := by kernel_rfl
theorem Try.pr20_n (i : Nat) : Try.cfg.pr 20 i = none := show prOf Try.prT 20 i = none from prOf_none (by kernel_rfl) i
theorem Try.ann20_r : Try.cfg.ann 20 999999 = some ([4], [4], [], none, []) := by kernel_rfl
theorem Try.ann20_0 : Try.cfg.ann 20 0 = some ([0, 1, 5], [], [], none, []) := by kernel_rfl
theorem Try.ann20_1 : Try.cfg.ann 20 1 = none := by kernel_rfl
theorem Try.pr21_n (i : Nat) : Try.cfg.pr 21 i = none := show prOf Try.prT 21 i = none from prOf_none (by kernel_rfl) i
theorem Try.ann21_r : Try.cfg.ann 21 999999 = some ([4, 5], [4, 5], [], none, []) := by kernel_rfl
theorem Try.pr22_n (i : Nat) : Try.cfg.pr 22 i = none := show prOf Try.prT 22 i = none from prOf_none (by kernel_rfl) i
theorem Try.ann22_r : Try.cfg.ann 22 999999 = some ([2, 3], [2, 3], [], none, []) := by kernel_rfl
theorem Try.ann22_0 : Try.cfg.ann 22 0 = some ([0, 4, 5], [4], [], none, []) := by kernel_rfl
theorem Try.ann22_1 : Try.cfg.ann 22 1 = none := by kernel_rfl
theorem Try.pr23_n (i : Nat) : Try.cfg.pr 23 i = none := show prOf Try.prT 23 i = none from prOf_none (by kernel_rfl) i
theorem Try.ann23_r : Try.cfg.ann 23 999999 = some ([2], [2], [], none, []) := by kernel_rfl
theorem Try.ann23_0 : Try.cfg.ann 23 0 = some ([0, 3, 9, 10, 11], [], [], none, []) := by kernel_rfl
theorem Try.ann23_1 : Try.cfg.ann 23 1 = none := by kernel_rfl
theorem Try.pr24_n (i : Nat) : Try.cfg.pr 24 i = none := show prOf Try.prT 24 i = none from prOf_none (by kernel_rfl) i
theorem Try.ann24_r : Try.cfg.ann 24 999999 = some ([2], [2], [], none, []) := by kernel_rfl
theorem Try.ann24_0 : Try.cfg.ann 24 0 = some ([0, 3, 4], [], [], none, []) := by kernel_rfl
theorem Try.ann24_1 : Try.cfg.ann 24 1 = none := by kernel_rfl
theorem Try.pr25_n (i : Nat) : Try.cfg.pr 25 i = none := show prOf Try.prT 25 i = none from prOf_none (by kernel_rfl) i
theorem Try.ann25_r : Try.cfg.ann 25 999999 = some ([2, 3], [2, 3], [], none, []) := by kernel_rfl
theorem Try.ann25_0 : Try.cfg.ann 25 0 = some ([0, 4, 5], [4], [], none, []) := by kernel_rfl
theorem Try.ann25_1 : Try.cfg.ann 25 1 = none := by kernel_rfl
theorem Try.pr26_n (i : Nat) : Try.cfg.pr 26 i = none := show prOf Try.prT 26 i = none from prOf_none (by kernel_rfl) i
theorem Try.ann26_r : Try.cfg.ann 26 999999 = some ([2, 3], [2, 3], [], none, []) := by kernel_rfl
theorem Try.ann26_0 : Try.cfg.ann 26 0 = some ([0, 4, 5, 16, 17], [4], [], some 3, []) := by kernel_rfl
theorem Try.ann26_1 : Try.cfg.ann 26 1 = none := by kernel_rfl
theorem Try.ann26_2 : Try.cfg.ann 26 2 = some ([0, 4, 5, 7, 8, 16, 17], [0, 4, 5, 7, 16, 17], [], none, [7]) := by kernel_rfl
theorem Try.ann26_3 : Try.cfg.ann 26 3 = none := by kernel_rfl
theorem Try.pr27_n (i : Nat) : Try.cfg.pr 27 i = none := show prOf Try.prT 27 i = none from prOf_none (by kernel_rfl) i
theorem Try.ann27_r : Try.cfg.ann 27 999999 = some ([2, 3], [2, 3], [], none, []) := by kernel_rfl
theorem Try.ann27_0 : Try.cfg.ann 27 0 = some ([0, 4, 5, 6], [4], [], some 3, []) := by kernel_rfl
theorem Try.ann27_1 : Try.cfg.ann 27 1 = none := by kernel_rfl
theorem Try.ann27_2 : Try.cfg.ann 27 2 = some ([0, 4, 5, 6, 7, 8], [0, 4, 5, 6, 7], [], none, [7]) := by kernel_rfl
theorem Try.ann27_3 : Try.cfg.ann 27 3 = none := by kernel_rfl
theorem Try.pr28_n (i : Nat) : Try.cfg.pr 28 i = none := show prOf Try.prT 28 i = none from prOf_none (by kernel_rfl) i
theorem Try.ann28_r : Try.cfg.ann 28 999999 = some ([6, 7], [6, 7], [], none, []) := by kernel_rfl
theorem Try.pr29_0 : Try.cfg.pr 29 0 = some [0, 1] := by kernel_rfl
theorem Try.pr29_1 : Try.cfg.pr 29 1 = some [0, 1, 23] := by kernel_rfl
theorem Try.pr29_2 : Try.cfg.pr 29 2 = some [4, 5] := by kernel_rfl
theorem Try.pr29_3 : Try.cfg.pr 29 3 = some [0, 1, 6] := by kernel_rfl
theorem Try.pr29_4 : Try.cfg.pr 29 4 = some [0, 1, 6, 24, 25, 26] := by kernel_rfl
theorem Try.pr29_5 : Try.cfg.pr 29 5 = some [0, 1, 6, 24, 25, 26, 27] := by kernel_rfl
theorem Try.pr29_6 : Try.cfg.pr 29 6 = some [0, 1, 6, 8, 24, 25, 26] := by kernel_rfl
theorem Try.pr29_7 : Try.cfg.pr 29 7 = some [0, 1, 6, 8, 24, 25, 26, 32] := by kernel_rfl
theorem Try.pr29_8 : Try.cfg.pr 29 8 = some [4, 5] := by kernel_rfl
theorem Try.pr29_9 : Try.cfg.pr 29 9 = some [0, 1, 6, 9, 24, 25, 26] := by kernel_rfl
theorem Try.pr29_10 : Try.cfg.pr 29 10 = some [0, 1, 6, 24, 25, 26] := by kernel_rfl
theorem Try.pr29_11 : Try.cfg.pr 29 11 = some [0, 1, 6, 24, 25, 26] := by kernel_rfl
theorem Try.pr29_12 : Try.cfg.pr 29 12 = some [0, 1, 6, 43, 44, 45] := by kernel_rfl
theorem Try.pr29_13 : Try.cfg.pr 29 13 = some [0, 1, 6, 43, 44, 45, 46] := by kernel_rfl
theorem Try.pr29_14 : Try.cfg.pr 29 14 = some [0, 1, 6, 12, 43, 44, 45] := by kernel_rfl
theorem Try.pr29_15 : Try.cfg.pr 29 15 = some [0, 1, 6, 43, 44, 45, 55] := by kernel_rfl
theorem Try.pr29_16 : Try.cfg.pr 29 16 = some [4, 5] := by kernel_rfl
theorem Try.pr29_17 : Try.cfg.pr 29 17 = some [0, 1, 6, 43, 44, 45] := by kernel_rfl
theorem Try.pr29_18 : Try.cfg.pr 29 18 = some [0, 6, 59] := by kernel_rfl
theorem Try.pr29_19 : Try.cfg.pr 29 19 = some [4, 5] := by kernel_rfl
theorem Try.pr29_20 : Try.cfg.pr 29 20 = some [0, 6, 13] := by kernel_rfl
theorem Try.pr29_21 : Try.cfg.pr 29 21 = some [0, 6, 13, 14] := by kernel_rfl
theorem Try.pr29_22 : Try.cfg.pr 29 22 = some [0, 13, 14, 61, 62, 63] := by kernel_rfl
theorem Try.pr29_23 : Try.cfg.pr 29 23 = some [0, 13, 14, 61, 62, 63, 64] := by kernel_rfl
theorem Try.pr29_24 : Try.cfg.pr 29 24 = some [0, 13, 14, 15, 16, 61, 62, 63] := by kernel_rfl
theorem Try.pr29_25 : Try.cfg.pr 29 25 = some [0, 13, 14, 15, 16, 17, 18, 61, 62, 63] := by kernel_rfl
theorem Try.pr29_26 : Try.cfg.pr 29 26 = some [0, 13, 14, 15, 16, 17, 61, 62, 63, 75] := by kernel_rfl
theorem Try.pr29_27 : Try.cfg.pr 29 27 = some [0, 13, 14, 15, 16, 17, 61, 62, 63] := by kernel_rfl
theorem Try.pr29_28 : Try.cfg.pr 29 28 = some [0, 13, 14, 15, 16, 17, 61, 62, 63] := by kernel_rfl
theorem Try.pr29_29 : Try.cfg.pr 29 29 = some [0, 13, 14, 15, 16, 17, 61, 62, 63, 81, 82, 83] := by kernel_rfl
theorem Try.pr29_30 : Try.cfg.pr 29 30 = some [0, 13, 14, 15, 16, 17, 61, 62, 63, 81, 82, 83, 84] := by kernel_rfl
theorem Try.pr29_31 : Try.cfg.pr 29 31 = some [0, 13, 14, 15, 16, 17, 20, 61, 62, 63, 81, 82, 83] := by kernel_rfl
theorem Try.pr29_32 : Try.cfg.pr 29 32 = some [0, 13, 14, 15, 16, 17, 61, 62, 63, 81, 82, 83] := by kernel_rfl
theorem Try.pr29_33 : Try.cfg.pr 29 33 = some [0, 13, 14, 15, 16, 17, 61, 62, 63, 81, 82, 83] := by kernel_rfl
theorem Try.pr29_34 : Try.cfg.pr 29 34 = some [0, 13, 14, 61, 62, 63] := by kernel_rfl
theorem Try.pr29_35 : Try.cfg.pr 29 35 = some [0, 13, 14, 61, 62, 63] := by kernel_rfl
theorem Try.pr29_36 : Try.cfg.pr 29 36 = some [4, 5] := by kernel_rfl
theorem Try.ann29_r : Try.cfg.ann 29 999999 = some ([4, 5], [4, 5], [], none, []) := by kernel_rfl
theorem Try.ann29_0 : Try.cfg.ann 29 0 = some ([0, 1, 6, 24, 25, 26], [0, 1, 6], [], some 2, [6]) := by kernel_rfl
theorem Try.ann29_1 : Try.cfg.ann 29 1 = none := by kernel_rfl
theorem Try.ann29_2 : Try.cfg.ann 29 2 = some ([0, 1, 6, 43, 44, 45], [0, 1, 6], [], none, []) := by kernel_rfl
theorem Try.ann29_3 : Try.cfg.ann 29 3 = none := by kernel_rfl
theorem Try.ann29_4 : Try.cfg.ann 29 4 = some ([0, 13, 14, 61, 62, 63], [13], [], none, []) := by kernel_rfl
theorem Try.ann29_5 : Try.cfg.ann 29 5 = none := by kernel_rfl
theorem Try.ann29_6 : Try.cfg.ann 29 6 = some ([0, 13, 14, 15, 16, 17, 61, 62, 63, 81, 82, 83], [0, 13, 14, 15, 17, 61, 62, 63], [], none, []) := by kernel_rfl
theorem Try.ann29_7 : Try.cfg.ann 29 7 = none := by kernel_rfl
theorem Try.pr30_0 : Try.cfg.pr 30 0 = some [0, 1] := by kernel_rfl
theorem Try.pr30_1 : Try.cfg.pr 30 1 = some [0, 1, 6] := by kernel_rfl
theorem Try.pr30_2 : Try.cfg.pr 30 2 = some [0, 1, 6, 7] := by kernel_rfl
theorem Try.pr30_3 : Try.cfg.pr 30 3 = some [0, 1, 6, 7, 20] := by kernel_rfl
theorem Try.pr30_4 : Try.cfg.pr 30 4 = some [0, 1, 6, 7] := by kernel_rfl
theorem Try.pr30_5 : Try.cfg.pr 30 5 = some [0, 1, 6, 7] := by kernel_rfl
theorem Try.pr30_6 : Try.cfg.pr 30 6 = some [0, 1, 32] := by kernel_rfl
theorem Try.pr30_7 : Try.cfg.pr 30 7 = some [4, 5] := by kernel_rfl
theorem Try.pr30_8 : Try.cfg.pr 30 8 = some [0, 1, 8] := by kernel_rfl
theorem Try.pr30_9 : Try.cfg.pr 30 9 = some [0, 1, 8, 36] := by kernel_rfl
theorem Try.pr30_10 : Try.cfg.pr 30 10 = some [0, 1, 8] := by kernel_rfl
theorem Try.pr30_11 : Try.cfg.pr 30 11 = some [0, 1, 8, 48] := by kernel_rfl
theorem Try.pr30_12 : Try.cfg.pr 30 12 = some [4, 5] := by kernel_rfl
theorem Try.pr30_13 : Try.cfg.pr 30 13 = some [0, 1, 51] := by kernel_rfl
theorem Try.pr30_14 : Try.cfg.pr 30 14 = some [4, 5] := by kernel_rfl
theorem Try.pr30_15 : Try.cfg.pr 30 15 = some [0, 1, 9] := by kernel_rfl
theorem Try.pr30_16 : Try.cfg.pr 30 16 = some [0, 1, 9, 10] := by kernel_rfl
theorem Try.pr30_17 : Try.cfg.pr 30 17 = some [0, 1, 9, 10, 11] := by kernel_rfl
theorem Try.pr30_18 : Try.cfg.pr 30 18 = some [0, 1, 9, 10, 11, 58] := by kernel_rfl
theorem Try.pr30_19 : Try.cfg.pr 30 19 = some [0, 1, 9, 10, 11] := by kernel_rfl
theorem Try.pr30_20 : Try.cfg.pr 30 20 = some [0, 1, 9, 10, 11, 64] := by kernel_rfl
theorem Try.pr30_21 : Try.cfg.pr 30 21 = some [0, 1, 9, 10, 11, 12] := by kernel_rfl
theorem Try.pr30_22 : Try.cfg.pr 30 22 = some [0, 1, 9, 10, 11, 12, 13] := by kernel_rfl
theorem Try.pr30_23 : Try.cfg.pr 30 23 = some [0, 1, 9, 10, 11, 12, 13, 69] := by kernel_rfl
theorem Try.pr30_24 : Try.cfg.pr 30 24 = some [0, 1, 9, 10, 11, 12, 13] := by kernel_rfl
theorem Try.pr30_25 : Try.cfg.pr 30 25 = some [0, 1, 9, 10, 11, 12, 13, 14] := by kernel_rfl
theorem Try.pr30_26 : Try.cfg.pr 30 26 = some [0, 1, 9, 10, 11, 12, 13, 14, 82] := by kernel_rfl
theorem Try.pr30_27 : Try.cfg.pr 30 27 = some [0, 1, 9, 10, 11, 12, 13, 14] := by kernel_rfl
theorem Try.pr30_28 : Try.cfg.pr 30 28 = some [0, 1, 9, 10, 11, 12, 13, 14, 98] := by kernel_rfl
theorem Try.pr30_29 : Try.cfg.pr 30 29 = some [0, 1, 9, 10, 11, 12, 13, 14] := by kernel_rfl
theorem Try.pr30_30 : Try.cfg.pr 30 30 = some [0, 1, 9, 10, 11, 12, 13, 14] := by kernel_rfl
theorem Try.pr30_31 : Try.cfg.pr 30 31 = some [0, 1, 9, 10, 11] := by kernel_rfl
theorem Try.pr30_32 : Try.cfg.pr 30 32 = some [4, 5] := by kernel_rfl
theorem Try.ann30_r : Try.cfg.ann 30 999999 = some ([4, 5], [4, 5], [], none, []) := by kernel_rfl
theorem Try.ann30_0 : Try.cfg.ann 30 0 = some ([0, 1, 6, 7], [0, 1, 6], [], none, []) := by kernel_rfl
theorem Try.ann30_1 : Try.cfg.ann 30 1 = none := by kernel_rfl
theorem Try.ann30_2 : Try.cfg.ann 30 2 = some ([0, 1, 8], [0, 1], [], none, []) := by kernel_rfl
theorem Try.ann30_3 : Try.cfg.ann 30 3 = none := by kernel_rfl
theorem Try.ann30_4 : Try.cfg.ann 30 4 = some ([0, 1, 9, 10, 11], [9], [], some 3, []) := by kernel_rfl
theorem Try.ann30_5 : Try.cfg.ann 30 5 = none := by kernel_rfl
theorem Try.ann30_6 : Try.cfg.ann 30 6 = some ([0, 1, 9, 10, 11, 12, 13], [0, 1, 9, 10, 11, 12], [], none, [12]) := by kernel_rfl
theorem Try.ann30_7 : Try.cfg.ann 30 7 = none := by kernel_rfl
theorem Try.ann30_8 : Try.cfg.ann 30 8 = some ([0, 1, 9, 10, 11, 12, 13, 14], [0, 1, 9, 10, 11, 12, 13], [], none, []) := by kernel_rfl
theorem Try.ann30_9 : Try.cfg.ann 30 9 = none := by kernel_rfl
theorem Try.pr31_n (i : Nat) : Try.cfg.pr 31 i = none := show prOf Try.prT 31 i = none from prOf_none (by kernel_rfl) i
theorem Try.ann31_r : Try.cfg.ann 31 999999 = some ([2], [2], [], none, []) := by kernel_rfl
theorem Try.ann31_0 : Try.cfg.ann 31 0 = some ([3, 8, 9], [3], [], none, []) := by kernel_rfl
theorem Try.ann31_1 : Try.cfg.ann 31 1 = none := by kernel_rfl
theorem Try.pr32_n (i : Nat) : Try.cfg.pr 32 i = none := show prOf Try.prT 32 i = none from prOf_none (by kernel_rfl) i
theorem Try.ann32_r : Try.cfg.ann 32 999999 = some ([2], [2], [], none, []) := by kernel_rfl
theorem Try.pr33_n (i : Nat) : Try.cfg.pr 33 i = none := show prOf Try.prT 33 i = none from prOf_none (by kernel_rfl) i
theorem Try.ann33_r : Try.cfg.ann 33 999999 = some ([4], [4], [], none, []) := by kernel_rfl
theorem Try.ann33_0 : Try.cfg.ann 33 0 = some ([0, 5, 11, 12, 13], [5], [], none, []) := by kernel_rfl
theorem Try.ann33_1 : Try.cfg.ann 33 1 = none := by kernel_rfl
theorem Try.pr34_n (i : Nat) : Try.cfg.pr 34 i = none := show prOf Try.prT 34 i = none from prOf_none (by kernel_rfl) i
theorem Try.ann34_r : Try.cfg.ann 34 999999 = some ([], [], [], none, []) := by kernel_rfl
theorem Try.pr35_n (i : Nat) : Try.cfg.pr 35 i = none := show prOf Try.prT 35 i = none from prOf_none (by kernel_rfl) i
theorem Try.ann35_r : Try.cfg.ann 35 999999 = some ([4], [4], [], none, []) := by kernel_rfl
theorem Try.ann35_0 : Try.cfg.ann 35 0 = some ([0, 1, 9, 10, 11], [0, 1], [], none, []) := by kernel_rfl
theorem Try.ann35_1 : Try.cfg.ann 35 1 = none := by kernel_rfl
theorem Try.pr36_0 : Try.cfg.pr 36 0 = some [0, 1] := by kernel_rfl
theorem Try.pr36_1 : Try.cfg.pr 36 1 = some [0, 1, 5] := by kernel_rfl
theorem Try.pr36_2 : Try.cfg.pr 36 2 = some [1, 5, 6] := by kernel_rfl
theorem Try.pr36_3 : Try.cfg.pr 36 3 = some [1, 5, 6, 20] := by kernel_rfl
theorem Try.pr36_4 : Try.cfg.pr 36 4 = some [1, 5, 6, 7] := by kernel_rfl
theorem Try.pr36_5 : Try.cfg.pr 36 5 = some [1, 5, 6, 7] := by kernel_rfl
theorem Try.pr36_6 : Try.cfg.pr 36 6 = some [1, 5, 6, 7, 8] := by kernel_rfl
theorem Try.pr36_7 : Try.cfg.pr 36 7 = some [1, 5, 6, 7, 8, 35] := by kernel_rfl
theorem Try.pr36_8 : Try.cfg.pr 36 8 = some [1, 5, 6, 7, 8] := by kernel_rfl
theorem Try.pr36_9 : Try.cfg.pr 36 9 = some [1, 5, 6, 7, 8, 9] := by kernel_rfl
theorem Try.pr36_10 : Try.cfg.pr 36 10 = some [1, 5, 6, 7, 8, 9, 10, 11] := by kernel_rfl
theorem Try.pr36_11 : Try.cfg.pr 36 11 = some [1, 5, 6, 7, 8, 9, 10, 51] := by kernel_rfl
theorem Try.pr36_12 : Try.cfg.pr 36 12 = some [1, 5, 6, 7, 8, 9] := by kernel_rfl
theorem Try.pr36_13 : Try.cfg.pr 36 13 = some [1, 5, 6, 7, 8] := by kernel_rfl
theorem Try.pr36_14 : Try.cfg.pr 36 14 = some [4] := by kernel_rfl
theorem Try.ann36_r : Try.cfg.ann 36 999999 = some ([4], [4], [], none, []) := by kernel_rfl
theorem Try.ann36_0 : Try.cfg.ann 36 0 = some ([1, 5, 6], [5], [5], some 2, []) := by kernel_rfl
theorem Try.ann36_1 : Try.cfg.ann 36 1 = none := by kernel_rfl
theorem Try.ann36_2 : Try.cfg.ann 36 2 = some ([1, 5, 6, 7, 8], [1, 5, 6], [5], some 2, []) := by kernel_rfl
theorem Try.ann36_3 : Try.cfg.ann 36 3 = none := by kernel_rfl
theorem Try.pr37_n (i : Nat) : Try.cfg.pr 37 i = none := show prOf Try.prT 37 i = none from prOf_none (by kernel_rfl) i
theorem Try.ann37_r : Try.cfg.ann 37 999999 = some ([4], [4], [], none, []) := by kernel_rfl
theorem Try.ann37_0 : Try.cfg.ann 37 0 = some ([0, 1, 12, 13], [], [], none, []) := by kernel_rfl
theorem Try.ann37_1 : Try.cfg.ann 37 1 = none := by kernel_rfl
theorem Try.pr38_n (i : Nat) : Try.cfg.pr 38 i = none := show prOf Try.prT 38 i = none from prOf_none (by kernel_rfl) i
theorem Try.ann38_r : Try.cfg.ann 38 999999 = some ([2], [2], [], none, []) := by kernel_rfl
theorem Try.ann38_0 : Try.cfg.ann 38 0 = some ([0, 3, 4], [3], [], none, []) := by kernel_rfl
theorem Try.ann38_1 : Try.cfg.ann 38 1 = none := by kernel_rfl
theorem Try.pr39_n (i : Nat) : Try.cfg.pr 39 i = none := show prOf Try.prT 39 i = none from prOf_none (by kernel_rfl) i
theorem Try.ann39_r : Try.cfg.ann 39 999999 = some ([4], [4], [], none, []) := by kernel_rfl
theorem Try.pr40_n (i : Nat) : Try.cfg.pr 40 i = none := show prOf Try.prT 40 i = none from prOf_none (by kernel_rfl) i
theorem Try.ann40_r : Try.cfg.ann 40 999999 = some ([4, 5], [4, 5], [], none, []) := by kernel_rfl
theorem Try.ann40_0 : Try.cfg.ann 40 0 = some ([0, 1, 6, 7], [0, 1, 6], [], none, []) := by kernel_rfl
theorem Try.ann40_1 : Try.cfg.ann 40 1 = none := by kernel_rfl
theorem Try.pr41_n (i : Nat) : Try.cfg.pr 41 i = none := show prOf Try.prT 41 i = none from prOf_none (by kernel_rfl) i
theorem Try.ann41_r : Try.cfg.ann 41 999999 = some ([4], [4], [], none, []) := by kernel_rfl
theorem Try.ann41_0 : Try.cfg.ann 41 0 = some ([0, 1, 5, 6], [5], [], none, []) := by kernel_rfl
theorem Try.ann41_1 : Try.cfg.ann 41 1 = none := by kernel_rfl
theorem Try.pr42_n (i : Nat) : Try.cfg.pr 42 i = none := show prOf Try.prT 42 i = none from prOf_none (by kernel_rfl) i
theorem Try.ann42_r : Try.cfg.ann 42 999999 = some ([2], [2], [], none, []) := by kernel_rfl
theorem Try.pr43_n (i : Nat) : Try.cfg.pr 43 i = none := show prOf Try.prT 43 i = none from prOf_none (by kernel_rfl) i
theorem Try.ann43_r : Try.cfg.ann 43 999999 = some ([4, 5], [4, 5], [], none, []) := by kernel_rfl
theorem Try.ann43_0 : Try.cfg.ann 43 0 = some ([1, 4, 6, 13, 14, 15], [4, 6], [], none, []) := by kernel_rfl
theorem Try.ann43_1 : Try.cfg.ann 43 1 = none := by kernel_rfl
theorem Try.pr44_n (i : Nat) : Try.cfg.pr 44 i = none := show prOf Try.prT 44 i = none from prOf_none (by kernel_rfl) i
theorem Try.ann44_r : Try.cfg.ann 44 999999 = some ([4], [4], [], none, []) := by kernel_rfl
theorem Try.ann44_0 : Try.cfg.ann 44 0 = some ([3, 4, 5, 8, 9, 10], [4, 5], [], none, []) := by kernel_rfl
theorem Try.ann44_1 : Try.cfg.ann 44 1 = none := by kernel_rfl
theorem Try.pr45_n (i : Nat) : Try.cfg.pr 45 i = none := show prOf Try.prT 45 i = none from prOf_none (by kernel_rfl) i
theorem Try.ann45_r : Try.cfg.ann 45 999999 = some ([2], [2], [], none, []) := by kernel_rfl
theorem Try.pr46_n (i : Nat) : Try.cfg.pr 46 i = none := show prOf Try.prT 46 i = none from prOf_none (by kernel_rfl) i
theorem Try.ann46_r : Try.cfg.ann 46 999999 = some ([4], [4], [], none, []) := by kernel_rfl
theorem Try.ann46_0 : Try.cfg.ann 46 0 = some ([0, 1, 5, 6], [5], [], none, []) := by kernel_rfl
theorem Try.ann46_1 : Try.cfg.ann 46 1 = none := by kernel_rfl
theorem Try.pr47_0 : Try.cfg.pr 47 0 = some [0, 1, 2, 3, 4, 10] := by kernel_rfl
theorem Try.pr47_1 : Try.cfg.pr 47 1 = some [0, 1, 2, 3, 4, 10, 11] := by kernel_rfl
theorem Try.pr47_2 : Try.cfg.pr 47 2 = some [0, 1, 2, 3, 4, 10, 11, 12] := by kernel_rfl
theorem Try.pr47_3 : Try.cfg.pr 47 3 = some [0, 1, 2, 3, 4, 10, 11, 12, 25] := by kernel_rfl
theorem Try.pr47_4 : Try.cfg.pr 47 4 = some [] := by kernel_rfl
theorem Try.pr47_5 : Try.cfg.pr 47 5 = some [0, 1, 2, 3, 4, 10, 11, 12, 32] := by kernel_rfl
theorem Try.pr47_6 : Try.cfg.pr 47 6 = some [] := by kernel_rfl
theorem Try.pr47_7 : Try.cfg.pr 47 7 = some [0, 1, 2, 3, 4, 10, 11, 12, 39] := by kernel_rfl
theorem Try.pr47_8 : Try.cfg.pr 47 8 = some [0, 1, 2, 3, 4, 10, 11, 12] := by kernel_rfl
theorem Try.pr47_9 : Try.cfg.pr 47 9 = some [0, 1, 2, 3, 4, 10, 11, 12] := by kernel_rfl
theorem Try.pr47_10 : Try.cfg.pr 47 10 = some [0, 1, 2, 3, 4, 10, 11, 12, 13, 14] := by kernel_rfl
theorem Try.pr47_11 : Try.cfg.pr 47 11 = some [0, 1, 2, 3, 4, 10, 11, 12, 13, 14, 56] := by kernel_rfl
theorem Try.pr47_12 : Try.cfg.pr 47 12 = some [0, 1, 2, 3, 4, 10, 11, 12, 13] := by kernel_rfl
theorem Try.pr47_13 : Try.cfg.pr 47 13 = some [0, 1, 2, 3, 4, 10, 11, 12, 13] := by kernel_rfl
theorem Try.pr47_14 : Try.cfg.pr 47 14 = some [0, 1, 2, 3, 4, 10, 11, 12, 13, 14] := by kernel_rfl
theorem Try.pr47_15 : Try.cfg.pr 47 15 = some [0, 1, 2, 3, 4, 10, 11, 12, 13, 75] := by kernel_rfl
theorem Try.pr47_16 : Try.cfg.pr 47 16 = some [0, 1, 2, 3, 4, 10, 11, 12, 13, 80] := by kernel_rfl
theorem Try.pr47_17 : Try.cfg.pr 47 17 = some [0, 1, 2, 3, 4, 10, 11, 12, 13, 97] := by kernel_rfl
theorem Try.pr47_18 : Try.cfg.pr 47 18 = some [0, 2, 3, 4, 10, 11, 15] := by kernel_rfl
theorem Try.pr47_19 : Try.cfg.pr 47 19 = some [0, 1, 2, 3, 4, 10, 11] := by kernel_rfl
theorem Try.pr47_20 : Try.cfg.pr 47 20 = some [0, 1, 2, 3, 4, 12, 16, 17] := by kernel_rfl
theorem Try.pr47_21 : Try.cfg.pr 47 21 = some [0, 1, 2, 3, 4, 11, 12, 16] := by kernel_rfl
theorem Try.pr47_22 : Try.cfg.pr 47 22 = some [0, 1, 2, 3, 4, 11, 12, 16, 18, 19] := by kernel_rfl
theorem Try.pr47_23 : Try.cfg.pr 47 23 = some [0, 1, 2, 3, 4, 11, 16, 18, 19, 20] := by kernel_rfl
theorem Try.pr47_24 : Try.cfg.pr 47 24 = some [0, 1, 2, 3, 4, 11, 16, 18, 19, 20, 125] := by kernel_rfl
theorem Try.pr47_25 : Try.cfg.pr 47 25 = some [0, 1, 2, 3, 4, 10, 11, 16] := by kernel_rfl
theorem Try.pr47_26 : Try.cfg.pr 47 26 = some [0, 2, 3, 4, 10, 11, 16] := by kernel_rfl
theorem Try.pr47_27 : Try.cfg.pr 47 27 = some [0, 1, 2, 3, 4, 10, 11] := by kernel_rfl
theorem Try.pr47_28 : Try.cfg.pr 47 28 = some [0, 1, 2, 3, 4, 10, 11, 16] := by kernel_rfl
theorem Try.pr47_29 : Try.cfg.pr 47 29 = some [0, 1, 3, 4, 10, 11, 16] := by kernel_rfl
theorem Try.pr47_30 : Try.cfg.pr 47 30 = some [0, 1, 2, 3, 4, 10, 11] := by kernel_rfl
theorem Try.ann47_r : Try.cfg.ann 47 999999 = some ([], [], [], none, []) := by kernel_rfl
theorem Try.ann47_0 : Try.cfg.ann 47 0 = some ([0, 1, 2, 3, 4, 10, 11], [], [], none, []) := by kernel_rfl
theorem Try.ann47_1 : Try.cfg.ann 47 1 = none := by kernel_rfl
theorem Try.pr48_n (i : Nat) : Try.cfg.pr 48 i = none := show prOf Try.prT 48 i = none from prOf_none (by kernel_rfl) i
theorem Try.ann48_r : Try.cfg.ann 48 999999 = some ([2], [2], [], none, []) := by kernel_rfl
theorem Try.pr49_n (i : Nat) : Try.cfg.pr 49 i = none := show prOf Try.prT 49 i = none from prOf_none (by kernel_rfl) i
theorem Try.ann49_r : Try.cfg.ann 49 999999 = some ([4], [4], [], none, []) := by kernel_rfl
theorem Try.pr50_n (i : Nat) : Try.cfg.pr 50 i = none := show prOf Try.prT 50 i = none from prOf_none (by kernel_rfl) i
theorem Try.ann50_r : Try.cfg.ann 50 999999 = some ([2], [2], [], none, []) := by kernel_rfl
theorem Try.ann50_0 : Try.cfg.ann 50 0 = some ([3, 9, 10, 11], [3], [], none, []) := by kernel_rfl
theorem Try.ann50_1 : Try.cfg.ann 50 1 = none := by kernel_rfl
theorem Try.pr51_n (i : Nat) : Try.cfg.pr 51 i = none := show prOf Try.prT 51 i = none from prOf_none (by kernel_rfl) i
theorem Try.ann51_r : Try.cfg.ann 51 999999 = some ([2], [2], [], none, []) := by kernel_rfl
theorem Try.ann51_0 : Try.cfg.ann 51 0 = some ([0, 3, 4], [3], [], none, []) := by kernel_rfl
theorem Try.ann51_1 : Try.cfg.ann 51 1 = none := by kernel_rfl
theorem Try.pr52_n (i : Nat) : Try.cfg.pr 52 i = none := show prOf Try.prT 52 i = none from prOf_none (by kernel_rfl) i
theorem Try.ann52_r : Try.cfg.ann 52 999999 = some ([], [], [], none, []) := by kernel_rfl
theorem Try.ann52_0 : Try.cfg.ann 52 0 = some ([0, 1, 2, 3, 8], [], [], none, []) := by kernel_rfl
theorem Try.ann52_1 : Try.cfg.ann 52 1 = none := by kernel_rfl
theorem Try.ann52_2 : Try.cfg.ann 52 2 = some ([0, 1, 2, 3, 8, 9], [0, 1, 2, 3, 8], [], none, []) := by kernel_rfl
theorem Try.ann52_3 : Try.cfg.ann 52 3 = none := by kernel_rfl
theorem Try.pr53_n (i : Nat) : Try.cfg.pr 53 i = none := show prOf Try.prT 53 i = none from prOf_none (by kernel_rfl) i
theorem Try.ann53_r : Try.cfg.ann 53 999999 = some ([], [], [], none, []) := by kernel_rfl
theorem Try.ann53_0 : Try.cfg.ann 53 0 = some ([0, 3, 8, 9, 10, 11], [0, 3, 8, 9, 10], [], none, []) := by kernel_rfl
theorem Try.ann53_1 : Try.cfg.ann 53 1 = none := by kernel_rfl
theorem Try.ann53_2 : Try.cfg.ann 53 2 = some ([0, 3, 8, 9, 12], [], [], none, []) := by kernel_rfl
theorem Try.ann53_3 : Try.cfg.ann 53 3 = none := by kernel_rfl
theorem Try.pr54_0 : Try.cfg.pr 54 0 = some [0, 1, 8] := by kernel_rfl
theorem Try.pr54_1 : Try.cfg.pr 54 1 = some [0, 1, 8, 17] := by kernel_rfl
theorem Try.pr54_2 : Try.cfg.pr 54 2 = some [0, 1, 8, 9] := by kernel_rfl
theorem Try.pr54_3 : Try.cfg.pr 54 3 = some [0, 1, 8, 9, 10] := by kernel_rfl
theorem Try.pr54_4 : Try.cfg.pr 54 4 = some [0, 1, 8, 9, 10, 11] := by kernel_rfl
theorem Try.pr54_5 : Try.cfg.pr 54 5 = some [0, 1, 8, 9, 10, 11, 35] := by kernel_rfl
theorem Try.pr54_6 : Try.cfg.pr 54 6 = some [0, 1, 8, 9, 10, 11] := by kernel_rfl
theorem Try.pr54_7 : Try.cfg.pr 54 7 = some [0, 1, 8, 9, 10, 11, 12] := by kernel_rfl
theorem Try.pr54_8 : Try.cfg.pr 54 8 = some [0, 1, 8, 9, 10, 11, 12, 45] := by kernel_rfl
theorem Try.pr54_9 : Try.cfg.pr 54 9 = some [0, 1, 8, 9, 10, 11, 12] := by kernel_rfl
theorem Try.pr54_10 : Try.cfg.pr 54 10 = some [0, 1, 8, 9, 10, 11] := by kernel_rfl
theorem Try.ann54_r : Try.cfg.ann 54 999999 = some ([], [], [], none, []) := by kernel_rfl
theorem Try.ann54_0 : Try.cfg.ann 54 0 = some ([0, 1, 8, 9, 10, 11], [], [], none, []) := by kernel_rfl
theorem Try.ann54_1 : Try.cfg.ann 54 1 = none := by kernel_rfl
theorem Try.pr55_n (i : Nat) : Try.cfg.pr 55 i = none := show prOf Try.prT 55 i = none from prOf_none (by kernel_rfl) i
theorem Try.ann55_r : Try.cfg.ann 55 999999 = some ([8, 9], [8, 9], [], none, []) := by kernel_rfl
theorem Try.ann55_0 : Try.cfg.ann 55 0 = none := by kernel_rfl
theorem Try.pr56_n (i : Nat) : Try.cfg.pr 56 i = none := show prOf Try.prT 56 i = none from prOf_none (by kernel_rfl) i
theorem Try.ann56_r : Try.cfg.ann 56 999999 = some ([], [], [], none, []) := by kernel_rfl
theorem Try.ann56_0 : Try.cfg.ann 56 0 = some ([0, 8, 9], [], [], none, []) := by kernel_rfl
theorem Try.ann56_1 : Try.cfg.ann 56 1 = none := by kernel_rfl
theorem Try.pr57_0 : Try.cfg.pr 57 0 = some [0, 1, 2, 3] := by kernel_rfl
theorem Try.pr57_1 : Try.cfg.pr 57 1 = some [0, 1, 2, 3, 9] := by kernel_rfl
theorem Try.pr57_2 : Try.cfg.pr 57 2 = some [0, 1, 2, 3, 9, 10] := by kernel_rfl
theorem Try.pr57_3 : Try.cfg.pr 57 3 = some [0, 1, 2, 3, 9, 10, 16] := by kernel_rfl
theorem Try.pr57_4 : Try.cfg.pr 57 4 = some [0, 1, 2, 3, 9, 10] := by kernel_rfl
theorem Try.pr57_5 : Try.cfg.pr 57 5 = some [0, 1, 2, 3, 9, 10, 36] := by kernel_rfl
theorem Try.pr57_6 : Try.cfg.pr 57 6 = some [0, 1, 2, 3, 9, 10] := by kernel_rfl
theorem Try.pr57_7 : Try.cfg.pr 57 7 = some [0, 1, 2, 3, 9, 10, 41] := by kernel_rfl
theorem Try.pr57_8 : Try.cfg.pr 57 8 = some [8] := by kernel_rfl
theorem Try.pr57_9 : Try.cfg.pr 57 9 = some [0, 1, 2, 3, 9, 10, 45] := by kernel_rfl
theorem Try.pr57_10 : Try.cfg.pr 57 10 = some [8] := by kernel_rfl
theorem Try.pr57_11 : Try.cfg.pr 57 11 = some [0, 1, 2, 3, 9, 10] := by kernel_rfl
theorem Try.pr57_12 : Try.cfg.pr 57 12 = some [0, 1, 2, 3, 9, 10, 65] := by kernel_rfl
theorem Try.pr57_13 : Try.cfg.pr 57 13 = some [0, 1, 2, 3, 9, 10, 11] := by kernel_rfl
theorem Try.pr57_14 : Try.cfg.pr 57 14 = some [0, 1, 2, 3, 9, 10, 11, 69] := by kernel_rfl
theorem Try.pr57_15 : Try.cfg.pr 57 15 = some [0, 1, 2, 3, 9, 10, 11] := by kernel_rfl
theorem Try.pr57_16 : Try.cfg.pr 57 16 = some [0, 1, 2, 3, 9, 10, 11, 84] := by kernel_rfl
theorem Try.pr57_17 : Try.cfg.pr 57 17 = some [0, 1, 2, 3, 9, 10, 11] := by kernel_rfl
theorem Try.pr57_18 : Try.cfg.pr 57 18 = some [0, 1, 2, 3, 9, 10, 104] := by kernel_rfl
theorem Try.pr57_19 : Try.cfg.pr 57 19 = some [0, 1, 2, 3, 9, 10, 12] := by kernel_rfl
theorem Try.pr57_20 : Try.cfg.pr 57 20 = some [0, 1, 2, 3, 9, 10, 12, 109] := by kernel_rfl
theorem Try.pr57_21 : Try.cfg.pr 57 21 = some [0, 1, 2, 3, 9, 10, 12] := by kernel_rfl
theorem Try.pr57_22 : Try.cfg.pr 57 22 = some [0, 1, 2, 3, 9, 10, 12, 124] := by kernel_rfl
theorem Try.pr57_23 : Try.cfg.pr 57 23 = some [0, 1, 2, 3, 9, 10, 12] := by kernel_rfl
theorem Try.pr57_24 : Try.cfg.pr 57 24 = some [8] := by kernel_rfl
theorem Try.ann57_r : Try.cfg.ann 57 999999 = some ([8], [8], [], none, []) := by kernel_rfl
theorem Try.ann57_0 : Try.cfg.ann 57 0 = some ([0, 1, 2, 3, 9, 10], [], [], none, []) := by kernel_rfl
theorem Try.ann57_1 : Try.cfg.ann 57 1 = none := by kernel_rfl
theorem Try.ann57_2 : Try.cfg.ann 57 2 = some ([0, 1, 2, 3, 9, 10], [0, 1, 2, 3, 9, 10], [], none, []) := by kernel_rfl
theorem Try.ann57_3 : Try.cfg.ann 57 3 = none := by kernel_rfl
theorem Try.ann57_4 : Try.cfg.ann 57 4 = some ([0, 1, 2, 3, 9, 10, 11], [0, 1, 2, 3, 9, 10], [], none, []) := by kernel_rfl
theorem Try.ann57_5 : Try.cfg.ann 57 5 = none := by kernel_rfl
theorem Try.ann57_6 : Try.cfg.ann 57 6 = some ([0, 1, 2, 3, 9, 10, 12], [0, 1, 2, 3, 9, 10], [], none, []) := by kernel_rfl
theorem Try.ann57_7 : Try.cfg.ann 57 7 = none := by kernel_rfl
theorem Try.pr58_0 : Try.cfg.pr 58 0 = some [0, 1, 2, 3, 4] := by kernel_rfl
theorem Try.pr58_1 : Try.cfg.pr 58 1 = some [0, 1, 2, 4] := by kernel_rfl
theorem Try.pr58_2 : Try.cfg.pr 58 2 = some [0, 1, 4, 11, 12] := by kernel_rfl
theorem Try.pr58_3 : Try.cfg.pr 58 3 = some [0, 1, 4, 11, 12, 47] := by kernel_rfl
theorem Try.pr58_4 : Try.cfg.pr 58 4 = some [0, 1, 4, 11, 12] := by kernel_rfl
theorem Try.pr58_5 : Try.cfg.pr 58 5 = some [0, 1, 4, 11, 12, 65] := by kernel_rfl
theorem Try.pr58_6 : Try.cfg.pr 58 6 = some [0, 1, 4, 11, 12] := by kernel_rfl
theorem Try.pr58_7 : Try.cfg.pr 58 7 = some [0, 1, 4, 11, 12, 70] := by kernel_rfl
theorem Try.pr58_8 : Try.cfg.pr 58 8 = some [0, 1, 4, 11, 12] := by kernel_rfl
theorem Try.pr58_9 : Try.cfg.pr 58 9 = some [0, 1, 4, 11, 12] := by kernel_rfl
theorem Try.pr58_10 : Try.cfg.pr 58 10 = some [0, 1, 4, 11, 12] := by kernel_rfl
theorem Try.pr58_11 : Try.cfg.pr 58 11 = some [10] := by kernel_rfl
theorem Try.ann58_r : Try.cfg.ann 58 999999 = some ([10], [10], [], none, []) := by kernel_rfl
theorem Try.ann58_0 : Try.cfg.ann 58 0 = some ([0, 1, 4, 11, 12], [11], [], none, []) := by kernel_rfl
theorem Try.ann58_1 : Try.cfg.ann 58 1 = none := by kernel_rfl
theorem Try.ann58_2 : Try.cfg.ann 58 2 = some ([0, 1, 4, 11, 12], [0, 1, 4, 11, 12], [], none, []) := by kernel_rfl
theorem Try.ann58_3 : Try.cfg.ann 58 3 = none := by kernel_rfl
theorem Try.ann58_4 : Try.cfg.ann 58 4 = some ([0, 1, 4, 11, 12], [0, 1, 4, 11, 12], [], none, []) := by kernel_rfl
theorem Try.ann58_5 : Try.cfg.ann 58 5 = none := by kernel_rfl
theorem Try.pr59_0 : Try.cfg.pr 59 0 = some [0, 1, 2, 3, 4] := by kernel_rfl
theorem Try.pr59_1 : Try.cfg.pr 59 1 = some [0, 1, 2, 4] := by kernel_rfl
theorem Try.pr59_2 : Try.cfg.pr 59 2 = some [0, 1, 4, 12, 13] := by kernel_rfl
theorem Try.pr59_3 : Try.cfg.pr 59 3 = some [0, 1, 4, 12, 13, 47] := by kernel_rfl
theorem Try.pr59_4 : Try.cfg.pr 59 4 = some [0, 1, 4, 12, 13] := by kernel_rfl
theorem Try.pr59_5 : Try.cfg.pr 59 5 = some [0, 1, 4, 12, 13, 66] := by kernel_rfl
theorem Try.pr59_6 : Try.cfg.pr 59 6 = some [0, 1, 4, 12, 13] := by kernel_rfl
theorem Try.pr59_7 : Try.cfg.pr 59 7 = some [0, 1, 4, 12, 13, 71] := by kernel_rfl
theorem Try.pr59_8 : Try.cfg.pr 59 8 = some [13] := by kernel_rfl
theorem Try.pr59_9 : Try.cfg.pr 59 9 = some [10, 11] := by kernel_rfl
theorem Try.pr59_10 : Try.cfg.pr 59 10 = some [0, 1, 4, 12, 13] := by kernel_rfl
theorem Try.pr59_11 : Try.cfg.pr 59 11 = some [0, 1, 4, 12, 13] := by kernel_rfl
theorem Try.pr59_12 : Try.cfg.pr 59 12 = some [0, 1, 4, 12, 13] := by kernel_rfl
theorem Try.pr59_13 : Try.cfg.pr 59 13 = some [0, 1, 4, 12, 13, 120] := by kernel_rfl
theorem Try.pr59_14 : Try.cfg.pr 59 14 = some [0, 1, 4, 12, 13] := by kernel_rfl
theorem Try.pr59_15 : Try.cfg.pr 59 15 = some [0, 1, 4, 12, 13, 139] := by kernel_rfl
theorem Try.pr59_16 : Try.cfg.pr 59 16 = some [0, 1, 4, 12, 13] := by kernel_rfl
theorem Try.pr59_17 : Try.cfg.pr 59 17 = some [0, 1, 4, 12, 13, 144] := by kernel_rfl
theorem Try.pr59_18 : Try.cfg.pr 59 18 = some [0, 1, 4, 12, 13] := by kernel_rfl
theorem Try.pr59_19 : Try.cfg.pr 59 19 = some [0, 1, 4, 12, 13] := by kernel_rfl
theorem Try.pr59_20 : Try.cfg.pr 59 20 = some [0, 1, 4, 12, 13] := by kernel_rfl
theorem Try.pr59_21 : Try.cfg.pr 59 21 = some [13] := by kernel_rfl
theorem Try.pr59_22 : Try.cfg.pr 59 22 = some [10, 11] := by kernel_rfl
theorem Try.ann59_r : Try.cfg.ann 59 999999 = some ([10, 11], [10, 11], [], none, []) := by kernel_rfl
theorem Try.ann59_0 : Try.cfg.ann 59 0 = some ([0, 1, 4, 12, 13], [0, 1, 4, 12, 13], [], none, []) := by kernel_rfl
theorem Try.ann59_1 : Try.cfg.ann 59 1 = none := by kernel_rfl
theorem Try.ann59_2 : Try.cfg.ann 59 2 = some ([0, 1, 4, 12, 13], [0, 1, 4, 12, 13], [], none, []) := by kernel_rfl
theorem Try.ann59_3 : Try.cfg.ann 59 3 = none := by kernel_rfl
theorem Try.ann59_4 : Try.cfg.ann 59 4 = some ([0, 1, 4, 12, 13], [0, 1, 13], [], none, []) := by kernel_rfl
theorem Try.ann59_5 : Try.cfg.ann 59 5 = none := by kernel_rfl
theorem Try.ann59_6 : Try.cfg.ann 59 6 = some ([0, 1, 4, 12, 13], [0, 1, 4, 12, 13], [], none, []) := by kernel_rfl
theorem Try.ann59_7 : Try.cfg.ann 59 7 = none := by kernel_rfl
theorem Try.ann59_8 : Try.cfg.ann 59 8 = some ([0, 1, 4, 12, 13], [0, 1, 4, 12, 13], [], none, []) := by kernel_rfl
theorem Try.ann59_9 : Try.cfg.ann 59 9 = none := by kernel_rfl
theorem Try.pr60_n (i : Nat) : Try.cfg.pr 60 i = none := show prOf Try.prT 60 i = none from prOf_none (by kernel_rfl) i
theorem Try.ann60_r : Try.cfg.ann 60 999999 = some ([2], [2], [], none, []) := by kernel_rfl
theorem Try.pr61_n (i : Nat) : Try.cfg.pr 61 i = none := show prOf Try.prT 61 i = none from prOf_none (by kernel_rfl) i
theorem Try.ann61_r : Try.cfg.ann 61 999999 = some ([2], [2], [], none, []) := by kernel_rfl
theorem Try.pr62_n (i : Nat) : Try.cfg.pr 62 i = none := show prOf Try.prT 62 i = none from prOf_none (by kernel_rfl) i
theorem Try.ann62_r : Try.cfg.ann 62 999999 = some ([2], [2], [], none, []) := by kernel_rfl
theorem Try.pr63_0 : Try.cfg.pr 63 0 = some [0, 2, 3, 4, 10] := by kernel_rfl
theorem Try.pr63_1 : Try.cfg.pr 63 1 = some [0, 2, 3, 4, 10, 11] := by kernel_rfl
theorem Try.pr63_2 : Try.cfg.pr 63 2 = some [0, 2, 3, 4, 10, 11, 18] := by kernel_rfl
theorem Try.pr63_3 : Try.cfg.pr 63 3 = some [0, 2, 3, 4, 10, 11, 40] := by kernel_rfl
theorem Try.pr63_4 : Try.cfg.pr 63 4 = some [0, 2, 3, 4, 10, 11] := by kernel_rfl
theorem Try.pr63_5 : Try.cfg.pr 63 5 = some [0, 2, 3, 4, 10, 11, 58] := by kernel_rfl
theorem Try.pr63_6 : Try.cfg.pr 63 6 = some [0, 2, 3, 4, 11] := by kernel_rfl
theorem Try.pr63_7 : Try.cfg.pr 63 7 = some [0, 2, 3, 4, 10] := by kernel_rfl
theorem Try.ann63_r : Try.cfg.ann 63 999999 = some ([], [], [], none, []) := by kernel_rfl
theorem Try.ann63_0 : Try.cfg.ann 63 0 = some ([0, 2, 3, 4, 10], [], [], none, []) := by kernel_rfl
theorem Try.ann63_1 : Try.cfg.ann 63 1 = none := by kernel_rfl
theorem Try.pr64_n (i : Nat) : Try.cfg.pr 64 i = none := show prOf Try.prT 64 i = none from prOf_none (by kernel_rfl) i
theorem Try.ann64_r : Try.cfg.ann 64 999999 = some ([2], [2], [], none, []) := by kernel_rfl
theorem Try.pr65_n (i : Nat) : Try.cfg.pr 65 i = none := show prOf Try.prT 65 i = none from prOf_none (by kernel_rfl) i
theorem Try.ann65_r : Try.cfg.ann 65 999999 = some ([2], [2], [], none, []) := by kernel_rfl
theorem Try.pr66_n (i : Nat) : Try.cfg.pr 66 i = none := show prOf Try.prT 66 i = none from prOf_none (by kernel_rfl) i
theorem Try.ann66_r : Try.cfg.ann 66 999999 = some ([8], [8], [], none, []) := by kernel_rfl
theorem Try.pr67_n (i : Nat) : Try.cfg.pr 67 i = none := show prOf Try.prT 67 i = none from prOf_none (by kernel_rfl) i
theorem Try.ann67_r : Try.cfg.ann 67 999999 = some ([12], [12], [], none, []) := by kernel_rfl
theorem Try.pr68_n (i : Nat) : Try.cfg.pr 68 i = none := show prOf Try.prT 68 i = none from prOf_none (by kernel_rfl) i
theorem Try.ann68_r : Try.cfg.ann 68 999999 = some ([10, 11], [10, 11], [], none, []) := by kernel_rfl
theorem Try.cells0 : Program.cellsOf Try.prog 0 = 1 := by kernel_rfl
theorem Try.bytes0 : Program.bytesOf Try.prog 0 = 0 := by kernel_rfl
theorem Try.zero0 : zeroT Try.prog 0 = some (AV.tu []) := by kernel_rfl
theorem Try.agg0 : aggT Try.prog 0 = some false := by kernel_rfl
theorem Try.noInt0 : noInt Try.prog 0 = true := by kernel_rfl
theorem Try.cells1 : Program.cellsOf Try.prog 1 = 1 := by kernel_rfl
theorem Try.bytes1 : Program.bytesOf Try.prog 1 = 8 := by kernel_rfl
theorem Try.zero1 : zeroT Try.prog 1 = some (AV.v Value.nilFunc) := by kernel_rfl
theorem Try.agg1 : aggT Try.prog 1 = some false := by kernel_rfl
theorem Try.noInt1 : noInt Try.prog 1 = true := by kernel_rfl
theorem Try.cells2 : Program.cellsOf Try.prog 2 = 1 := by kernel_rfl
theorem Try.bytes2 : Program.bytesOf Try.prog 2 = 8 := by kernel_rfl
theorem Try.zero2 : zeroT Try.prog 2 = some (AV.v (Value.int IntKind.i64 ((0 : Int)))) := by kernel_rfl
theorem Try.basic2 : basicT Try.prog 2 = some (TypeDesc.int IntKind.i64) := by kernel_rfl
theorem Try.agg2 : aggT Try.prog 2 = some false := by kernel_rfl
theorem Try.noInt2 : noInt Try.prog 2 = false := by kernel_rfl
theorem Try.cells3 : Program.cellsOf Try.prog 3 = 1 := by kernel_rfl
theorem Try.bytes3 : Program.bytesOf Try.prog 3 = 8 := by kernel_rfl
theorem Try.zero3 : zeroT Try.prog 3 = some (AV.v (Value.int IntKind.i64 ((0 : Int)))) := by kernel_rfl
theorem Try.basic3 : basicT Try.prog 3 = some (TypeDesc.int IntKind.i64) := by kernel_rfl
theorem Try.agg3 : aggT Try.prog 3 = some false := by kernel_rfl
theorem Try.noInt3 : noInt Try.prog 3 = false := by kernel_rfl
theorem Try.cells4 : Program.cellsOf Try.prog 4 = 1 := by kernel_rfl
theorem Try.bytes4 : Program.bytesOf Try.prog 4 = 1 := by kernel_rfl
theorem Try.zero4 : zeroT Try.prog 4 = some (AV.v (Value.bool false)) := by kernel_rfl
theorem Try.basic4 : basicT Try.prog 4 = some TypeDesc.bool := by kernel_rfl
theorem Try.bne4 (a b : Bool) : abin Try.prog .neq 4 (.v (.bool a)) (.v (.bool b)) = some (.v (.bool !(a == b))) := by simp [abin, Try.underlying4]
theorem Try.beq4 (a b : Bool) : abin Try.prog .eql 4 (.v (.bool a)) (.v (.bool b)) = some (.v (.bool (a == b))) := by simp [abin, Try.underlying4]
theorem Try.agg4 : aggT Try.prog 4 = some false := by kernel_rfl
theorem Try.noInt4 : noInt Try.prog 4 = true := by kernel_rfl
theorem Try.cells5 : Program.cellsOf Try.prog 5 = 1 := by kernel_rfl
theorem Try.bytes5 : Program.bytesOf Try.prog 5 = 1 := by kernel_rfl
theorem Try.zero5 : zeroT Try.prog 5 = some (AV.v (Value.int IntKind.u8 ((0 : Int)))) := by kernel_rfl
theorem Try.basic5 : basicT Try.prog 5 = some (TypeDesc.int IntKind.u8) := by kernel_rfl
theorem Try.agg5 : aggT Try.prog 5 = some false := by kernel_rfl
theorem Try.noInt5 : noInt Try.prog 5 = false := by kernel_rfl
theorem Try.cells6 : Program.cellsOf Try.prog 6 = 1 := by kernel_rfl
theorem Try.bytes6 : Program.bytesOf Try.prog 6 = 1 := by kernel_rfl
theorem Try.zero6 : zeroT Try.prog 6 = some (AV.v (Value.int IntKind.u8 ((0 : Int)))) := by kernel_rfl
theorem Try.basic6 : basicT Try.prog 6 = some (TypeDesc.int IntKind.u8) := by kernel_rfl
theorem Try.agg6 : aggT Try.prog 6 = some false := by kernel_rfl
theorem Try.noInt6 : noInt Try.prog 6 = false := by kernel_rfl
theorem Try.cells7 : Program.cellsOf Try.prog 7 = 4 := by kernel_rfl
theorem Try.bytes7 : Program.bytesOf Try.prog 7 = 24 := by kernel_rfl
theorem Try.zero7 : zeroT Try.prog 7 = some (AV.ag [AV.v (Value.int IntKind.i64 ((0 : Int))), AV.v (Value.int IntKind.i64 ((0 : Int))), AV.v (Value.bool false), AV.v (Value.int IntKind.u8 ((0 : Int)))]) := by kernel_rfl
theorem Try.agg7 : aggT Try.prog 7 = some true := by kernel_rfl
theorem Try.kinds7 : kindsT Try.prog 7 = some [TypeDesc.int IntKind.i64, TypeDesc.int IntKind.i64, TypeDesc.bool, TypeDesc.int IntKind.u8] := by kernel_rfl
theorem Try.places7 : placesT Try.prog 7 = some [(0, 1), (1, 1), (2, 1), (3, 1)] := by kernel_rfl
theorem Try.noInt7 : noInt Try.prog 7 = true := by kernel_rfl
theorem Try.cells8 : Program.cellsOf Try.prog 8 = 4 := by kernel_rfl
theorem Try.bytes8 : Program.bytesOf Try.prog 8 = 24 := by kernel_rfl
theorem Try.zero8 : zeroT Try.prog 8 = some (AV.ag [AV.v (Value.int IntKind.i64 ((0 : Int))), AV.v (Value.int IntKind.i64 ((0 : Int))), AV.v (Value.bool false), AV.v (Value.int IntKind.u8 ((0 : Int)))]) := by kernel_rfl
theorem Try.agg8 : aggT Try.prog 8 = some true := by kernel_rfl
theorem Try.kinds8 : kindsT Try.prog 8 = some [TypeDesc.int IntKind.i64, TypeDesc.int IntKind.i64, TypeDesc.bool, TypeDesc.int IntKind.u8] := by kernel_rfl
theorem Try.places8 : placesT Try.prog 8 = some [(0, 1), (1, 1), (2, 1), (3, 1)] := by kernel_rfl
theorem Try.noInt8 : noInt Try.prog 8 = true := by kernel_rfl
theorem Try.cells9 : Program.cellsOf Try.prog 9 = 1 := by kernel_rfl
theorem Try.bytes9 : Program.bytesOf Try.prog 9 = 16 := by kernel_rfl
theorem Try.zero9 : zeroT Try.prog 9 = some (AV.v (Value.string { data := { toList := [] } })) := by kernel_rfl
theorem Try.basic9 : basicT Try.prog 9 = some TypeDesc.string := by kernel_rfl
theorem Try.agg9 : aggT Try.prog 9 = some false := by kernel_rfl
theorem Try.noInt9 : noInt Try.prog 9 = true := by kernel_rfl
theorem Try.cells10 : Program.cellsOf Try.prog 10 = 1 := by kernel_rfl
theorem Try.bytes10 : Program.bytesOf Try.prog 10 = 16 := by kernel_rfl
theorem Try.zero10 : zeroT Try.prog 10 = some (AV.v (Value.string { data := { toList := [] } })) := by kernel_rfl
theorem Try.basic10 : basicT Try.prog 10 = some TypeDesc.string := by kernel_rfl
theorem Try.agg10 : aggT Try.prog 10 = some false := by kernel_rfl
theorem Try.noInt10 : noInt Try.prog 10 = true := by kernel_rfl
theorem Try.cells11 : Program.cellsOf Try.prog 11 = 1 := by kernel_rfl
theorem Try.bytes11 : Program.bytesOf Try.prog 11 = 16 := by kernel_rfl
theorem Try.zero11 : zeroT Try.prog 11 = some (AV.v (Value.string { data := { toList := [] } })) := by kernel_rfl
theorem Try.basic11 : basicT Try.prog 11 = some TypeDesc.string := by kernel_rfl
theorem Try.agg11 : aggT Try.prog 11 = some false := by kernel_rfl
theorem Try.noInt11 : noInt Try.prog 11 = true := by kernel_rfl
theorem Try.cells12 : Program.cellsOf Try.prog 12 = 1 := by kernel_rfl
theorem Try.bytes12 : Program.bytesOf Try.prog 12 = 8 := by kernel_rfl
theorem Try.zero12 : zeroT Try.prog 12 = some (AV.v (Value.int IntKind.u64 ((0 : Int)))) := by kernel_rfl
theorem Try.basic12 : basicT Try.prog 12 = some (TypeDesc.int IntKind.u64) := by kernel_rfl
theorem Try.agg12 : aggT Try.prog 12 = some false := by kernel_rfl
theorem Try.noInt12 : noInt Try.prog 12 = false := by kernel_rfl
theorem Try.cells13 : Program.cellsOf Try.prog 13 = 2 := by kernel_rfl
theorem Try.bytes13 : Program.bytesOf Try.prog 13 = 24 := by kernel_rfl
theorem Try.zero13 : zeroT Try.prog 13 = some (AV.ag [AV.v (Value.string { data := { toList := [] } }), AV.v (Value.int IntKind.u64 ((0 : Int)))]) := by kernel_rfl
theorem Try.agg13 : aggT Try.prog 13 = some true := by kernel_rfl
theorem Try.places13 : placesT Try.prog 13 = some [(0, 1), (1, 1)] := by kernel_rfl
theorem Try.noInt13 : noInt Try.prog 13 = true := by kernel_rfl
theorem Try.cells14 : Program.cellsOf Try.prog 14 = 2 := by kernel_rfl
theorem Try.bytes14 : Program.bytesOf Try.prog 14 = 24 := by kernel_rfl
theorem Try.zero14 : zeroT Try.prog 14 = some (AV.ag [AV.v (Value.string { data := { toList := [] } }), AV.v (Value.int IntKind.u64 ((0 : Int)))]) := by kernel_rfl
theorem Try.agg14 : aggT Try.prog 14 = some true := by kernel_rfl
theorem Try.places14 : placesT Try.prog 14 = some [(0, 1), (1, 1)] := by kernel_rfl
theorem Try.noInt14 : noInt Try.prog 14 = true := by kernel_rfl
theorem Try.cells15 : Program.cellsOf Try.prog 15 = 1 := by kernel_rfl
theorem Try.bytes15 : Program.bytesOf Try.prog 15 = 8 := by kernel_rfl
theorem Try.zero15 : zeroT Try.prog 15 = some (AV.v (Value.pointer Option.none)) := by kernel_rfl
theorem Try.agg15 : aggT Try.prog 15 = some false := by kernel_rfl
theorem Try.noInt15 : noInt Try.prog 15 = true := by kernel_rfl
theorem Try.cells16 : Program.cellsOf Try.prog 16 = 1 := by kernel_rfl
theorem Try.bytes16 : Program.bytesOf Try.prog 16 = 8 := by kernel_rfl
theorem Try.zero16 : zeroT Try.prog 16 = some (AV.v (Value.pointer Option.none)) := by kernel_rfl
theorem Try.agg16 : aggT Try.prog 16 = some false := by kernel_rfl
theorem Try.noInt16 : noInt Try.prog 16 = true := by kernel_rfl
theorem Try.cells17 : Program.cellsOf Try.prog 17 = 1 := by kernel_rfl
theorem Try.bytes17 : Program.bytesOf Try.prog 17 = 8 := by kernel_rfl
theorem Try.zero17 : zeroT Try.prog 17 = some (AV.v (Value.pointer Option.none)) := by kernel_rfl
theorem Try.agg17 : aggT Try.prog 17 = some false := by kernel_rfl
theorem Try.noInt17 : noInt Try.prog 17 = true := by kernel_rfl
theorem Try.cells18 : Program.cellsOf Try.prog 18 = 1 := by kernel_rfl
theorem Try.bytes18 : Program.bytesOf Try.prog 18 = 8 := by kernel_rfl
theorem Try.zero18 : zeroT Try.prog 18 = some (AV.ag [AV.v (Value.pointer Option.none)]) := by kernel_rfl
theorem Try.agg18 : aggT Try.prog 18 = some true := by kernel_rfl
theorem Try.places18 : placesT Try.prog 18 = some [(0, 1)] := by kernel_rfl
theorem Try.noInt18 : noInt Try.prog 18 = true := by kernel_rfl
theorem Try.cells19 : Program.cellsOf Try.prog 19 = 1 := by kernel_rfl
theorem Try.bytes19 : Program.bytesOf Try.prog 19 = 8 := by kernel_rfl
theorem Try.zero19 : zeroT Try.prog 19 = some (AV.ag [AV.v (Value.pointer Option.none)]) := by kernel_rfl
theorem Try.agg19 : aggT Try.prog 19 = some true := by kernel_rfl
theorem Try.places19 : placesT Try.prog 19 = some [(0, 1)] := by kernel_rfl
theorem Try.noInt19 : noInt Try.prog 19 = true := by kernel_rfl
theorem Try.cells20 : Program.cellsOf Try.prog 20 = 1 := by kernel_rfl
theorem Try.bytes20 : Program.bytesOf Try.prog 20 = 16 := by kernel_rfl
theorem Try.zero20 : zeroT Try.prog 20 = some (AV.v Value.nilIface) := by kernel_rfl
theorem Try.agg20 : aggT Try.prog 20 = some false := by kernel_rfl
theorem Try.noInt20 : noInt Try.prog 20 = true := by kernel_rfl
theorem Try.cells21 : Program.cellsOf Try.prog 21 = 1 := by kernel_rfl
theorem Try.bytes21 : Program.bytesOf Try.prog 21 = 4 := by kernel_rfl
theorem Try.zero21 : zeroT Try.prog 21 = some (AV.v (Value.int IntKind.i32 ((0 : Int)))) := by kernel_rfl
theorem Try.basic21 : basicT Try.prog 21 = some (TypeDesc.int IntKind.i32) := by kernel_rfl
theorem Try.agg21 : aggT Try.prog 21 = some false := by kernel_rfl
theorem Try.noInt21 : noInt Try.prog 21 = false := by kernel_rfl
theorem Try.cells22 : Program.cellsOf Try.prog 22 = 1 := by kernel_rfl
theorem Try.bytes22 : Program.bytesOf Try.prog 22 = 24 := by kernel_rfl
theorem Try.zero22 : zeroT Try.prog 22 = some (AV.sl true 0 []) := by kernel_rfl
theorem Try.agg22 : aggT Try.prog 22 = some false := by kernel_rfl
theorem Try.noInt22 : noInt Try.prog 22 = true := by kernel_rfl
theorem Try.cells23 : Program.cellsOf Try.prog 23 = 1 := by kernel_rfl
theorem Try.bytes23 : Program.bytesOf Try.prog 23 = 8 := by kernel_rfl
theorem Try.zero23 : zeroT Try.prog 23 = some (AV.v Value.nilFunc) := by kernel_rfl
theorem Try.agg23 : aggT Try.prog 23 = some false := by kernel_rfl
theorem Try.noInt23 : noInt Try.prog 23 = true := by kernel_rfl
theorem Try.cells24 : Program.cellsOf Try.prog 24 = 1 := by kernel_rfl
theorem Try.bytes24 : Program.bytesOf Try.prog 24 = 8 := by kernel_rfl
theorem Try.zero24 : zeroT Try.prog 24 = some (AV.v Value.nilFunc) := by kernel_rfl
theorem Try.agg24 : aggT Try.prog 24 = some false := by kernel_rfl
theorem Try.noInt24 : noInt Try.prog 24 = true := by kernel_rfl
theorem Try.cells25 : Program.cellsOf Try.prog 25 = 1 := by kernel_rfl
theorem Try.bytes25 : Program.bytesOf Try.prog 25 = 8 := by kernel_rfl
theorem Try.zero25 : zeroT Try.prog 25 = some (AV.v (Value.int IntKind.i64 ((0 : Int)))) := by kernel_rfl
theorem Try.basic25 : basicT Try.prog 25 = some (TypeDesc.int IntKind.i64) := by kernel_rfl
theorem Try.agg25 : aggT Try.prog 25 = some false := by kernel_rfl
theorem Try.noInt25 : noInt Try.prog 25 = false := by kernel_rfl
theorem Try.cells26 : Program.cellsOf Try.prog 26 = 1 := by kernel_rfl
theorem Try.bytes26 : Program.bytesOf Try.prog 26 = 0 := by kernel_rfl
theorem Try.zero26 : zeroT Try.prog 26 = some (AV.tu [AV.sl true 0 [], AV.v (Value.int IntKind.i64 ((0 : Int)))]) := by kernel_rfl
theorem Try.agg26 : aggT Try.prog 26 = some false := by kernel_rfl
theorem Try.noInt26 : noInt Try.prog 26 = true := by kernel_rfl
theorem Try.cells27 : Program.cellsOf Try.prog 27 = 1 := by kernel_rfl
theorem Try.bytes27 : Program.bytesOf Try.prog 27 = 8 := by kernel_rfl
theorem Try.zero27 : zeroT Try.prog 27 = some (AV.v Value.nilFunc) := by kernel_rfl
theorem Try.agg27 : aggT Try.prog 27 = some false := by kernel_rfl
theorem Try.noInt27 : noInt Try.prog 27 = true := by kernel_rfl
theorem Try.cells28 : Program.cellsOf Try.prog 28 = 1 := by kernel_rfl
theorem Try.bytes28 : Program.bytesOf Try.prog 28 = 8 := by kernel_rfl
theorem Try.zero28 : zeroT Try.prog 28 = some (AV.v Value.nilFunc) := by kernel_rfl
theorem Try.agg28 : aggT Try.prog 28 = some false := by kernel_rfl
theorem Try.noInt28 : noInt Try.prog 28 = true := by kernel_rfl
theorem Try.cells29 : Program.cellsOf Try.prog 29 = 1 := by kernel_rfl
theorem Try.bytes29 : Program.bytesOf Try.prog 29 = 8 := by kernel_rfl
theorem Try.zero29 : zeroT Try.prog 29 = some (AV.v Value.nilFunc) := by kernel_rfl
theorem Try.agg29 : aggT Try.prog 29 = some false := by kernel_rfl
theorem Try.noInt29 : noInt Try.prog 29 = true := by kernel_rfl
theorem Try.cells30 : Program.cellsOf Try.prog 30 = 1 := by kernel_rfl
theorem Try.bytes30 : Program.bytesOf Try.prog 30 = 8 := by kernel_rfl
theorem Try.zero30 : zeroT Try.prog 30 = some (AV.v Value.nilFunc) := by kernel_rfl
theorem Try.agg30 : aggT Try.prog 30 = some false := by kernel_rfl
theorem Try.noInt30 : noInt Try.prog 30 = true := by kernel_rfl
theorem Try.cells31 : Program.cellsOf Try.prog 31 = 1 := by kernel_rfl
theorem Try.bytes31 : Program.bytesOf Try.prog 31 = 24 := by kernel_rfl
theorem Try.zero31 : zeroT Try.prog 31 = some (AV.sl true 0 []) := by kernel_rfl
theorem Try.agg31 : aggT Try.prog 31 = some false := by kernel_rfl
theorem Try.noInt31 : noInt Try.prog 31 = true := by kernel_rfl
theorem Try.cells32 : Program.cellsOf Try.prog 32 = 1 := by kernel_rfl
theorem Try.bytes32 : Program.bytesOf Try.prog 32 = 8 := by kernel_rfl
theorem Try.zero32 : zeroT Try.prog 32 = some (AV.v Value.nilFunc) := by kernel_rfl
theorem Try.agg32 : aggT Try.prog 32 = some false := by kernel_rfl
theorem Try.noInt32 : noInt Try.prog 32 = true := by kernel_rfl
theorem Try.cells33 : Program.cellsOf Try.prog 33 = 1 := by kernel_rfl
theorem Try.bytes33 : Program.bytesOf Try.prog 33 = 8 := by kernel_rfl
theorem Try.zero33 : zeroT Try.prog 33 = some (AV.v Value.nilFunc) := by kernel_rfl
theorem Try.agg33 : aggT Try.prog 33 = some false := by kernel_rfl
theorem Try.noInt33 : noInt Try.prog 33 = true := by kernel_rfl
theorem Try.cells34 : Program.cellsOf Try.prog 34 = 1 := by kernel_rfl
theorem Try.bytes34 : Program.bytesOf Try.prog 34 = 8 := by kernel_rfl
theorem Try.zero34 : zeroT Try.prog 34 = some (AV.v Value.nilFunc) := by kernel_rfl
theorem Try.agg34 : aggT Try.prog 34 = some false := by kernel_rfl
theorem Try.noInt34 : noInt Try.prog 34 = true := by kernel_rfl
theorem Try.cells35 : Program.cellsOf Try.prog 35 = 1 := by kernel_rfl
theorem Try.bytes35 : Program.bytesOf Try.prog 35 = 0 := by kernel_rfl
theorem Try.zero35 : zeroT Try.prog 35 = some (AV.tu [AV.sl true 0 [], AV.v (Value.int IntKind.i64 ((0 : Int)))]) := by kernel_rfl
theorem Try.agg35 : aggT Try.prog 35 = some false := by kernel_rfl
theorem Try.noInt35 : noInt Try.prog 35 = true := by kernel_rfl
theorem Try.cells36 : Program.cellsOf Try.prog 36 = 1 := by kernel_rfl
theorem Try.bytes36 : Program.bytesOf Try.prog 36 = 8 := by kernel_rfl
theorem Try.zero36 : zeroT Try.prog 36 = some (AV.v Value.nilFunc) := by kernel_rfl
theorem Try.agg36 : aggT Try.prog 36 = some false := by kernel_rfl
theorem Try.noInt36 : noInt Try.prog 36 = true := by kernel_rfl
theorem Try.cells37 : Program.cellsOf Try.prog 37 = 1 := by kernel_rfl
theorem Try.bytes37 : Program.bytesOf Try.prog 37 = 8 := by kernel_rfl
theorem Try.zero37 : zeroT Try.prog 37 = some (AV.v Value.nilFunc) := by kernel_rfl
theorem Try.agg37 : aggT Try.prog 37 = some false := by kernel_rfl
theorem Try.noInt37 : noInt Try.prog 37 = true := by kernel_rfl
theorem Try.cells38 : Program.cellsOf Try.prog 38 = 1 := by kernel_rfl
theorem Try.bytes38 : Program.bytesOf Try.prog 38 = 0 := by kernel_rfl
theorem Try.zero38 : zeroT Try.prog 38 = some (AV.tu [AV.v (Value.int IntKind.i64 ((0 : Int))), AV.v (Value.int IntKind.i64 ((0 : Int)))]) := by kernel_rfl
theorem Try.agg38 : aggT Try.prog 38 = some false := by kernel_rfl
theorem Try.noInt38 : noInt Try.prog 38 = true := by kernel_rfl
theorem Try.cells39 : Program.cellsOf Try.prog 39 = 1 := by kernel_rfl
theorem Try.bytes39 : Program.bytesOf Try.prog 39 = 8 := by kernel_rfl
theorem Try.zero39 : zeroT Try.prog 39 = some (AV.v Value.nilFunc) := by kernel_rfl
theorem Try.agg39 : aggT Try.prog 39 = some false := by kernel_rfl
theorem Try.noInt39 : noInt Try.prog 39 = true := by kernel_rfl
theorem Try.cells40 : Program.cellsOf Try.prog 40 = 1 := by kernel_rfl
theorem Try.bytes40 : Program.bytesOf Try.prog 40 = 8 := by kernel_rfl
theorem Try.zero40 : zeroT Try.prog 40 = some (AV.v Value.nilFunc) := by kernel_rfl
theorem Try.agg40 : aggT Try.prog 40 = some false := by kernel_rfl
theorem Try.noInt40 : noInt Try.prog 40 = true := by kernel_rfl
theorem Try.cells41 : Program.cellsOf Try.prog 41 = 1 := by kernel_rfl
theorem Try.bytes41 : Program.bytesOf Try.prog 41 = 8 := by kernel_rfl
theorem Try.zero41 : zeroT Try.prog 41 = some (AV.v Value.nilFunc) := by kernel_rfl
theorem Try.agg41 : aggT Try.prog 41 = some false := by kernel_rfl
theorem Try.noInt41 : noInt Try.prog 41 = true := by kernel_rfl
theorem Try.cells42 : Program.cellsOf Try.prog 42 = 1 := by kernel_rfl
theorem Try.bytes42 : Program.bytesOf Try.prog 42 = 8 := by kernel_rfl
theorem Try.zero42 : zeroT Try.prog 42 = some (AV.v Value.nilFunc) := by kernel_rfl
theorem Try.agg42 : aggT Try.prog 42 = some false := by kernel_rfl
theorem Try.noInt42 : noInt Try.prog 42 = true := by kernel_rfl
theorem Try.cells43 : Program.cellsOf Try.prog 43 = 1 := by kernel_rfl
theorem Try.bytes43 : Program.bytesOf Try.prog 43 = 8 := by kernel_rfl
theorem Try.zero43 : zeroT Try.prog 43 = some (AV.v Value.nilFunc) := by kernel_rfl
theorem Try.agg43 : aggT Try.prog 43 = some false := by kernel_rfl
theorem Try.noInt43 : noInt Try.prog 43 = true := by kernel_rfl
theorem Try.cells44 : Program.cellsOf Try.prog 44 = 1 := by kernel_rfl
theorem Try.bytes44 : Program.bytesOf Try.prog 44 = 8 := by kernel_rfl
theorem Try.zero44 : zeroT Try.prog 44 = some (AV.v Value.nilFunc) := by kernel_rfl
theorem Try.agg44 : aggT Try.prog 44 = some false := by kernel_rfl
theorem Try.noInt44 : noInt Try.prog 44 = true := by kernel_rfl
theorem Try.cells45 : Program.cellsOf Try.prog 45 = 1 := by kernel_rfl
theorem Try.bytes45 : Program.bytesOf Try.prog 45 = 0 := by kernel_rfl
theorem Try.zero45 : zeroT Try.prog 45 = some (AV.tu [AV.sl true 0 [], AV.v (Value.int IntKind.i64 ((0 : Int)))]) := by kernel_rfl
theorem Try.agg45 : aggT Try.prog 45 = some false := by kernel_rfl
theorem Try.noInt45 : noInt Try.prog 45 = true := by kernel_rfl
theorem Try.cells46 : Program.cellsOf Try.prog 46 = 1 := by kernel_rfl
theorem Try.bytes46 : Program.bytesOf Try.prog 46 = 8 := by kernel_rfl
theorem Try.zero46 : zeroT Try.prog 46 = some (AV.v Value.nilFunc) := by kernel_rfl
theorem Try.agg46 : aggT Try.prog 46 = some false := by kernel_rfl
theorem Try.noInt46 : noInt Try.prog 46 = true := by kernel_rfl
theorem Try.cells47 : Program.cellsOf Try.prog 47 = 1 := by kernel_rfl
theorem Try.bytes47 : Program.bytesOf Try.prog 47 = 8 := by kernel_rfl
theorem Try.zero47 : zeroT Try.prog 47 = some (AV.v Value.nilFunc) := by kernel_rfl
theorem Try.agg47 : aggT Try.prog 47 = some false := by kernel_rfl
theorem Try.noInt47 : noInt Try.prog 47 = true := by kernel_rfl
theorem Try.cells48 : Program.cellsOf Try.prog 48 = 1 := by kernel_rfl
theorem Try.bytes48 : Program.bytesOf Try.prog 48 = 8 := by kernel_rfl
theorem Try.zero48 : zeroT Try.prog 48 = some (AV.v Value.nilFunc) := by kernel_rfl
theorem Try.agg48 : aggT Try.prog 48 = some false := by kernel_rfl
theorem Try.noInt48 : noInt Try.prog 48 = true := by kernel_rfl
theorem Try.cells49 : Program.cellsOf Try.prog 49 = 1 := by kernel_rfl
theorem Try.bytes49 : Program.bytesOf Try.prog 49 = 8 := by kernel_rfl
theorem Try.zero49 : zeroT Try.prog 49 = some (AV.v Value.nilFunc) := by kernel_rfl
theorem Try.agg49 : aggT Try.prog 49 = some false := by kernel_rfl
theorem Try.noInt49 : noInt Try.prog 49 = true := by kernel_rfl
theorem Try.cells50 : Program.cellsOf Try.prog 50 = 6 := by kernel_rfl
theorem Try.bytes50 : Program.bytesOf Try.prog 50 = 48 := by kernel_rfl
theorem Try.zero50 : zeroT Try.prog 50 = some (AV.ag [AV.v (Value.int IntKind.i64 ((0 : Int))), AV.v (Value.int IntKind.i64 ((0 : Int))), AV.v (Value.int IntKind.i64 ((0 : Int))), AV.v (Value.int IntKind.i64 ((0 : Int))), AV.v (Value.int IntKind.i64 ((0 : Int))), AV.v (Value.int IntKind.i64 ((0 : Int)))]) := by kernel_rfl
theorem Try.agg50 : aggT Try.prog 50 = some true := by kernel_rfl
theorem Try.kinds50 : kindsT Try.prog 50 = some [TypeDesc.int IntKind.i64, TypeDesc.int IntKind.i64, TypeDesc.int IntKind.i64, TypeDesc.int IntKind.i64, TypeDesc.int IntKind.i64, TypeDesc.int IntKind.i64] := by kernel_rfl
theorem Try.elem50 : elemT Try.prog 50 = some 1 := by kernel_rfl
theorem Try.noInt50 : noInt Try.prog 50 = true := by kernel_rfl
theorem Try.cells51 : Program.cellsOf Try.prog 51 = 6 := by kernel_rfl
theorem Try.bytes51 : Program.bytesOf Try.prog 51 = 48 := by kernel_rfl
theorem Try.zero51 : zeroT Try.prog 51 = some (AV.ag [AV.v (Value.int IntKind.i64 ((0 : Int))), AV.v (Value.int IntKind.i64 ((0 : Int))), AV.v (Value.int IntKind.i64 ((0 : Int))), AV.v (Value.int IntKind.i64 ((0 : Int))), AV.v (Value.int IntKind.i64 ((0 : Int))), AV.v (Value.int IntKind.i64 ((0 : Int)))]) := by kernel_rfl
theorem Try.agg51 : aggT Try.prog 51 = some true := by kernel_rfl
theorem Try.kinds51 : kindsT Try.prog 51 = some [TypeDesc.int IntKind.i64, TypeDesc.int IntKind.i64, TypeDesc.int IntKind.i64, TypeDesc.int IntKind.i64, TypeDesc.int IntKind.i64, TypeDesc.int IntKind.i64] := by kernel_rfl
theorem Try.elem51 : elemT Try.prog 51 = some 1 := by kernel_rfl
theorem Try.noInt51 : noInt Try.prog 51 = true := by kernel_rfl
theorem Try.cells52 : Program.cellsOf Try.prog 52 = 1 := by kernel_rfl
theorem Try.bytes52 : Program.bytesOf Try.prog 52 = 8 := by kernel_rfl
theorem Try.zero52 : zeroT Try.prog 52 = some (AV.v Value.nilFunc) := by kernel_rfl
theorem Try.agg52 : aggT Try.prog 52 = some false := by kernel_rfl
theorem Try.noInt52 : noInt Try.prog 52 = true := by kernel_rfl
theorem Try.cells53 : Program.cellsOf Try.prog 53 = 1 := by kernel_rfl
theorem Try.bytes53 : Program.bytesOf Try.prog 53 = 8 := by kernel_rfl
theorem Try.zero53 : zeroT Try.prog 53 = some (AV.v (Value.map Option.none)) := by kernel_rfl
theorem Try.agg53 : aggT Try.prog 53 = some false := by kernel_rfl
theorem Try.noInt53 : noInt Try.prog 53 = true := by kernel_rfl
theorem Try.cells54 : Program.cellsOf Try.prog 54 = 1 := by kernel_rfl
theorem Try.bytes54 : Program.bytesOf Try.prog 54 = 8 := by kernel_rfl
theorem Try.zero54 : zeroT Try.prog 54 = some (AV.v Value.nilFunc) := by kernel_rfl
theorem Try.agg54 : aggT Try.prog 54 = some false := by kernel_rfl
theorem Try.noInt54 : noInt Try.prog 54 = true := by kernel_rfl
theorem Try.cells55 : Program.cellsOf Try.prog 55 = 1 := by kernel_rfl
theorem Try.bytes55 : Program.bytesOf Try.prog 55 = 8 := by kernel_rfl
theorem Try.zero55 : zeroT Try.prog 55 = some (AV.v Value.nilFunc) := by kernel_rfl
theorem Try.agg55 : aggT Try.prog 55 = some false := by kernel_rfl
theorem Try.noInt55 : noInt Try.prog 55 = true := by kernel_rfl
theorem Try.cells56 : Program.cellsOf Try.prog 56 = 1 := by kernel_rfl
theorem Try.bytes56 : Program.bytesOf Try.prog 56 = 8 := by kernel_rfl
theorem Try.zero56 : zeroT Try.prog 56 = some (AV.v Value.nilFunc) := by kernel_rfl
theorem Try.agg56 : aggT Try.prog 56 = some false := by kernel_rfl
theorem Try.noInt56 : noInt Try.prog 56 = true := by kernel_rfl
theorem Try.cells57 : Program.cellsOf Try.prog 57 = 1 := by kernel_rfl
theorem Try.bytes57 : Program.bytesOf Try.prog 57 = 8 := by kernel_rfl
theorem Try.zero57 : zeroT Try.prog 57 = some (AV.v Value.nilFunc) := by kernel_rfl
theorem Try.agg57 : aggT Try.prog 57 = some false := by kernel_rfl
theorem Try.noInt57 : noInt Try.prog 57 = true := by kernel_rfl
theorem Try.cells58 : Program.cellsOf Try.prog 58 = 1 := by kernel_rfl
theorem Try.bytes58 : Program.bytesOf Try.prog 58 = 0 := by kernel_rfl
theorem Try.zero58 : zeroT Try.prog 58 = some (AV.tu [AV.v (Value.int IntKind.i64 ((0 : Int))), AV.v (Value.bool false)]) := by kernel_rfl
theorem Try.agg58 : aggT Try.prog 58 = some false := by kernel_rfl
theorem Try.noInt58 : noInt Try.prog 58 = true := by kernel_rfl
theorem Try.cells59 : Program.cellsOf Try.prog 59 = 1 := by kernel_rfl
theorem Try.bytes59 : Program.bytesOf Try.prog 59 = 8 := by kernel_rfl
theorem Try.zero59 : zeroT Try.prog 59 = some (AV.v Value.nilFunc) := by kernel_rfl
theorem Try.agg59 : aggT Try.prog 59 = some false := by kernel_rfl
theorem Try.noInt59 : noInt Try.prog 59 = true := by kernel_rfl
theorem Try.cells60 : Program.cellsOf Try.prog 60 = 6 := by kernel_rfl
theorem Try.bytes60 : Program.bytesOf Try.prog 60 = 6 := by kernel_rfl
theorem Try.zero60 : zeroT Try.prog 60 = some (AV.ag [AV.v (Value.bool false), AV.v (Value.bool false), AV.v (Value.bool false), AV.v (Value.bool false), AV.v (Value.bool false), AV.v (Value.bool false)]) := by kernel_rfl
theorem Try.agg60 : aggT Try.prog 60 = some true := by kernel_rfl
theorem Try.kinds60 : kindsT Try.prog 60 = some [TypeDesc.bool, TypeDesc.bool, TypeDesc.bool, TypeDesc.bool, TypeDesc.bool, TypeDesc.bool] := by kernel_rfl
theorem Try.elem60 : elemT Try.prog 60 = some 1 := by kernel_rfl
theorem Try.noInt60 : noInt Try.prog 60 = true := by kernel_rfl
theorem Try.cells61 : Program.cellsOf Try.prog 61 = 1 := by kernel_rfl
theorem Try.bytes61 : Program.bytesOf Try.prog 61 = 24 := by kernel_rfl
theorem Try.zero61 : zeroT Try.prog 61 = some (AV.sl true 0 []) := by kernel_rfl
theorem Try.agg61 : aggT Try.prog 61 = some false := by kernel_rfl
theorem Try.noInt61 : noInt Try.prog 61 = true := by kernel_rfl
theorem Try.cells62 : Program.cellsOf Try.prog 62 = 1 := by kernel_rfl
theorem Try.bytes62 : Program.bytesOf Try.prog 62 = 24 := by kernel_rfl
theorem Try.zero62 : zeroT Try.prog 62 = some (AV.sl true 0 []) := by kernel_rfl
theorem Try.agg62 : aggT Try.prog 62 = some false := by kernel_rfl
theorem Try.noInt62 : noInt Try.prog 62 = true := by kernel_rfl
theorem Try.cells63 : Program.cellsOf Try.prog 63 = 6 := by kernel_rfl
theorem Try.bytes63 : Program.bytesOf Try.prog 63 = 24 := by kernel_rfl
theorem Try.zero63 : zeroT Try.prog 63 = some (AV.ag [AV.v (Value.int IntKind.i32 ((0 : Int))), AV.v (Value.int IntKind.i32 ((0 : Int))), AV.v (Value.int IntKind.i32 ((0 : Int))), AV.v (Value.int IntKind.i32 ((0 : Int))), AV.v (Value.int IntKind.i32 ((0 : Int))), AV.v (Value.int IntKind.i32 ((0 : Int)))]) := by kernel_rfl
theorem Try.agg63 : aggT Try.prog 63 = some true := by kernel_rfl
theorem Try.kinds63 : kindsT Try.prog 63 = some [TypeDesc.int IntKind.i32, TypeDesc.int IntKind.i32, TypeDesc.int IntKind.i32, TypeDesc.int IntKind.i32, TypeDesc.int IntKind.i32, TypeDesc.int IntKind.i32] := by kernel_rfl
theorem Try.elem63 : elemT Try.prog 63 = some 1 := by kernel_rfl
theorem Try.noInt63 : noInt Try.prog 63 = true := by kernel_rfl
theorem Try.cells64 : Program.cellsOf Try.prog 64 = 6 := by kernel_rfl
theorem Try.bytes64 : Program.bytesOf Try.prog 64 = 24 := by kernel_rfl
theorem Try.zero64 : zeroT Try.prog 64 = some (AV.ag [AV.v (Value.int IntKind.i32 ((0 : Int))), AV.v (Value.int IntKind.i32 ((0 : Int))), AV.v (Value.int IntKind.i32 ((0 : Int))), AV.v (Value.int IntKind.i32 ((0 : Int))), AV.v (Value.int IntKind.i32 ((0 : Int))), AV.v (Value.int IntKind.i32 ((0 : Int)))]) := by kernel_rfl
theorem Try.agg64 : aggT Try.prog 64 = some true := by kernel_rfl
theorem Try.kinds64 : kindsT Try.prog 64 = some [TypeDesc.int IntKind.i32, TypeDesc.int IntKind.i32, TypeDesc.int IntKind.i32, TypeDesc.int IntKind.i32, TypeDesc.int IntKind.i32, TypeDesc.int IntKind.i32] := by kernel_rfl
theorem Try.elem64 : elemT Try.prog 64 = some 1 := by kernel_rfl
theorem Try.noInt64 : noInt Try.prog 64 = true := by kernel_rfl
theorem Try.cells65 : Program.cellsOf Try.prog 65 = 1 := by kernel_rfl
theorem Try.bytes65 : Program.bytesOf Try.prog 65 = 0 := by kernel_rfl
theorem Try.agg65 : aggT Try.prog 65 = some false := by kernel_rfl
theorem Try.noInt65 : noInt Try.prog 65 = true := by kernel_rfl
theorem Try.cells66 : Program.cellsOf Try.prog 66 = 1 := by kernel_rfl
theorem Try.bytes66 : Program.bytesOf Try.prog 66 = 8 := by kernel_rfl
theorem Try.zero66 : zeroT Try.prog 66 = some (AV.v Value.nilFunc) := by kernel_rfl
theorem Try.agg66 : aggT Try.prog 66 = some false := by kernel_rfl
theorem Try.noInt66 : noInt Try.prog 66 = true := by kernel_rfl
theorem Try.cells67 : Program.cellsOf Try.prog 67 = 1 := by kernel_rfl
theorem Try.bytes67 : Program.bytesOf Try.prog 67 = 8 := by kernel_rfl
theorem Try.zero67 : zeroT Try.prog 67 = some (AV.v (Value.map Option.none)) := by kernel_rfl
theorem Try.agg67 : aggT Try.prog 67 = some false := by kernel_rfl
theorem Try.noInt67 : noInt Try.prog 67 = true := by kernel_rfl
theorem Try.cells68 : Program.cellsOf Try.prog 68 = 1 := by kernel_rfl
theorem Try.bytes68 : Program.bytesOf Try.prog 68 = 8 := by kernel_rfl
theorem Try.zero68 : zeroT Try.prog 68 = some (AV.v Value.nilFunc) := by kernel_rfl
theorem Try.agg68 : aggT Try.prog 68 = some false := by kernel_rfl
theorem Try.noInt68 : noInt Try.prog 68 = true := by kernel_rfl
theorem Try.cells69 : Program.cellsOf Try.prog 69 = 1 := by kernel_rfl
theorem Try.bytes69 : Program.bytesOf Try.prog 69 = 8 := by kernel_rfl
theorem Try.zero69 : zeroT Try.prog 69 = some (AV.v Value.nilFunc) := by kernel_rfl
theorem Try.agg69 : aggT Try.prog 69 = some false := by kernel_rfl
theorem Try.noInt69 : noInt Try.prog 69 = true := by kernel_rfl
theorem Try.cells70 : Program.cellsOf Try.prog 70 = 1 := by kernel_rfl
theorem Try.bytes70 : Program.bytesOf Try.prog 70 = 8 := by kernel_rfl
theorem Try.zero70 : zeroT Try.prog 70 = some (AV.v Value.nilFunc) := by kernel_rfl
theorem Try.agg70 : aggT Try.prog 70 = some false := by kernel_rfl
theorem Try.noInt70 : noInt Try.prog 70 = true := by kernel_rfl
theorem Try.cells71 : Program.cellsOf Try.prog 71 = 1 := by kernel_rfl
theorem Try.bytes71 : Program.bytesOf Try.prog 71 = 8 := by kernel_rfl
theorem Try.zero71 : zeroT Try.prog 71 = some (AV.v (Value.int IntKind.u64 ((0 : Int)))) := by kernel_rfl
theorem Try.basic71 : basicT Try.prog 71 = some (TypeDesc.int IntKind.u64) := by kernel_rfl
theorem Try.agg71 : aggT Try.prog 71 = some false := by kernel_rfl
theorem Try.noInt71 : noInt Try.prog 71 = false := by kernel_rfl
theorem Try.cells72 : Program.cellsOf Try.prog 72 = 1 := by kernel_rfl
theorem Try.bytes72 : Program.bytesOf Try.prog 72 = 8 := by kernel_rfl
theorem Try.zero72 : zeroT Try.prog 72 = some (AV.v Value.nilFunc) := by kernel_rfl
theorem Try.agg72 : aggT Try.prog 72 = some false := by kernel_rfl
theorem Try.noInt72 : noInt Try.prog 72 = true := by kernel_rfl
theorem Try.cells73 : Program.cellsOf Try.prog 73 = 1 := by kernel_rfl
theorem Try.bytes73 : Program.bytesOf Try.prog 73 = 8 := by kernel_rfl
theorem Try.zero73 : zeroT Try.prog 73 = some (AV.v Value.nilFunc) := by kernel_rfl
theorem Try.agg73 : aggT Try.prog 73 = some false := by kernel_rfl
theorem Try.noInt73 : noInt Try.prog 73 = true := by kernel_rfl
theorem Try.cells74 : Program.cellsOf Try.prog 74 = 1 := by kernel_rfl
theorem Try.bytes74 : Program.bytesOf Try.prog 74 = 8 := by kernel_rfl
theorem Try.zero74 : zeroT Try.prog 74 = some (AV.v (Value.int IntKind.i64 ((0 : Int)))) := by kernel_rfl
theorem Try.basic74 : basicT Try.prog 74 = some (TypeDesc.int IntKind.i64) := by kernel_rfl
theorem Try.agg74 : aggT Try.prog 74 = some false := by kernel_rfl
theorem Try.noInt74 : noInt Try.prog 74 = false := by kernel_rfl
theorem Try.cells75 : Program.cellsOf Try.prog 75 = 1 := by kernel_rfl
theorem Try.bytes75 : Program.bytesOf Try.prog 75 = 0 := by kernel_rfl
theorem Try.zero75 : zeroT Try.prog 75 = some (AV.tu [AV.v (Value.int IntKind.i64 ((0 : Int))), AV.v (Value.int IntKind.i64 ((0 : Int)))]) := by kernel_rfl
theorem Try.agg75 : aggT Try.prog 75 = some false := by kernel_rfl
theorem Try.noInt75 : noInt Try.prog 75 = true := by kernel_rfl
theorem Try.cells76 : Program.cellsOf Try.prog 76 = 1 := by kernel_rfl
theorem Try.bytes76 : Program.bytesOf Try.prog 76 = 8 := by kernel_rfl
theorem Try.zero76 : zeroT Try.prog 76 = some (AV.v Value.nilFunc) := by kernel_rfl
theorem Try.agg76 : aggT Try.prog 76 = some false := by kernel_rfl
theorem Try.noInt76 : noInt Try.prog 76 = true := by kernel_rfl
theorem Try.cells77 : Program.cellsOf Try.prog 77 = 1 := by kernel_rfl
theorem Try.bytes77 : Program.bytesOf Try.prog 77 = 8 := by kernel_rfl
theorem Try.zero77 : zeroT Try.prog 77 = some (AV.v Value.nilFunc) := by kernel_rfl
theorem Try.agg77 : aggT Try.prog 77 = some false := by kernel_rfl
theorem Try.noInt77 : noInt Try.prog 77 = true := by kernel_rfl
theorem Try.cells78 : Program.cellsOf Try.prog 78 = 1 := by kernel_rfl
theorem Try.bytes78 : Program.bytesOf Try.prog 78 = 8 := by kernel_rfl
theorem Try.zero78 : zeroT Try.prog 78 = some (AV.v Value.nilFunc) := by kernel_rfl
theorem Try.agg78 : aggT Try.prog 78 = some false := by kernel_rfl
theorem Try.noInt78 : noInt Try.prog 78 = true := by kernel_rfl
theorem Try.cells79 : Program.cellsOf Try.prog 79 = 1 := by kernel_rfl
theorem Try.bytes79 : Program.bytesOf Try.prog 79 = 8 := by kernel_rfl
theorem Try.zero79 : zeroT Try.prog 79 = some (AV.v Value.nilFunc) := by kernel_rfl
theorem Try.agg79 : aggT Try.prog 79 = some false := by kernel_rfl
theorem Try.noInt79 : noInt Try.prog 79 = true := by kernel_rfl
theorem Try.cells80 : Program.cellsOf Try.prog 80 = 1 := by kernel_rfl
theorem Try.bytes80 : Program.bytesOf Try.prog 80 = 8 := by kernel_rfl
theorem Try.zero80 : zeroT Try.prog 80 = some (AV.v Value.nilFunc) := by kernel_rfl
theorem Try.agg80 : aggT Try.prog 80 = some false := by kernel_rfl
theorem Try.noInt80 : noInt Try.prog 80 = true := by kernel_rfl
theorem Try.cells81 : Program.cellsOf Try.prog 81 = 1 := by kernel_rfl
theorem Try.bytes81 : Program.bytesOf Try.prog 81 = 4 := by kernel_rfl
theorem Try.zero81 : zeroT Try.prog 81 = some (AV.v (Value.int IntKind.u32 ((0 : Int)))) := by kernel_rfl
theorem Try.basic81 : basicT Try.prog 81 = some (TypeDesc.int IntKind.u32) := by kernel_rfl
theorem Try.agg81 : aggT Try.prog 81 = some false := by kernel_rfl
theorem Try.noInt81 : noInt Try.prog 81 = false := by kernel_rfl
theorem Try.cells82 : Program.cellsOf Try.prog 82 = 1 := by kernel_rfl
theorem Try.bytes82 : Program.bytesOf Try.prog 82 = 8 := by kernel_rfl
theorem Try.zero82 : zeroT Try.prog 82 = some (AV.v Value.nilFunc) := by kernel_rfl
theorem Try.agg82 : aggT Try.prog 82 = some false := by kernel_rfl
theorem Try.noInt82 : noInt Try.prog 82 = true := by kernel_rfl
theorem Try.cells83 : Program.cellsOf Try.prog 83 = 1 := by kernel_rfl
theorem Try.bytes83 : Program.bytesOf Try.prog 83 = 8 := by kernel_rfl
theorem Try.zero83 : zeroT Try.prog 83 = some (AV.v (Value.int IntKind.u64 ((0 : Int)))) := by kernel_rfl
theorem Try.basic83 : basicT Try.prog 83 = some (TypeDesc.int IntKind.u64) := by kernel_rfl
theorem Try.agg83 : aggT Try.prog 83 = some false := by kernel_rfl
theorem Try.noInt83 : noInt Try.prog 83 = false := by kernel_rfl
theorem Try.cells84 : Program.cellsOf Try.prog 84 = 1 := by kernel_rfl
theorem Try.bytes84 : Program.bytesOf Try.prog 84 = 8 := by kernel_rfl
theorem Try.zero84 : zeroT Try.prog 84 = some (AV.v Value.nilFunc) := by kernel_rfl
theorem Try.agg84 : aggT Try.prog 84 = some false := by kernel_rfl
theorem Try.noInt84 : noInt Try.prog 84 = true := by kernel_rfl
theorem Try.cells85 : Program.cellsOf Try.prog 85 = 1 := by kernel_rfl
theorem Try.bytes85 : Program.bytesOf Try.prog 85 = 8 := by kernel_rfl
theorem Try.zero85 : zeroT Try.prog 85 = some (AV.v (Value.int IntKind.u64 ((0 : Int)))) := by kernel_rfl
theorem Try.basic85 : basicT Try.prog 85 = some (TypeDesc.int IntKind.u64) := by kernel_rfl
theorem Try.agg85 : aggT Try.prog 85 = some false := by kernel_rfl
theorem Try.noInt85 : noInt Try.prog 85 = false := by kernel_rfl
theorem Try.cells86 : Program.cellsOf Try.prog 86 = 1 := by kernel_rfl
theorem Try.bytes86 : Program.bytesOf Try.prog 86 = 8 := by kernel_rfl
theorem Try.zero86 : zeroT Try.prog 86 = some (AV.v Value.nilFunc) := by kernel_rfl
theorem Try.agg86 : aggT Try.prog 86 = some false := by kernel_rfl
theorem Try.noInt86 : noInt Try.prog 86 = true := by kernel_rfl
theorem Try.cells87 : Program.cellsOf Try.prog 87 = 1 := by kernel_rfl
theorem Try.bytes87 : Program.bytesOf Try.prog 87 = 8 := by kernel_rfl
theorem Try.zero87 : zeroT Try.prog 87 = some (AV.v Value.nilFunc) := by kernel_rfl
theorem Try.agg87 : aggT Try.prog 87 = some false := by kernel_rfl
theorem Try.noInt87 : noInt Try.prog 87 = true := by kernel_rfl
theorem Try.cells88 : Program.cellsOf Try.prog 88 = 1 := by kernel_rfl
theorem Try.bytes88 : Program.bytesOf Try.prog 88 = 8 := by kernel_rfl
theorem Try.zero88 : zeroT Try.prog 88 = some (AV.v Value.nilFunc) := by kernel_rfl
theorem Try.agg88 : aggT Try.prog 88 = some false := by kernel_rfl
theorem Try.noInt88 : noInt Try.prog 88 = true := by kernel_rfl
theorem Try.cells89 : Program.cellsOf Try.prog 89 = 1 := by kernel_rfl
theorem Try.bytes89 : Program.bytesOf Try.prog 89 = 8 := by kernel_rfl
theorem Try.zero89 : zeroT Try.prog 89 = some (AV.v (Value.pointer Option.none)) := by kernel_rfl
theorem Try.agg89 : aggT Try.prog 89 = some false := by kernel_rfl
theorem Try.noInt89 : noInt Try.prog 89 = true := by kernel_rfl
attribute [push_cast]
  Try.sh0 Try.sh1 Try.sh2 Try.sh3 Try.sh4 Try.sh5 Try.sh6 Try.sh7 Try.sh8 Try.sh9 Try.sh10 Try.sh11 Try.sh12 Try.sh13 Try.sh14 Try.sh15 Try.sh16 Try.sh17 Try.sh18 Try.sh19 Try.sh20 Try.sh21 Try.sh22 Try.sh23 Try.sh24 Try.sh25 Try.sh26 Try.sh27 Try.sh28 Try.sh29 Try.sh30 Try.sh31 Try.sh32 Try.sh33 Try.sh34 Try.sh35 Try.sh36 Try.sh37 Try.sh38 Try.sh39 Try.sh40 Try.sh41 Try.sh42 Try.sh43 Try.sh44 Try.sh45 Try.sh46 Try.sh47 Try.sh48 Try.sh49 Try.sh50 Try.sh51 Try.sh52 Try.sh53 Try.sh54 Try.sh55 Try.sh56 Try.sh57 Try.sh58 Try.sh59 Try.sh60 Try.sh61 Try.sh62 Try.sh63 Try.sh64 Try.sh65 Try.sh66 Try.sh67 Try.sh68 Try.sh69 Try.sh70 Try.sh71 Try.sh72 Try.sh73 Try.sh74 Try.sh75 Try.sh76 Try.sh77 Try.sh78 Try.sh79 Try.sh80 Try.sh81 Try.sh82 Try.sh83 Try.sh84 Try.sh85 Try.pr2_n Try.ann2_r Try.pr3_n Try.ann3_r Try.pr4_0 Try.pr4_1 Try.pr4_2 Try.pr4_3 Try.pr4_4 Try.pr4_5 Try.pr4_6 Try.pr4_7 Try.pr4_8 Try.pr4_9 Try.pr4_10 Try.pr4_11 Try.pr4_12 Try.pr4_13 Try.pr4_14 Try.pr4_15 Try.pr4_16 Try.pr4_17 Try.pr4_18 Try.pr4_19 Try.pr4_20 Try.pr4_21 Try.pr4_22 Try.pr4_23 Try.pr4_24 Try.pr4_25 Try.pr4_26 Try.pr4_27 Try.pr4_28 Try.ann4_r Try.ann4_0 Try.ann4_1 Try.ann4_2 Try.ann4_3 Try.pr5_0 Try.pr5_1 Try.pr5_2 Try.pr5_3 Try.pr5_4 Try.pr5_5 Try.pr5_6 Try.pr5_7 Try.pr5_8 Try.pr5_9 Try.pr5_10 Try.pr5_11 Try.pr5_12 Try.pr5_13 Try.pr5_14 Try.pr5_15 Try.pr5_16 Try.ann5_r Try.pr6_0 Try.pr6_1 Try.pr6_2 Try.pr6_3 Try.pr6_4 Try.pr6_5 Try.pr6_6 Try.pr6_7 Try.pr6_8 Try.ann6_r Try.pr7_n Try.ann7_r Try.ann7_0 Try.ann7_1 Try.pr8_n Try.ann8_r Try.pr9_0 Try.pr9_1 Try.pr9_2 Try.pr9_3 Try.pr9_4 Try.pr9_5 Try.pr9_6 Try.pr9_7 Try.pr9_8 Try.pr9_9 Try.pr9_10 Try.pr9_11 Try.pr9_12 Try.pr9_13 Try.pr9_14 Try.pr9_15 Try.pr9_16 Try.pr9_17 Try.pr9_18 Try.pr9_19 Try.pr9_20 Try.pr9_21 Try.pr9_22 Try.pr9_23 Try.pr9_24 Try.pr9_25 Try.pr9_26 Try.pr9_27 Try.pr9_28 Try.pr9_29 Try.pr9_30 Try.pr9_31 Try.ann9_r Try.ann9_0 Try.ann9_1 Try.ann9_2 Try.ann9_3 Try.ann9_4 Try.ann9_5 Try.ann9_6 Try.ann9_7 Try.pr10_n Try.ann10_r Try.ann10_0 Try.ann10_1 Try.ann10_2 Try.ann10_3 Try.pr11_0 Try.pr11_1 Try.pr11_2 Try.pr11_3 Try.pr11_4 Try.pr11_5 Try.pr11_6 Try.pr11_7 Try.pr11_8 Try.pr11_9 Try.pr11_10 Try.pr11_11 Try.pr11_12 Try.pr11_13 Try.pr11_14 Try.pr11_15 Try.pr11_16 Try.pr11_17 Try.pr11_18 Try.pr11_19 Try.pr11_20 Try.pr11_21 Try.ann11_r Try.ann11_0 Try.ann11_1 Try.ann11_2 Try.ann11_3 Try.ann11_4 Try.ann11_5 Try.pr12_0 Try.pr12_1 Try.pr12_2 Try.pr12_3 Try.pr12_4 Try.pr12_5 Try.pr12_6 Try.pr12_7 Try.pr12_8 Try.pr12_9 Try.pr12_10 Try.pr12_11 Try.pr12_12 Try.pr12_13 Try.pr12_14 Try.pr12_15 Try.pr12_16 Try.pr12_17 Try.ann12_r Try.ann12_0 Try.ann12_1 Try.ann12_2 Try.ann12_3 Try.ann12_4 Try.ann12_5 Try.pr13_n Try.ann13_r Try.ann13_0 Try.ann13_1 Try.pr14_n Try.ann14_r Try.ann14_0 Try.ann14_1 Try.pr15_n Try.ann15_r Try.pr16_n Try.ann16_r Try.ann16_0 Try.ann16_1 Try.pr17_n Try.ann17_r Try.ann17_0 Try.pr18_n Try.ann18_r Try.ann18_0 Try.ann18_1 Try.pr19_n Try.ann19_r Try.ann19_0 Try.ann19_1 Try.pr20_n Try.ann20_r Try.ann20_0 Try.ann20_1 Try.pr21_n Try.ann21_r Try.pr22_n Try.ann22_r Try.ann22_0 Try.ann22_1 Try.pr23_n Try.ann23_r Try.ann23_0 Try.ann23_1 Try.pr24_n Try.ann24_r Try.ann24_0 Try.ann24_1 Try.pr25_n Try.ann25_r Try.ann25_0 Try.ann25_1 Try.pr26_n Try.ann26_r Try.ann26_0 Try.ann26_1 Try.ann26_2 Try.ann26_3 Try.pr27_n Try.ann27_r Try.ann27_0 Try.ann27_1 Try.ann27_2 Try.ann27_3 Try.pr28_n Try.ann28_r Try.pr29_0 Try.pr29_1 Try.pr29_2 Try.pr29_3 Try.pr29_4 Try.pr29_5 Try.pr29_6 Try.pr29_7 Try.pr29_8 Try.pr29_9 Try.pr29_10 Try.pr29_11 Try.pr29_12 Try.pr29_13 Try.pr29_14 Try.pr29_15 Try.pr29_16 Try.pr29_17 Try.pr29_18 Try.pr29_19 Try.pr29_20 Try.pr29_21 Try.pr29_22 Try.pr29_23 Try.pr29_24 Try.pr29_25 Try.pr29_26 Try.pr29_27 Try.pr29_28 Try.pr29_29 Try.pr29_30 Try.pr29_31 Try.pr29_32 Try.pr29_33 Try.pr29_34 Try.pr29_35 Try.pr29_36 Try.ann29_r Try.ann29_0 Try.ann29_1 Try.ann29_2 Try.ann29_3 Try.ann29_4 Try.ann29_5 Try.ann29_6 Try.ann29_7 Try.pr30_0 Try.pr30_1 Try.pr30_2 Try.pr30_3 Try.pr30_4 Try.pr30_5 Try.pr30_6 Try.pr30_7 Try.pr30_8 Try.pr30_9 Try.pr30_10 Try.pr30_11 Try.pr30_12 Try.pr30_13 Try.pr30_14 Try.pr30_15 Try.pr30_16 Try.pr30_17 Try.pr30_18 Try.pr30_19 Try.pr30_20 Try.pr30_21 Try.pr30_22 Try.pr30_23 Try.pr30_24 Try.pr30_25 Try.pr30_26 Try.pr30_27 Try.pr30_28 Try.pr30_29 Try.pr30_30 Try.pr30_31 Try.pr30_32 Try.ann30_r Try.ann30_0 Try.ann30_1 Try.ann30_2 Try.ann30_3 Try.ann30_4 Try.ann30_5 Try.ann30_6 Try.ann30_7 Try.ann30_8 Try.ann30_9 Try.pr31_n Try.ann31_r Try.ann31_0 Try.ann31_1 Try.pr32_n Try.ann32_r Try.pr33_n Try.ann33_r Try.ann33_0 Try.ann33_1 Try.pr34_n Try.ann34_r Try.pr35_n Try.ann35_r Try.ann35_0 Try.ann35_1 Try.pr36_0 Try.pr36_1 Try.pr36_2 Try.pr36_3 Try.pr36_4 Try.pr36_5 Try.pr36_6 Try.pr36_7 Try.pr36_8 Try.pr36_9 Try.pr36_10 Try.pr36_11 Try.pr36_12 Try.pr36_13 Try.pr36_14 Try.ann36_r Try.ann36_0 Try.ann36_1 Try.ann36_2 Try.ann36_3 Try.pr37_n Try.ann37_r Try.ann37_0 Try.ann37_1 Try.pr38_n Try.ann38_r Try.ann38_0 Try.ann38_1 Try.pr39_n Try.ann39_r Try.pr40_n Try.ann40_r Try.ann40_0 Try.ann40_1 Try.pr41_n Try.ann41_r Try.ann41_0 Try.ann41_1 Try.pr42_n Try.ann42_r Try.pr43_n Try.ann43_r Try.ann43_0 Try.ann43_1 Try.pr44_n Try.ann44_r Try.ann44_0 Try.ann44_1 Try.pr45_n Try.ann45_r Try.pr46_n Try.ann46_r Try.ann46_0 Try.ann46_1 Try.pr47_0 Try.pr47_1 Try.pr47_2 Try.pr47_3 Try.pr47_4 Try.pr47_5 Try.pr47_6 Try.pr47_7 Try.pr47_8 Try.pr47_9 Try.pr47_10 Try.pr47_11 Try.pr47_12 Try.pr47_13 Try.pr47_14 Try.pr47_15 Try.pr47_16 Try.pr47_17 Try.pr47_18 Try.pr47_19 Try.pr47_20 Try.pr47_21 Try.pr47_22 Try.pr47_23 Try.pr47_24 Try.pr47_25 Try.pr47_26 Try.pr47_27 Try.pr47_28 Try.pr47_29 Try.pr47_30 Try.ann47_r Try.ann47_0 Try.ann47_1 Try.pr48_n Try.ann48_r Try.pr49_n Try.ann49_r Try.pr50_n Try.ann50_r Try.ann50_0 Try.ann50_1 Try.pr51_n Try.ann51_r Try.ann51_0 Try.ann51_1 Try.pr52_n Try.ann52_r Try.ann52_0 Try.ann52_1 Try.ann52_2 Try.ann52_3 Try.pr53_n Try.ann53_r Try.ann53_0 Try.ann53_1 Try.ann53_2 Try.ann53_3 Try.pr54_0 Try.pr54_1 Try.pr54_2 Try.pr54_3 Try.pr54_4 Try.pr54_5 Try.pr54_6 Try.pr54_7 Try.pr54_8 Try.pr54_9 Try.pr54_10 Try.ann54_r Try.ann54_0 Try.ann54_1 Try.pr55_n Try.ann55_r Try.ann55_0 Try.pr56_n Try.ann56_r Try.ann56_0 Try.ann56_1 Try.pr57_0 Try.pr57_1 Try.pr57_2 Try.pr57_3 Try.pr57_4 Try.pr57_5 Try.pr57_6 Try.pr57_7 Try.pr57_8 Try.pr57_9 Try.pr57_10 Try.pr57_11 Try.pr57_12 Try.pr57_13 Try.pr57_14 Try.pr57_15 Try.pr57_16 Try.pr57_17 Try.pr57_18 Try.pr57_19 Try.pr57_20 Try.pr57_21 Try.pr57_22 Try.pr57_23 Try.pr57_24 Try.ann57_r Try.ann57_0 Try.ann57_1 Try.ann57_2 Try.ann57_3 Try.ann57_4 Try.ann57_5 Try.ann57_6 Try.ann57_7 Try.pr58_0 Try.pr58_1 Try.pr58_2 Try.pr58_3 Try.pr58_4 Try.pr58_5 Try.pr58_6 Try.pr58_7 Try.pr58_8 Try.pr58_9 Try.pr58_10 Try.pr58_11 Try.ann58_r Try.ann58_0 Try.ann58_1 Try.ann58_2 Try.ann58_3 Try.ann58_4 Try.ann58_5 Try.pr59_0 Try.pr59_1 Try.pr59_2 Try.pr59_3 Try.pr59_4 Try.pr59_5 Try.pr59_6 Try.pr59_7 Try.pr59_8 Try.pr59_9 Try.pr59_10 Try.pr59_11 Try.pr59_12 Try.pr59_13 Try.pr59_14 Try.pr59_15 Try.pr59_16 Try.pr59_17 Try.pr59_18 Try.pr59_19 Try.pr59_20 Try.pr59_21 Try.pr59_22 Try.ann59_r Try.ann59_0 Try.ann59_1 Try.ann59_2 Try.ann59_3 Try.ann59_4 Try.ann59_5 Try.ann59_6 Try.ann59_7 Try.ann59_8 Try.ann59_9 Try.pr60_n Try.ann60_r Try.pr61_n Try.ann61_r Try.pr62_n Try.ann62_r Try.pr63_0 Try.pr63_1 Try.pr63_2 Try.pr63_3 Try.pr63_4 Try.pr63_5 Try.pr63_6 Try.pr63_7 Try.ann63_r Try.ann63_0 Try.ann63_1 Try.pr64_n Try.ann64_r Try.pr65_n Try.ann65_r Try.pr66_n Try.ann66_r Try.pr67_n Try.ann67_r Try.pr68_n Try.ann68_r Try.cells0 Try.bytes0 Try.zero0 Try.agg0 Try.noInt0 Try.cells1 Try.bytes1 Try.zero1 Try.agg1 Try.noInt1 Try.cells2 Try.bytes2 Try.zero2 Try.basic2 Try.agg2 Try.noInt2 Try.cells3 Try.bytes3 Try.zero3 Try.basic3 Try.agg3 Try.noInt3 Try.cells4 Try.bytes4 Try.zero4 Try.basic4 Try.bne4 Try.beq4 Try.agg4 Try.noInt4 Try.cells5 Try.bytes5 Try.zero5 Try.basic5 Try.agg5 Try.noInt5 Try.cells6 Try.bytes6 Try.zero6 Try.basic6 Try.agg6 Try.noInt6 Try.cells7 Try.bytes7 Try.zero7 Try.agg7 Try.kinds7 Try.places7 Try.noInt7 Try.cells8 Try.bytes8 Try.zero8 Try.agg8 Try.kinds8 Try.places8 Try.noInt8 Try.cells9 Try.bytes9 Try.zero9 Try.basic9 Try.agg9 Try.noInt9 Try.cells10 Try.bytes10 Try.zero10 Try.basic10 Try.agg10 Try.noInt10 Try.cells11 Try.bytes11 Try.zero11 Try.basic11 Try.agg11 Try.noInt11 Try.cells12 Try.bytes12 Try.zero12 Try.basic12 Try.agg12 Try.noInt12 Try.cells13 Try.bytes13 Try.zero13 Try.agg13 Try.places13 Try.noInt13 Try.cells14 Try.bytes14 Try.zero14 Try.agg14 Try.places14 Try.noInt14 Try.cells15 Try.bytes15 Try.zero15 Try.agg15 Try.noInt15 Try.cells16 Try.bytes16 Try.zero16 Try.agg16 Try.noInt16 Try.cells17 Try.bytes17 Try.zero17 Try.agg17 Try.noInt17 Try.cells18 Try.bytes18 Try.zero18 Try.agg18 Try.places18 Try.noInt18 Try.cells19 Try.bytes19 Try.zero19 Try.agg19 Try.places19 Try.noInt19 Try.cells20 Try.bytes20 Try.zero20 Try.agg20 Try.noInt20 Try.cells21 Try.bytes21 Try.zero21 Try.basic21 Try.agg21 Try.noInt21 Try.cells22 Try.bytes22 Try.zero22 Try.agg22 Try.noInt22 Try.cells23 Try.bytes23 Try.zero23 Try.agg23 Try.noInt23 Try.cells24 Try.bytes24 Try.zero24 Try.agg24 Try.noInt24 Try.cells25 Try.bytes25 Try.zero25 Try.basic25 Try.agg25 Try.noInt25 Try.cells26 Try.bytes26 Try.zero26 Try.agg26 Try.noInt26 Try.cells27 Try.bytes27 Try.zero27 Try.agg27 Try.noInt27 Try.cells28 Try.bytes28 Try.zero28 Try.agg28 Try.noInt28 Try.cells29 Try.bytes29 Try.zero29 Try.agg29 Try.noInt29 Try.cells30 Try.bytes30 Try.zero30 Try.agg30 Try.noInt30 Try.cells31 Try.bytes31 Try.zero31 Try.agg31 Try.noInt31 Try.cells32 Try.bytes32 Try.zero32 Try.agg32 Try.noInt32 Try.cells33 Try.bytes33 Try.zero33 Try.agg33 Try.noInt33 Try.cells34 Try.bytes34 Try.zero34 Try.agg34 Try.noInt34 Try.cells35 Try.bytes35 Try.zero35 Try.agg35 Try.noInt35 Try.cells36 Try.bytes36 Try.zero36 Try.agg36 Try.noInt36 Try.cells37 Try.bytes37 Try.zero37 Try.agg37 Try.noInt37 Try.cells38 Try.bytes38 Try.zero38 Try.agg38 Try.noInt38 Try.cells39 Try.bytes39 Try.zero39 Try.agg39 Try.noInt39 Try.cells40 Try.bytes40 Try.zero40 Try.agg40 Try.noInt40 Try.cells41 Try.bytes41 Try.zero41 Try.agg41 Try.noInt41 Try.cells42 Try.bytes42 Try.zero42 Try.agg42 Try.noInt42 Try.cells43 Try.bytes43 Try.zero43 Try.agg43 Try.noInt43 Try.cells44 Try.bytes44 Try.zero44 Try.agg44 Try.noInt44 Try.cells45 Try.bytes45 Try.zero45 Try.agg45 Try.noInt45 Try.cells46 Try.bytes46 Try.zero46 Try.agg46 Try.noInt46 Try.cells47 Try.bytes47 Try.zero47 Try.agg47 Try.noInt47 Try.cells48 Try.bytes48 Try.zero48 Try.agg48 Try.noInt48 Try.cells49 Try.bytes49 Try.zero49 Try.agg49 Try.noInt49 Try.cells50 Try.bytes50 Try.zero50 Try.agg50 Try.kinds50 Try.elem50 Try.noInt50 Try.cells51 Try.bytes51 Try.zero51 Try.agg51 Try.kinds51 Try.elem51 Try.noInt51 Try.cells52 Try.bytes52 Try.zero52 Try.agg52 Try.noInt52 Try.cells53 Try.bytes53 Try.zero53 Try.agg53 Try.noInt53 Try.cells54 Try.bytes54 Try.zero54 Try.agg54 Try.noInt54 Try.cells55 Try.bytes55 Try.zero55 Try.agg55 Try.noInt55 Try.cells56 Try.bytes56 Try.zero56 Try.agg56 Try.noInt56 Try.cells57 Try.bytes57 Try.zero57 Try.agg57 Try.noInt57 Try.cells58 Try.bytes58 Try.zero58 Try.agg58 Try.noInt58 Try.cells59 Try.bytes59 Try.zero59 Try.agg59 Try.noInt59 Try.cells60 Try.bytes60 Try.zero60 Try.agg60 Try.kinds60 Try.elem60 Try.noInt60 Try.cells61 Try.bytes61 Try.zero61 Try.agg61 Try.noInt61 Try.cells62 Try.bytes62 Try.zero62 Try.agg62 Try.noInt62 Try.cells63 Try.bytes63 Try.zero63 Try.agg63 Try.kinds63 Try.elem63 Try.noInt63 Try.cells64 Try.bytes64 Try.zero64 Try.agg64 Try.kinds64 Try.elem64 Try.noInt64 Try.cells65 Try.bytes65 Try.agg65 Try.noInt65 Try.cells66 Try.bytes66 Try.zero66 Try.agg66 Try.noInt66 Try.cells67 Try.bytes67 Try.zero67 Try.agg67 Try.noInt67 Try.cells68 Try.bytes68 Try.zero68 Try.agg68 Try.noInt68 Try.cells69 Try.bytes69 Try.zero69 Try.agg69 Try.noInt69 Try.cells70 Try.bytes70 Try.zero70 Try.agg70 Try.noInt70 Try.cells71 Try.bytes71 Try.zero71 Try.basic71 Try.agg71 Try.noInt71 Try.cells72 Try.bytes72 Try.zero72 Try.agg72 Try.noInt72 Try.cells73 Try.bytes73 Try.zero73 Try.agg73 Try.noInt73 Try.cells74 Try.bytes74 Try.zero74 Try.basic74 Try.agg74 Try.noInt74 Try.cells75 Try.bytes75 Try.zero75 Try.agg75 Try.noInt75 Try.cells76 Try.bytes76 Try.zero76 Try.agg76 Try.noInt76 Try.cells77 Try.bytes77 Try.zero77 Try.agg77 Try.noInt77 Try.cells78 Try.bytes78 Try.zero78 Try.agg78 Try.noInt78 Try.cells79 Try.bytes79 Try.zero79 Try.agg79 Try.noInt79 Try.cells80 Try.bytes80 Try.zero80 Try.agg80 Try.noInt80 Try.cells81 Try.bytes81 Try.zero81 Try.basic81 Try.agg81 Try.noInt81 Try.cells82 Try.bytes82 Try.zero82 Try.agg82 Try.noInt82 Try.cells83 Try.bytes83 Try.zero83 Try.basic83 Try.agg83 Try.noInt83 Try.cells84 Try.bytes84 Try.zero84 Try.agg84 Try.noInt84 Try.cells85 Try.bytes85 Try.zero85 Try.basic85 Try.agg85 Try.noInt85 Try.cells86 Try.bytes86 Try.zero86 Try.agg86 Try.noInt86 Try.cells87 Try.bytes87 Try.zero87 Try.agg87 Try.noInt87 Try.cells88 Try.bytes88 Try.zero88 Try.agg88 Try.noInt88 Try.cells89 Try.bytes89 Try.zero89 Try.agg89 Try.noInt89 Try.cfgP Try.cfgO Try.func0 Try.func1 Try.func2 Try.func3 Try.func4 Try.func5 Try.func6 Try.func7 Try.func8 Try.func9 Try.func10 Try.func11 Try.func12 Try.func13 Try.func14 Try.func15 Try.func16 Try.func17 Try.func18 Try.func19 Try.func20 Try.func21 Try.func22 Try.func23 Try.func24 Try.func25 Try.func26 Try.func27 Try.func28 Try.func29 Try.func30 Try.func31 Try.func32 Try.func33 Try.func34 Try.func35 Try.func36 Try.func37 Try.func38 Try.func39 Try.func40 Try.func41 Try.func42 Try.func43 Try.func44 Try.func45 Try.func46 Try.func47 Try.func48 Try.func49 Try.func50 Try.func51 Try.func52 Try.func53 Try.func54 Try.func55 Try.func56 Try.func57 Try.func58 Try.func59 Try.func60 Try.func61 Try.func62 Try.func63 Try.func64 Try.func65 Try.func66 Try.func67 Try.func68 Try.func69 Try.func70 Try.func71 Try.func72 Try.func73 Try.func74 Try.func75 Try.func76 Try.func77 Try.func78 Try.func79 Try.func80 Try.func81 Try.func82 Try.func83 Try.func84 Try.func85 Try.underlying0 Try.underlying1 Try.underlying2 Try.underlying3 Try.underlying4 Try.underlying5 Try.underlying6 Try.underlying7 Try.underlying8 Try.underlying9 Try.underlying10 Try.underlying11 Try.underlying12 Try.underlying13 Try.underlying14 Try.underlying15 Try.underlying16 Try.underlying17 Try.underlying18 Try.underlying19 Try.underlying20 Try.underlying21 Try.underlying22 Try.underlying23 Try.underlying24 Try.underlying25 Try.underlying26 Try.underlying27 Try.underlying28 Try.underlying29 Try.underlying30 Try.underlying31 Try.underlying32 Try.underlying33 Try.underlying34 Try.underlying35 Try.underlying36 Try.underlying37 Try.underlying38 Try.underlying39 Try.underlying40 Try.underlying41 Try.underlying42 Try.underlying43 Try.underlying44 Try.underlying45 Try.underlying46 Try.underlying47 Try.underlying48 Try.underlying49 Try.underlying50 Try.underlying51 Try.underlying52 Try.underlying53 Try.underlying54 Try.underlying55 Try.underlying56 Try.underlying57 Try.underlying58 Try.underlying59 Try.underlying60 Try.underlying61 Try.underlying62 Try.underlying63 Try.underlying64 Try.underlying65 Try.underlying66 Try.underlying67 Try.underlying68 Try.underlying69 Try.underlying70 Try.underlying71 Try.underlying72 Try.underlying73 Try.underlying74 Try.underlying75 Try.underlying76 Try.underlying77 Try.underlying78 Try.underlying79 Try.underlying80 Try.underlying81 Try.underlying82 Try.underlying83 Try.underlying84 Try.underlying85 Try.underlying86 Try.underlying87 Try.underlying88 Try.underlying89 Try.underlying90 Try.underlying91 Try.underlying92 Try.underlying93 Try.underlying94 Try.underlying95 Try.underlying96 Try.underlying97 Try.underlying98 Try.underlying99 Try.underlying100 Try.underlying101 Try.underlying102 Try.underlying103 Try.underlying104 Try.underlying105 Try.underlying106 Try.underlying107 Try.underlying108 Try.underlying109
end Go.Proofs

/- Plain rewriting laws of the abstract interpreter, for simp. No conditions. -/
set_option linter.unusedVariables false
namespace Go.AI

@[congr] theorem obind_congr {α β : Type} {x x' : Option α} {f : α → Option β} (h : x = x') : obind x f = obind x' f := by rw [h]
@[congr] theorem arun_congr {c : Cfg} {f : FuncId} {lp : Lp} {C : Cl} {k : Nat} {a : Code} {e e' : Env} {H H' : Heap} (h : e = e') (h' : H = H') :
    arun c f lp C k a e H = arun c f lp C k a e' H' := by rw [h, h']
@[congr] theorem aops_congr {c : Cfg} {C : Cl} {ops : Array Oper} {l : List Oper} {e e' : Env} {H H' : Heap} (h : e = e') (h' : H = H') :
    aops c C ops l e H = aops c C ops l e' H' := by rw [h, h']
@[congr] theorem acond_congr {x x' : Option AV} {a b : Option (Ex × St)} (h : x = x') : acond x a b = acond x' a b := by rw [h]
@[congr] theorem blockA_congr {id : Nat} {a : Option Ann} {r r' : Option (Ex × St)} (h : r = r') : blockA id a r = blockA id a r' := by rw [h]
theorem acond_true (a b : Option (Ex × St)) : acond (some (.v (.bool true))) a b = a := rfl
theorem acond_false (a b : Option (Ex × St)) : acond (some (.v (.bool false))) a b = b := rfl
theorem obind_ite {α β : Type} {p : Prop} [Decidable p] (a b : Option α) (f : α → Option β) : obind (if p then a else b) f = if p then obind a f else obind b f := by split <;> rfl

/-- What follows a part of the code. -/
def thenA (c : Cfg) (f : FuncId) (lp : Lp) (C : Cl) (k : Nat) (b : Code) (r : Option (Ex × St)) : Option (Ex × St) :=
  obind r fun r => match r.1 with | .normal => arun c f lp C k b r.2.1 r.2.2 | _ => some r
@[congr] theorem thenA_congr {c : Cfg} {f : FuncId} {lp : Lp} {C : Cl} {k : Nat} {b : Code} {r r' : Option (Ex × St)} (h : r = r') : thenA c f lp C k b r = thenA c f lp C k b r' := by rw [h]
/-- The rest of a row of operations. -/
def nextA (c : Cfg) (C : Cl) (ops : Array Oper) (r : List Oper) (d : Option Nat) (e : Env) (q : Option (AV × Heap)) : Option (Env × Heap) :=
  obind q fun q => aops c C ops r (putA e d q.1) q.2
@[congr] theorem nextA_congr {c : Cfg} {C : Cl} {ops : Array Oper} {r : List Oper} {d : Option Nat} {e : Env} {q q' : Option (AV × Heap)} (h : q = q') : nextA c C ops r d e q = nextA c C ops r d e q' := by rw [h]
def guardA (c : Cfg) (C : Cl) (ops : Array Oper) (r : List Oper) (d : Option Nat) (o : Op) (e : Env) (H : Heap) (t : Option Bool) : Option (Env × Heap) :=
  obind t fun t => if t then nextA c C ops r d e (aop c C o e.get H) else aops c C ops r (putA e d (.tu [])) H
@[congr] theorem guardA_congr {c : Cfg} {C : Cl} {ops : Array Oper} {r : List Oper} {d : Option Nat} {o : Op} {e : Env} {H : Heap} {t t' : Option Bool} (h : t = t') :
    guardA c C ops r d o e H t = guardA c C ops r d o e H t' := by rw [h]
/-- The answer of the operation that guards. -/
def wantB (want : Bool) : Option AV → Option Bool
  | some (.v (.bool b)) => some (b == want)
  | some (.tu []) => some false
  | _ => none
def wantD (want : Bool) (g : G) : Option Nat → Option Bool
  | none => none
  | some d => wantB want (g d)
/-- Where an operation of a row puts its answer. -/
def dstAt : List Oper → Nat → Option Nat
  | [], _ => none
  | o :: _, 0 => o.dst
  | _ :: r, n + 1 => dstAt r n
theorem dstAt_zero (d : Option Nat) (o : Op) (t : TypeId) (p : String) (l : Array Edge) (g : Option (Nat × Bool)) (r : List Oper) : dstAt (⟨d, o, t, p, l, g⟩ :: r) 0 = d := rfl
theorem dstAt_succ (o : Oper) (r : List Oper) (n : Nat) : dstAt (o :: r) (n + 1) = dstAt r n := rfl
theorem dstAt_eq (l : List Oper) (j : Nat) : dstAt l j = (l[j]?).bind (·.dst) := by
  induction l generalizing j with
  | nil => rfl
  | cons o r ih =>
    cases j with
    | zero => rfl
    | succ n => simp only [dstAt, ih, List.getElem?_cons_succ]
theorem wantA_eq (ops : Array Oper) (d : Option Nat) (o : Op) (t : TypeId) (p : String) (l : Array Edge) (j : Nat) (want : Bool) (g : G) :
    wantA ops ⟨d, o, t, p, l, some (j, want)⟩ g = wantD want g ((ops[j]?).bind (·.dst)) := by
  unfold wantA
  dsimp only
  generalize ops[j]?.bind (·.dst) = x
  cases x <;> rfl
def mapNewA (d : Option TypeDesc) (H : Heap) : Option (AV × Heap) := match d with | some (.map _ _) => some (.mm H.length, H ++ [.map []]) | _ => none
section
variable (c : Cfg) (f : FuncId) (lp : Lp) (C : Cl) (k : Nat) (e : Env) (H : Heap)
theorem thenA_normal (b : Code) : thenA c f lp C k b (some (.normal, e, H)) = arun c f lp C k b e H := rfl
theorem thenA_ret (b : Code) (s : St) : thenA c f lp C k b (some (.ret, s)) = some (.ret, s) := rfl
theorem thenA_exit (b : Code) (i : Nat) (s : St) : thenA c f lp C k b (some (.exit i, s)) = some (.exit i, s) := rfl
theorem blockA_normal (id : Nat) (a : Option Ann) : blockA id a (some (.normal, e, H)) = obind (tailA a e H) fun s => some (.normal, s) := rfl
theorem blockA_ret (id : Nat) (a : Option Ann) (s : St) : blockA id a (some (.ret, s)) = some (.ret, s) := rfl
theorem blockA_exit (id j : Nat) (a : Option Ann) : blockA id a (some (.exit j, e, H)) = if j = id then obind (tailA a e H) fun s => some (.normal, s) else some (.exit j, e, H) := rfl
theorem nextA_some (ops : Array Oper) (r : List Oper) (d : Option Nat) (x : AV) : nextA c C ops r d e (some (x, H)) = aops c C ops r (putA e d x) H := rfl
theorem guardA_true (ops : Array Oper) (r : List Oper) (d : Option Nat) (o : Op) : guardA c C ops r d o e H (some true) = nextA c C ops r d e (aop c C o e.get H) := rfl
theorem guardA_false (ops : Array Oper) (r : List Oper) (d : Option Nat) (o : Op) : guardA c C ops r d o e H (some false) = aops c C ops r (putA e d (.tu [])) H := rfl
def regA (p : Option (List Nat)) (s : Option St) : Option (Ex × St) := obind s fun s => some (.normal, pruneA p s.1, s.2)
theorem regA_some (p : Option (List Nat)) : regA p (some (e, H)) = some (.normal, pruneA p e, H) := rfl
theorem pruneA_none : pruneA none e = e := rfl
theorem pruneA_some (ks : List Nat) : pruneA (some ks) e = e.keep ks := rfl
theorem arun_skip : arun c f lp C k .skip e H = some (.normal, e, H) := rfl
theorem arun_region (id : Nat) (ops : List Oper) (d : Bool) : arun c f lp C k (.region id ops.toArray d) e H = regA (c.pr f id) (aops c C ops.toArray ops e H) := rfl
theorem arun_seq (a b : Code) : arun c f lp C k (.seq a b) e H = thenA c f lp C k b (arun c f lp C k a e H) := rfl
theorem arun_cond (x : Operand) (a b : Code) : arun c f lp C k (.cond x a b) e H = acond (aev e.get x) (arun c f lp C k a e H) (arun c f lp C k b e H) := rfl
theorem arun_block (id : Nat) (a : Code) : arun c f lp C k (.block id a) e H = blockA id (c.ann f id) (arun c f lp C id a e H) := rfl
/-- A round of a loop. -/
def roundA (k : Nat) (a : Code) (s : St) : Option (Ex × St) := obind (arun c f lp C k a s.1 s.2) (endA (c.ann f k))
def loopA (lp : Lp) (F : St → Option (Ex × St)) (x : Option St) : Option (Ex × St) := obind x (lp F)
@[congr] theorem loopA_congr {lp : Lp} {F : St → Option (Ex × St)} {x x' : Option St} (h : x = x') : loopA lp F x = loopA lp F x' := by rw [h]
theorem loopA_some (F : St → Option (Ex × St)) (s : St) : loopA lp F (some s) = lp F s := rfl
theorem arun_loop (a : Code) : arun c f lp C k (.loop a) e H = loopA lp (roundA c f lp C k a) (headA (c.ann f k) (e, H)) := rfl
theorem endA_normal (an : Option Ann) : endA an (.normal, e, H) = obind (headA an (e, H)) fun s => some (.normal, s) := rfl
theorem endA_ret (an : Option Ann) (s : St) : endA an (.ret, s) = some (.ret, s) := rfl
theorem endA_exit (an : Option Ann) (i : Nat) (s : St) : endA an (.exit i, s) = some (.exit i, s) := rfl
theorem arun_exit (id : Nat) : arun c f lp C k (.exit id) e H = some (.exit id, exitA (c.ann f id) e, H) := rfl
theorem arun_ret : arun c f lp C k .ret e H = some (.ret, exitA (c.ann f 999999) e, H) := rfl
theorem aops_nil (ops : Array Oper) : aops c C ops [] e H = some (e, H) := rfl
theorem aops_cons (ops : Array Oper) (d : Option Nat) (o : Op) (t : TypeId) (p : String) (l : Array Edge) (r : List Oper) :
    aops c C ops (⟨d, o, t, p, l, none⟩ :: r) e H = nextA c C ops r d e (aop c C o e.get H) := rfl
theorem aops_cons_guard (ops : List Oper) (d : Option Nat) (o : Op) (t : TypeId) (p : String) (l : Array Edge) (r : List Oper) (j : Nat) (want : Bool) :
    aops c C ops.toArray (⟨d, o, t, p, l, some (j, want)⟩ :: r) e H = guardA c C ops.toArray r d o e H (wantD want e.get (dstAt ops j)) := by
  rw [dstAt_eq, ← List.getElem?_toArray, ← wantA_eq ops.toArray d o t p l j want e.get]; rfl
theorem putA_some (i : Nat) (x : AV) : putA e (some i) x = e.put i x := rfl
theorem putA_none (x : AV) : putA e none x = e := rfl
theorem get_nil (i : Nat) : Env.get [] i = none := rfl
theorem get_cons (j i : Nat) (x : AV) : Env.get ((j, x) :: e) i = if j = i then some x else Env.get e i := rfl
theorem put_nil (i : Nat) (x : AV) : Env.put [] i x = [(i, x)] := rfl
theorem put_cons (j i : Nat) (x y : AV) : Env.put ((j, x) :: e) i y = if j = i then (i, y) :: e else if i < j then (i, y) :: (j, x) :: e else (j, x) :: Env.put e i y := rfl
theorem aev_tmp (g : G) (t : Nat) : aev g (.tmp t) = g t := rfl
theorem aev_func (g : G) (i : FuncId) : aev g (.func i) = some (.fn i []) := rfl
theorem aev_int (g : G) (k : IntKind) (n : Int) : aev g (.const (.int k n)) = some (.v (.int k n)) := rfl
theorem aev_bool (g : G) (b : Bool) : aev g (.const (.bool b)) = some (.v (.bool b)) := rfl
theorem aev_string (g : G) (b : ByteArray) : aev g (.const (.string b)) = some (.v (.string b)) := rfl
theorem aev_nilslice (g : G) : aev g (.const (.slice none 0 0)) = some (.sl true 0 []) := rfl
theorem aev_nilptr (g : G) : aev g (.const (.pointer none)) = some (.v (.pointer none)) := rfl
section
variable (g : G)
theorem aop_move (x : Operand) : aop c C (.move x) g H = obind (aev g x) fun a => some (a, H) := rfl
theorem aop_assign (x : Operand) : aop c C (.assign x) g H = obind (aev g x) (assignA H) := rfl
theorem aop_pick (t x y : Operand) : aop c C (.pick t x y) g H = obind (aev g t) fun b => obind (aev g x) fun a => obind (aev g y) fun d => obind (pickA b a d) fun r => some (r, H) := rfl
theorem aop_alloc (t : TypeId) : aop c C (.alloc t) g H = obind (zeroT c.P t) fun z => if (flat z).all AV.cellB then some (newVarA (flat z) H) else none := rfl
theorem aop_box (t : TypeId) (x : Operand) : aop c C (.box t x) g H = obind (aev g x) fun a => if (flat a).all AV.cellB then some (newVarA (flat a) H) else none := rfl
theorem aop_build (t : TypeId) (ps : List (Nat × Operand)) : aop c C (.build t ps.toArray) g H = obind (evP g ps) fun qs => obind (abuild c.P t qs) fun r => some (r, H) := rfl
theorem aop_buildSlice (t : TypeId) (n : Nat) (ps : List (Nat × Operand)) : aop c C (.buildSlice t n ps.toArray) g H = obind (evP g ps) fun qs => if ownLit t n ps then buildOwnA c.P t n qs H else obind (abuildSlice c.P t n qs) fun r => some (r, H) := rfl
theorem ownLit_nil (t : TypeId) (n : Nat) : ownLit t n [] = false := rfl
theorem ownLit_tmp (t : TypeId) (n k : Nat) : ownLit t n [(0, .tmp k)] = ownMem ownTab t n k := rfl
theorem ownLit_const (t : TypeId) (n : Nat) (v : Value) : ownLit t n [(0, .const v)] = ownMem ownTab t n 999999 := rfl
theorem ownLit_two (t : TypeId) (n : Nat) (a b : Nat × Operand) (r : List (Nat × Operand)) : ownLit t n (a :: b :: r) = false := by
  obtain ⟨i, x⟩ := a
  cases i <;> cases x <;> rfl
theorem ownMem_nil (t n k : Nat) : ownMem [] t n k = false := rfl
theorem ownMem_cons (a b c t n k : Nat) (r : List (Nat × Nat × Nat)) : ownMem ((a, b, c) :: r) t n k = if a = t then (if b = n then (if c = k then true else ownMem r t n k) else ownMem r t n k) else ownMem r t n k := rfl
theorem aop_load (t : TypeId) (x : Operand) : aop c C (.load t x) g H = obind (aev g x) fun a => obind (loadA c.P t a H) fun r => some (r, H) := rfl
theorem aop_store (t : TypeId) (x y : Operand) : aop c C (.store t x y) g H = obind (aev g x) fun a => obind (aev g y) fun b => if 0 < c.P.cellsOf t then obind (storeA c.P t a b H) fun H' => some (.tu [], H') else none := rfl
theorem aop_nilCheck (x : Operand) : aop c C (.nilCheck x) g H = obind (aev g x) fun a => obind (refA H a) fun a => obind (nilCheckA a) fun r => some (r, H) := rfl
theorem aop_binOp (op : BinOp) (t : TypeId) (x y : Operand) (u : TypeId) : aop c C (.binOp op t x y u) g H = obind (aev g x) fun a => obind (aev g y) fun b => obind (abin c.P op t a b) fun r => some (r, H) := rfl
theorem aop_unOp (op : UnOp) (t : TypeId) (x : Operand) : aop c C (.unOp op t x) g H = obind (aev g x) fun a => obind (aun op a) fun r => some (r, H) := rfl
theorem aop_convert (s d : TypeId) (x : Operand) : aop c C (.convert s d x) g H = obind (aev g x) fun a => obind (aconv c.P s d a) fun r => some (r, H) := rfl
theorem aop_makeSlice (t : TypeId) (l k : Operand) : aop c C (.makeSlice t l k) g H = obind (aev g l) fun a => obind (aev g k) fun b => makeSliceA c.P t a b H := rfl
theorem aop_fieldAddr (t : TypeId) (x : Operand) (f : Nat) : aop c C (.fieldAddr t x f) g H = obind (aev g x) fun a => obind (refA H a) fun a => obind (fieldAddrA c.P t a f) fun r => some (r, H) := rfl
theorem aop_field (t : TypeId) (x : Operand) (f : Nat) : aop c C (.field t x f) g H = obind (aev g x) fun a => obind (fieldA c.P t a f) fun r => some (r, H) := rfl
theorem aop_indexAddr (t : TypeId) (x i : Operand) : aop c C (.indexAddr t x i) g H = obind (aev g x) fun a => obind (refA H a) fun a => obind (aev g i) fun b => obind (indexAddrA c.P t a b) fun r => some (r, H) := rfl
theorem aop_index (t : TypeId) (x i : Operand) : aop c C (.index t x i) g H = obind (aev g x) fun a => obind (aev g i) fun b => obind (indexA c.P t a b) fun r => some (r, H) := rfl
theorem aop_lookup (t : TypeId) (m k : Operand) (ok : Bool) : aop c C (.lookup t m k ok) g H = obind (aev g m) fun a => obind (aev g k) fun b => obind (lookupA c.P t a b ok H) fun r => some (r, H) := rfl
theorem aop_mapUpdate (t : TypeId) (m k x : Operand) : aop c C (.mapUpdate t m k x) g H = obind (aev g m) fun a => obind (aev g k) fun b => obind (aev g x) fun y => obind (mapUpdateA c.P t a b y H) fun H' => some (.tu [], H') := rfl
theorem aop_insert (t : TypeId) (m k x : Operand) : aop c C (.insert t m k x) g H = obind (aev g m) fun a => obind (aev g k) fun b => obind (aev g x) fun y => obind (mapUpdateA c.P t a b y H) fun H' => some (.tu [], H') := rfl
theorem aop_extract (x : Operand) (i : Nat) : aop c C (.extract x i) g H = obind (aev g x) fun a => obind (extractA a i) fun r => some (r, H) := rfl
theorem aop_callB (b : Builtin) (l : List Operand) (ats : Array TypeId) : aop c C (.call ⟨.builtin b, l.toArray, ats⟩) g H = obind (aevs g l) fun xs => builtinA c b ats xs H := rfl
theorem aop_callF (f : FuncId) (l : List Operand) (ats : Array TypeId) : aop c C (.call ⟨.value (.func f), l.toArray, ats⟩) g H = obind (aevs g l) fun xs => callA c C f (xs ++ []) H := rfl
theorem aop_callT (t : Tmp) (l : List Operand) (ats : Array TypeId) : aop c C (.call ⟨.value (.tmp t), l.toArray, ats⟩) g H = obind (aevs g l) fun xs => obind (g t) fun x => match x with | .fn f caps => callA c C f (xs ++ caps) H | _ => none := rfl
theorem aop_makeFunc (f : FuncId) (cs : List Operand) : aop c C (.makeFunc (.func f) (List.toArray []) cs.toArray) g H = obind (aevs g cs) fun xs => some (.fn f xs, H) := rfl
theorem aop_makeMap (t : TypeId) : aop c C (.makeMap t none) g H = mapNewA (c.P.underlying t) H := by
  simp only [aop, mapNewA]
  cases c.P.underlying t with
  | none => rfl
  | some d => cases d <;> rfl
theorem blt_len (t : TypeId) (ts : List TypeId) (x : AV) : builtinA c .len (t :: ts).toArray [x] H = obind (refA H x) fun x => obind (lenA c.P t x H) fun r => some (r, H) := rfl
theorem blt_append (t u : TypeId) (ts : List TypeId) (x y : AV) : builtinA c .append (t :: u :: ts).toArray [x, y] H = if noInt c.P u then appendA c.P t x y H else none := rfl
theorem blt_copy (t : TypeId) (ts : List TypeId) (x y : AV) : builtinA c .copy (t :: ts).toArray [x, y] H = copyA c.P t x y H := rfl
theorem blt_max (ats : Array TypeId) (x y : AV) : builtinA c .max ats [x, y] H = obind (max2A x y) fun r => some (r, H) := by
  simp only [builtinA]
theorem blt_min (ats : Array TypeId) (x y : AV) : builtinA c .min ats [x, y] H = obind (min2A x y) fun r => some (r, H) := by
  simp only [builtinA]
theorem aop_slice (t : TypeId) (x : Operand) (l h : Option Operand) : aop c C (.slice t x l h none) g H = obind (aev g x) fun a => obind (aevO g l) fun lo => obind (aevO g h) fun hi => obind (refA H a) fun a => obind (sliceArrA c.P t a lo hi H) fun r => some (r, H) := rfl
end
end
end Go.AI

/- The abstract interpreter: laws for values that are known only by name. No conditions. -/
set_option linter.unusedVariables false
namespace Go.AI
/-- Whole numbers, bools, strings, rows of them as abstract values. -/
abbrev I (n : Int) : AV := .v (.int .i64 n)
abbrev B (b : Bool) : AV := .v (.bool b)
abbrev Ss (s : ByteArray) : AV := .v (.string s)
def Is (l : List Int) : AV := .sl false l.length (l.map I)
def Bs (l : List Bool) : List AV := l.map B
def Iss (l : List (List Int)) : AV := .sl false l.length (l.map Is)
def Ni : AV := .sl true 0 []
theorem I_eq (n : Int) : AV.v (.int .i64 n) = I n := rfl
theorem B_eq (b : Bool) : AV.v (.bool b) = B b := rfl
theorem dtrue {p : Prop} [Decidable p] (h : p) : decide p = true := decide_eq_true h
theorem dfalse {p : Prop} [Decidable p] (h : ¬ p) : decide p = false := decide_eq_false h
theorem wrap64 {n : Int} (h : -9223372036854775808 ≤ n) (h' : n < 9223372036854775808) : IntKind.i64.wrap n = n := by
  show (if (true && decide (n % 18446744073709551616 ≥ 9223372036854775808)) = true then n % 18446744073709551616 - 18446744073709551616 else n % 18446744073709551616) = n
  simp only [Bool.true_and, decide_eq_true_eq]
  split <;> omega
section
variable (P : Program) (t : TypeId)
theorem abin_add (k : IntKind) (a b : Int) : abin P .add t (.v (.int k a)) (.v (.int k b)) = some (.v (.int k (k.wrap (a + b)))) := by simp [abin, aint, obind]
theorem abin_sub (k : IntKind) (a b : Int) : abin P .sub t (.v (.int k a)) (.v (.int k b)) = some (.v (.int k (k.wrap (a - b)))) := by simp [abin, aint, obind]
theorem abin_mul (k : IntKind) (a b : Int) : abin P .mul t (.v (.int k a)) (.v (.int k b)) = some (.v (.int k (k.wrap (a * b)))) := by simp [abin, aint, obind]
theorem abin_quo (k : IntKind) {a b : Int} (h : b ≠ 0) : abin P .quo t (.v (.int k a)) (.v (.int k b)) = some (.v (.int k (k.wrap (a.tdiv b)))) := by simp [abin, aint, obind, h]
theorem abin_rem (k : IntKind) {a b : Int} (h : b ≠ 0) : abin P .rem t (.v (.int k a)) (.v (.int k b)) = some (.v (.int k (a.tmod b))) := by simp [abin, aint, obind, h]
theorem abin_lss (k : IntKind) (a b : Int) : abin P .lss t (.v (.int k a)) (.v (.int k b)) = some (.v (.bool (decide (a < b)))) := by simp [abin, aint, acmp, obind]
theorem abin_leq (k : IntKind) (a b : Int) : abin P .leq t (.v (.int k a)) (.v (.int k b)) = some (.v (.bool (decide (a ≤ b)))) := by simp [abin, aint, acmp, obind]
theorem abin_gtr (k : IntKind) (a b : Int) : abin P .gtr t (.v (.int k a)) (.v (.int k b)) = some (.v (.bool (decide (b < a)))) := by simp [abin, aint, acmp, obind]
theorem abin_geq (k : IntKind) (a b : Int) : abin P .geq t (.v (.int k a)) (.v (.int k b)) = some (.v (.bool (decide (b ≤ a)))) := by simp [abin, aint, acmp, obind]
theorem abin_eql (k : IntKind) (a b : Int) : abin P .eql t (.v (.int k a)) (.v (.int k b)) = some (.v (.bool (decide (a = b)))) := by
  by_cases h : a = b <;> simp [abin, aint, acmp, obind, h]
theorem abin_neq (k : IntKind) (a b : Int) : abin P .neq t (.v (.int k a)) (.v (.int k b)) = some (.v (.bool (decide (a ≠ b)))) := by
  by_cases h : a = b <;> simp [abin, aint, acmp, obind, h]
theorem aun_not (b : Bool) : aun .not (.v (.bool b)) = some (.v (.bool !b)) := rfl
theorem wantB_t (b : Bool) : wantB true (some (.v (.bool b))) = some b := by cases b <;> rfl
theorem wantB_f (b : Bool) : wantB false (some (.v (.bool b))) = some (!b) := by cases b <;> rfl
theorem wantB_u (w : Bool) : wantB w (some (.tu [])) = some false := rfl
theorem wantD_some (w : Bool) (g : G) (d : Nat) : wantD w g (some d) = wantB w (g d) := rfl
theorem pick_true (a b : AV) : pickA (.v (.bool true)) a b = some a := rfl
theorem pick_false (a b : AV) : pickA (.v (.bool false)) a b = some b := rfl
end
def memN : List Nat → Nat → Bool
  | [], _ => false
  | a :: r, i => if a = i then true else memN r i
theorem memN_eq (l : List Nat) (i : Nat) : l.contains i = memN l i := by
  induction l with
  | nil => rfl
  | cons a r ih =>
    simp only [List.contains_cons, memN, ih]
    by_cases h : i = a
    · subst h; simp
    · rw [if_neg (fun e => h e.symm)]; simp [h]
theorem memN_nil (i : Nat) : memN [] i = false := rfl
theorem memN_cons (a : Nat) (r : List Nat) (i : Nat) : memN (a :: r) i = if a = i then true else memN r i := rfl
theorem keep_nil (ks : List Nat) : Env.keep ks [] = [] := rfl
theorem keep_cons (ks : List Nat) (j : Nat) (x : AV) (r : Env) : Env.keep ks ((j, x) :: r) = if memN ks j then (j, x) :: Env.keep ks r else Env.keep ks r := by
  rw [← memN_eq]; rfl
theorem tailA_none (e : Env) (H : Heap) : tailA none e H = some (e, H) := rfl
theorem tailA_some (i o cl : List Nat) (tr : Option Nat) (z : List Nat) (e : Env) (H : Heap) : tailA (some (i, o, cl, tr, z)) e H = closeSlots z (e.keep o, H) := rfl
theorem exitA_none (e : Env) : exitA none e = e := rfl
theorem exitA_some (i o : List Nat) (r : List Nat × Option Nat × List Nat) (e : Env) : exitA (some (i, o, r)) e = e.keep o := rfl
theorem closeSlots_nil (s : St) : closeSlots [] s = some s := rfl
theorem headA_none (s : St) : headA none s = some s := rfl
theorem headA_plain (i o z : List Nat) (s : St) : headA (some (i, o, [], none, z)) s = some (s.1.keep i, s.2) := rfl
theorem evP_nil (g : G) : evP g [] = some [] := rfl
theorem evP_cons (g : G) (i : Nat) (o : Operand) (r : List (Nat × Operand)) : evP g ((i, o) :: r) = obind (aev g o) fun x => obind (evP g r) fun xs => some ((i, x) :: xs) := rfl
theorem aevs_nil (g : G) : aevs g [] = some [] := rfl
theorem aevs_cons (g : G) (o : Operand) (r : List Operand) : aevs g (o :: r) = obind (aev g o) fun x => obind (aevs g r) fun xs => some (x :: xs) := rfl
theorem aevO_none (g : G) : aevO g none = some none := rfl
theorem aevO_some (g : G) (o : Operand) : aevO g (some o) = obind (aev g o) fun x => some (some x) := rfl
section
variable (H : Heap)
theorem goodL_nil : goodL [] = true := rfl
theorem goodL_cons (x : AV) (r : List AV) : goodL (x :: r) = (x.good && goodL r) := rfl
theorem good_v (x : Value) : (AV.v x).good = true := rfl
theorem good_sl (f : Bool) (n : Nat) (cs : List AV) : (AV.sl f n cs).good = !f := rfl
theorem good_pt (cs : List AV) (o : Nat) : (AV.pt cs o).good = true := rfl
theorem good_ag (cs : List AV) : (AV.ag cs).good = goodL cs := rfl
theorem good_tu (cs : List AV) : (AV.tu cs).good = goodL cs := rfl
theorem good_ms (b v o n s : Nat) : (AV.ms b v o n s).good = false := rfl
theorem good_mp (b v o : Nat) : (AV.mp b v o).good = false := rfl
theorem goodL_I (l : List Int) : goodL (l.map I) = true := by
  induction l with
  | nil => rfl
  | cons a r ih => simp only [List.map_cons, goodL, ih]; rfl
theorem goodL_B (l : List Bool) : goodL (l.map B) = true := by
  induction l with
  | nil => rfl
  | cons a r ih => simp only [List.map_cons, goodL, ih]; rfl
theorem goodL_Is (l : List (List Int)) : goodL (l.map Is) = true := by
  induction l with
  | nil => rfl
  | cons a r ih => simp only [List.map_cons, goodL, ih]; rfl
theorem closeA_id (k : Nat) {x : AV} (h : x.good = true) : closeA (k + 1) H x = some (x, []) := by
  unfold closeA
  rw [if_pos h]
theorem mapC_all (k : Nat) : ∀ (l : List AV), goodL l = true → mapC (closeA (k + 1) H) l = some (l, [])
  | [], h => rfl
  | x :: r, h => by
    simp only [goodL, Bool.and_eq_true] at h
    unfold mapC
    rw [closeA_id H k h.1, obind_some, mapC_all k r h.2]
    rfl
theorem closeA_v (x : Value) : closeA depthA H (.v x) = some (.v x, []) := rfl
theorem closeA_sl (f : Bool) (n : Nat) (cs : List AV) : closeA depthA H (.sl f n cs) = some (.sl false n cs, []) := by cases f <;> rfl
theorem closeA_pt (cs : List AV) (o : Nat) : closeA depthA H (.pt cs o) = some (.pt cs o, []) := rfl
theorem closeA_ag (cs : List AV) : closeA depthA H (.ag cs) = if goodL cs then some (.ag cs, []) else obind (mapC (closeA 39 H) cs) fun q => some (.ag q.1, q.2) := rfl
theorem closeA_tu (cs : List AV) : closeA depthA H (.tu cs) = if goodL cs then some (.tu cs, []) else obind (mapC (closeA 39 H) cs) fun q => some (.tu q.1, q.2) := rfl
/-- A row of cells, closed. -/
def rowA (k : Nat) (H : Heap) (cs : List AV) : Option (List AV × List Nat) := if goodL cs then some (cs, []) else mapC (closeA k H) cs
theorem rowA_eq (k : Nat) (cs : List AV) : mapC (closeA (k + 1) H) cs = rowA (k + 1) H cs := by
  unfold rowA
  split
  · rename_i h; exact mapC_all H k cs h
  · rfl
def closeRow (k : Nat) (H : Heap) (x : Option AB) (b ver off n sz : Nat) : Option (AV × List Nat) :=
  match x with
  | some (.cells _ ver' cs) => if ver' = ver then if off + n * sz ≤ cs.length then obind (rowA k H ((cs.drop off).take (n * sz))) fun q => some (.sl false n q.1, b :: q.2) else none else none
  | _ => none
theorem closeA_ms_gen (k b ver off n sz : Nat) : closeA (k + 2) H (.ms b ver off n sz) = closeRow (k + 1) H H[b]? b ver off n sz := by
  rw [closeA]
  simp only [AV.good, Bool.false_eq_true, if_false, closeRow]
  cases H[b]? with
  | none => rfl
  | some x =>
    cases x with
    | cells l v cs => simp only [rowA_eq H k]
    | map es => rfl
theorem closeA_ms (b ver off n sz : Nat) : closeA depthA H (.ms b ver off n sz) = closeRow 39 H H[b]? b ver off n sz := closeA_ms_gen H 38 b ver off n sz
theorem closeRow_cells (k : Nat) (l : Bool) (v : Nat) (cs : List AV) (b ver off n sz : Nat) : closeRow k H (some (.cells l v cs)) b ver off n sz =
    if v = ver then if off + n * sz ≤ cs.length then obind (rowA k H ((cs.drop off).take (n * sz))) fun q => some (.sl false n q.1, b :: q.2) else none else none := rfl
theorem closeA39_v (x : Value) : closeA 39 H (.v x) = some (.v x, []) := rfl
theorem closeA39_sl (f : Bool) (n : Nat) (cs : List AV) : closeA 39 H (.sl f n cs) = some (.sl false n cs, []) := by cases f <;> rfl
theorem closeA39_ms (b ver off n sz : Nat) : closeA 39 H (.ms b ver off n sz) = closeRow 38 H H[b]? b ver off n sz := closeA_ms_gen H 37 b ver off n sz
theorem mapC_nil' (f : AV → Option (AV × List Nat)) : mapC f [] = some ([], []) := rfl
theorem mapC_cons' (f : AV → Option (AV × List Nat)) (x : AV) (r : List AV) : mapC f (x :: r) = obind (f x) fun y => obind (mapC f r) fun q => some (y.1 :: q.1, y.2 ++ q.2) := rfl
theorem cellB_v (x : Value) : (AV.v x).cellB = true := rfl
theorem cellB_sl (f : Bool) (n : Nat) (cs : List AV) : (AV.sl f n cs).cellB = true := rfl
theorem cellB_ms (b v o n s : Nat) : (AV.ms b v o n s).cellB = true := rfl
theorem cellB_mp (b v o : Nat) : (AV.mp b v o).cellB = true := rfl
theorem cellB_pt (cs : List AV) (o : Nat) : (AV.pt cs o).cellB = true := rfl
theorem cellB_mm (b : Nat) : (AV.mm b).cellB = true := rfl
theorem cellB_fn (f : FuncId) (cs : List AV) : (AV.fn f cs).cellB = true := rfl
end
theorem repl_one (n : Nat) (x : AV) : repl n [x] = List.replicate n x := by
  induction n with
  | zero => rfl
  | succ n ih => simp only [repl, ih]; rfl
theorem repl_N (n : Nat) : repl n [.sl true 0 []] = List.replicate n (.sl true 0 []) := repl_one n _
theorem repl_I (n : Nat) (x : Int) : repl n [.v (.int .i64 x)] = (List.replicate n x).map I := by rw [repl_one, List.map_replicate]
theorem repl_B (n : Nat) (b : Bool) : repl n [.v (.bool b)] = (List.replicate n b).map B := by rw [repl_one, List.map_replicate]
theorem ms_take {α : Type} {f : α → AV} {n : Nat} {l : List α} (h : l.length ≤ n) : (l.map f).take n = l.map f := List.take_of_length_le (by simpa using h)
/-- A row that is filled from the left. -/
def upto {α : Type} (g : Nat → α) (z : α) (n i : Nat) : List α := (List.range n).map fun j => if j < i then g j else z
theorem upto_zero {α : Type} (g : Nat → α) (z : α) (n : Nat) : upto g z n 0 = List.replicate n z := by
  apply List.ext_getElem?
  intro j
  simp only [upto, List.getElem?_map, List.getElem?_replicate, Nat.not_lt_zero, if_false]
  by_cases h : j < n
  · simp [h]
  · simp [h]
theorem upto_set {α : Type} (g : Nat → α) (z : α) {n i : Nat} (hi : i < n) : (upto g z n i).set i (g i) = upto g z n (i + 1) := by
  apply List.ext_getElem?
  intro j
  by_cases hj : j = i
  · subst hj
    rw [List.getElem?_set_self (by simpa [upto] using hi)]
    simp [upto, hi]
  · rw [List.getElem?_set_ne (Ne.symm hj)]
    simp only [upto, List.getElem?_map]
    by_cases h : j < n
    · have e : (j < i) = (j < i + 1) := by apply propext; constructor <;> intro h <;> omega
      simp [h, e]
    · simp [h]
theorem upto_all {α : Type} (g : Nat → α) (z : α) (n : Nat) : upto g z n n = (List.range n).map g := by
  apply List.map_congr_left
  intro j hj
  rw [if_pos (by simpa using hj)]
theorem upto_length {α : Type} (g : Nat → α) (z : α) (n i : Nat) : (upto g z n i).length = n := by simp [upto]
/-- A counting loop. -/
theorem iter_run {F : St → Option (Ex × St)} {S : Nat → St} {n : Nat} {r : Ex × St} (hs : ∀ i, i < n → F (S i) = some (.normal, S (i + 1))) (hl : F (S n) = some r) (hr : r.1 ≠ .normal) : ∀ k i, i + k = n → iter F (S i) = some r
  | 0, i, h => by
    have : i = n := by omega
    subst this
    exact iter_last hl hr
  | k + 1, i, h => iter_normal (hs i (by omega)) (iter_run hs hl hr k (i + 1) (by omega))
/-- A loop that looks at each place in turn, and leaves at the first that fails. -/
theorem iter_all {F : St → Option (Ex × St)} {S : Nat → St} {n : Nat} {q : Nat → Bool} {rt rf : Ex × St} (hs : ∀ i, i < n → q i = true → F (S i) = some (.normal, S (i + 1))) (hf : ∀ i, i < n → q i = false → F (S i) = some rf) (hl : F (S n) = some rt)
    (ht : rt.1 ≠ .normal) (hf' : rf.1 ≠ .normal) : ∀ k i, i + k = n → iter F (S i) = some (if (List.range' i k).all q then rt else rf)
  | 0, i, h => by
    have : i = n := by omega
    subst this
    exact iter_last hl ht
  | k + 1, i, h => by
    simp only [List.range'_succ, List.all_cons]
    cases hq : q i with
    | true =>
      simp only [Bool.true_and]
      exact iter_normal (hs i (by omega) hq) (iter_all hs hf hl ht hf' k (i + 1) (by omega))
    | false =>
      simp only [Bool.false_and, Bool.false_eq_true, if_false]
      exact iter_last (hf i (by omega) hq) hf'
theorem all_eq {α : Type} [DecidableEq α] {A C : List α} (d : α) (h : A.length = C.length) : ((List.range' 0 A.length).all fun i => decide (A.getD i d = C.getD i d)) = decide (A = C) := by
  rw [← List.range_eq_range']
  apply Bool.eq_iff_iff.2
  simp only [List.all_eq_true, List.mem_range, decide_eq_true_eq]
  constructor
  · intro hh
    apply List.ext_getElem h
    intro i h1 h2
    have := hh i h1
    simpa [h1, h2] using this
  · intro e i _
    rw [e]
theorem mapC_mapI (H : Heap) (l : List Int) : mapC (closeA depthA H) (l.map I) = some (l.map I, []) := mapC_all H 39 _ (goodL_I l)
theorem set_mapI (l : List Int) (k : Nat) (x : Int) : (l.map I).set k (.v (.int .i64 x)) = (l.set k x).map I := (List.map_set ..).symm
theorem set_mapB (l : List Bool) (k : Nat) (x : Bool) : (l.map B).set k (.v (.bool x)) = (l.set k x).map B := (List.map_set ..).symm
theorem app_oneIs (l : List (List Int)) (c : List Int) : l.map Is ++ [.sl false c.length (c.map I)] = (l ++ [c]).map Is := by rw [List.map_append]; rfl
theorem cons_mapIs (c : List Int) (l : List (List Int)) : .sl false c.length (c.map I) :: l.map Is = (c :: l).map Is := rfl
theorem take_mapI (k : Nat) (l : List Int) : (l.map I).take k = (l.take k).map I := (List.map_take ..).symm
theorem drop_mapI (k : Nat) (l : List Int) : (l.map I).drop k = (l.drop k).map I := (List.map_drop ..).symm
theorem app_mapI (l m : List Int) : l.map I ++ m.map I = (l ++ m).map I := (List.map_append ..).symm
theorem cons_mapI (x : Int) (l : List Int) : .v (.int .i64 x) :: l.map I = (x :: l).map I := rfl
theorem app_oneI (l : List Int) (x : Int) : l.map I ++ [.v (.int .i64 x)] = (l ++ [x]).map I := by rw [List.map_append]; rfl
theorem closeSlots_cons (t : Nat) (r : List Nat) (e : Env) (H : Heap) : closeSlots (t :: r) (e, H) = obind (e.get t) fun x => obind (closeA depthA H x) fun q => closeSlots r (e.put t q.1, markA H q.2) := rfl
theorem headA_close (i o cl z : List Nat) (e : Env) (H : Heap) : headA (some (i, o, cl, none, z)) (e, H) = obind (closeSlots cl (e.keep i, H)) fun s => some s := rfl
theorem headA_cut (i o cl z : List Nat) (m : Nat) (e : Env) (H : Heap) : headA (some (i, o, cl, some m, z)) (e, H) = obind (closeSlots cl (e.keep i, H)) fun s => truncA m s := rfl
theorem truncA_eq (m : Nat) (e : Env) (H : Heap) : truncA m (e, H) = if (e.all fun p => p.2.under m) && (H.take m).all (AB.under m) then some (e, H.take m) else none := rfl
theorem under_v (m : Nat) (x : Value) : (AV.v x).under m = true := rfl
theorem under_sl (m : Nat) (f : Bool) (n : Nat) (cs : List AV) : (AV.sl f n cs).under m = true := rfl
theorem under_pt (m : Nat) (cs : List AV) (o : Nat) : (AV.pt cs o).under m = true := rfl
theorem under_ms (m b v o n s : Nat) : (AV.ms b v o n s).under m = decide (b < m) := rfl
theorem under_mp (m b v o : Nat) : (AV.mp b v o).under m = decide (b < m) := rfl
theorem under_mm (m b : Nat) : (AV.mm b).under m = decide (b < m) := rfl
theorem under_cells (m : Nat) (l : Bool) (v : Nat) (cs : List AV) : (AB.cells l v cs).under m = underL m cs := rfl
theorem underL_nil (m : Nat) : underL m [] = true := rfl
theorem underL_cons (m : Nat) (x : AV) (r : List AV) : underL m (x :: r) = (x.under m && underL m r) := rfl
theorem underL_I (m : Nat) (l : List Int) : underL m (l.map I) = true := by
  induction l with
  | nil => rfl
  | cons a r ih => simp only [List.map_cons, underL, ih]; rfl
theorem underL_B (m : Nat) (l : List Bool) : underL m (l.map B) = true := by
  induction l with
  | nil => rfl
  | cons a r ih => simp only [List.map_cons, underL, ih]; rfl
theorem underL_Is (m : Nat) (l : List (List Int)) : underL m (l.map Is) = true := by
  induction l with
  | nil => rfl
  | cons a r ih => simp only [List.map_cons, underL, ih]; rfl
theorem underL_app (m : Nat) (a b : List AV) : underL m (a ++ b) = (underL m a && underL m b) := by
  induction a with
  | nil => simp [underL]
  | cons x r ih => simp only [List.cons_append, underL, ih, Bool.and_assoc]
theorem take_map_cons {α : Type} (f : α → AV) (y : α) (l : List α) : List.take (l.length + 1) (List.map f (y :: l)) = List.map f (y :: l) := List.take_of_length_le (by simp)
theorem markA_nil (H : Heap) : markA H [] = H := rfl
def freezeAt (H : Heap) (b : Nat) (x : Option AB) : Heap := match x with | some x => H.set b x.freeze | none => H
theorem markA_cons (H : Heap) (b : Nat) (r : List Nat) : markA H (b :: r) = markA (freezeAt H b H[b]?) r := rfl
theorem freezeAt_cells (H : Heap) (b : Nat) (l : Bool) (v : Nat) (cs : List AV) : freezeAt H b (some (.cells l v cs)) = H.set b (.cells false v cs) := rfl
/-- The body of the loop in a block. -/
def loopIn (k : Nat) : Nat → Code → Option Code
  | cur, .loop a => if cur = k then some a else loopIn k cur a
  | _, .block id a => loopIn k id a
  | cur, .seq a b => match loopIn k cur a with | some x => some x | none => loopIn k cur b
  | cur, .cond _ a b => match loopIn k cur a with | some x => some x | none => loopIn k cur b
  | _, _ => none
def loopOf (k : Nat) (fn : Func) : Option Code := fn.body.bind (loopIn k 999998)
/- The rewriting laws, gathered. -/
attribute [push_cast]
  acond_true acond_false thenA_normal thenA_ret thenA_exit blockA_normal blockA_ret blockA_exit nextA_some guardA_true guardA_false regA_some pruneA_none pruneA_some loopA_some endA_normal
  endA_ret endA_exit get_nil get_cons put_nil put_cons aev_tmp aev_func aev_int aev_bool aev_string aev_nilslice aev_nilptr blt_len blt_append blt_copy blt_max blt_min obind_some roundA
  callA closeL mapC_nil' mapC_cons' closeA_v closeA_sl closeA_pt closeA_ag closeA_tu closeA_ms closeRow_cells closeA39_v closeA39_sl closeA39_ms rowA goodL_nil goodL_cons good_v good_sl
  good_pt good_ag good_tu good_ms good_mp goodL_I goodL_B goodL_Is Bool.and_true Bool.true_and Bool.and_self List.append_nil List.drop_zero Env.ofList keep_nil keep_cons memN_nil memN_cons
  tailA_none tailA_some exitA_none exitA_some pruneA_none pruneA_some closeSlots_nil headA_none headA_plain abin_add abin_sub abin_mul abin_lss abin_leq abin_gtr abin_geq abin_eql abin_neq
  aun_not wantB_t wantB_f wantB_u wantD_some pick_true pick_false lenA refA assignA indexAddrA indexA fieldA fieldAddrA loadA storeA storeCellsA cellsAt partA slc splice nilCheckA extractA
  flat makeSliceA appendA sourceA newVarA virt resA tupA Option.bind_some Bool.not_true Bool.not_false Bool.false_eq_true List.all_cons List.all_nil cellB_v cellB_sl cellB_ms cellB_mp
  cellB_pt cellB_mm cellB_fn set_mapI set_mapB List.getElem?_cons_zero List.getElem?_cons_succ List.length_cons List.length_nil List.set_cons_zero List.set_cons_succ dtrue dfalse wrap64
  take_mapI drop_mapI app_mapI app_oneI closeSlots_cons headA_close headA_cut truncA_eq under_v under_sl under_pt under_ms under_mp under_mm under_cells underL_nil underL_cons underL_I
  underL_B underL_Is markA_nil markA_cons freezeAt_cells List.take_succ_cons List.take_zero Int.toNat_zero Nat.sub_zero List.length_take true_or or_true List.length_append List.length_drop
  ownLit_nil ownLit_tmp ownLit_const ownLit_two ownMem_nil ownMem_cons ownTab Nat.sub_self abuildSlice buildOwnA fillA List.replicate_zero List.replicate_succ Nat.zero_mul Nat.mul_zero Nat.zero_le boundA sliceA sliceArrA repl_N repl_I repl_B ms_take List.length_replicate
  List.nil_append List.cons_append cons_mapI mapC_mapI List.map_nil Is Bs Ni List.getElem?_map Option.map_some Nat.mul_one Int.toNat_natCast Nat.zero_add Nat.add_zero List.length_map
  and_true true_and List.length_set decide_true decide_false underL_app
end Go.AI

/- cmp.Compare, slices.Compare, Less, place. -/
set_option linter.unusedVariables false
set_option linter.unusedSimpArgs false
set_option linter.unusedSectionVars false
namespace Go.Proofs
open Go.AI
set_option maxRecDepth 20000
theorem call62 (x : Int) : call Try.cfg 62 [.v (.int .i64 x)] [] = some (.v (.bool false), []) := by
  refine call_step ?_
  simp -implicitDefEqProofs (disch := omega) only [stepA, bodyA, Try.cfgO, Try.sh62, Try.func62, Try.f62, push_cast, ↓dstAt_zero, ↓dstAt_succ, ↓arun_skip, ↓arun_region, ↓arun_seq, ↓arun_cond, ↓arun_block, ↓arun_loop, ↓arun_exit, ↓arun_ret, aops_nil, aops_cons, aops_cons_guard, ↓putA_some, ↓putA_none, ↓aop_move, ↓aop_assign, ↓aop_pick, ↓aop_alloc, ↓aop_box, ↓aop_build, ↓aop_buildSlice, ↓aop_load, ↓aop_store, ↓aop_nilCheck, ↓aop_binOp, ↓aop_unOp, ↓aop_convert, ↓aop_makeSlice, ↓aop_fieldAddr, ↓aop_field, ↓aop_indexAddr, ↓aop_index, ↓aop_lookup, ↓aop_mapUpdate, ↓aop_insert, ↓aop_extract, ↓aop_callB, ↓aop_callF, ↓aop_callT, ↓aop_makeFunc, ↓aop_makeMap, ↓aop_slice, ↓aevs_nil, ↓aevs_cons, ↓evP_nil, ↓evP_cons, ↓aevO_none, ↓aevO_some, ↓reduceIte, reduceCtorEq, Nat.reduceEqDiff, Nat.reduceAdd, Nat.reduceLT, Nat.reduceSub, Nat.reduceMul, Nat.reduceLeDiff, if_true, if_false, if_pos, if_neg, ne_eq, not_true_eq_false]
def cmpI (x y : Int) : Int := if x < y then -1 else if y < x then 1 else 0
theorem call49 (x y : Int) : call Try.cfg 49 [.v (.int .i64 x), .v (.int .i64 y)] [] = some (.v (.int .i64 (cmpI x y)), []) := by
  refine call_step ?_
  have h1 := call62 x
  have h2 := call62 y
  unfold cmpI
  rcases Int.lt_trichotomy x y with h | h | h
  · simp -implicitDefEqProofs (disch := omega) only [stepA, bodyA, Try.cfgO, Try.sh49, Try.sh62, Try.func49, Try.f49, push_cast, ↓dstAt_zero, ↓dstAt_succ, ↓arun_skip, ↓arun_region, ↓arun_seq, ↓arun_cond, ↓arun_block, ↓arun_loop, ↓arun_exit, ↓arun_ret, aops_nil, aops_cons, aops_cons_guard, ↓putA_some, ↓putA_none, ↓aop_move, ↓aop_assign, ↓aop_pick, ↓aop_alloc, ↓aop_box, ↓aop_build, ↓aop_buildSlice, ↓aop_load, ↓aop_store, ↓aop_nilCheck, ↓aop_binOp, ↓aop_unOp, ↓aop_convert, ↓aop_makeSlice, ↓aop_fieldAddr, ↓aop_field, ↓aop_indexAddr, ↓aop_index, ↓aop_lookup, ↓aop_mapUpdate, ↓aop_insert, ↓aop_extract, ↓aop_callB, ↓aop_callF, ↓aop_callT, ↓aop_makeFunc, ↓aop_makeMap, ↓aop_slice, ↓aevs_nil, ↓aevs_cons, ↓evP_nil, ↓evP_cons, ↓aevO_none, ↓aevO_some, ↓reduceIte, reduceCtorEq, Nat.reduceEqDiff, Nat.reduceAdd, Nat.reduceLT, Nat.reduceSub, Nat.reduceMul, Nat.reduceLeDiff, if_true, if_false, if_pos, if_neg, h1, h2]
  · subst h
    simp -implicitDefEqProofs (disch := omega) only [stepA, bodyA, Try.cfgO, Try.sh49, Try.sh62, Try.func49, Try.f49, push_cast, ↓dstAt_zero, ↓dstAt_succ, ↓arun_skip, ↓arun_region, ↓arun_seq, ↓arun_cond, ↓arun_block, ↓arun_loop, ↓arun_exit, ↓arun_ret, aops_nil, aops_cons, aops_cons_guard, ↓putA_some, ↓putA_none, ↓aop_move, ↓aop_assign, ↓aop_pick, ↓aop_alloc, ↓aop_box, ↓aop_build, ↓aop_buildSlice, ↓aop_load, ↓aop_store, ↓aop_nilCheck, ↓aop_binOp, ↓aop_unOp, ↓aop_convert, ↓aop_makeSlice, ↓aop_fieldAddr, ↓aop_field, ↓aop_indexAddr, ↓aop_index, ↓aop_lookup, ↓aop_mapUpdate, ↓aop_insert, ↓aop_extract, ↓aop_callB, ↓aop_callF, ↓aop_callT, ↓aop_makeFunc, ↓aop_makeMap, ↓aop_slice, ↓aevs_nil, ↓aevs_cons, ↓evP_nil, ↓evP_cons, ↓aevO_none, ↓aevO_some, ↓reduceIte, reduceCtorEq, Nat.reduceEqDiff, Nat.reduceAdd, Nat.reduceLT, Nat.reduceSub, Nat.reduceMul, Nat.reduceLeDiff, if_true, if_false, if_pos, if_neg, h1, h2, Int.lt_irrefl]
  · simp -implicitDefEqProofs (disch := omega) only [stepA, bodyA, Try.cfgO, Try.sh49, Try.sh62, Try.func49, Try.f49, push_cast, ↓dstAt_zero, ↓dstAt_succ, ↓arun_skip, ↓arun_region, ↓arun_seq, ↓arun_cond, ↓arun_block, ↓arun_loop, ↓arun_exit, ↓arun_ret, aops_nil, aops_cons, aops_cons_guard, ↓putA_some, ↓putA_none, ↓aop_move, ↓aop_assign, ↓aop_pick, ↓aop_alloc, ↓aop_box, ↓aop_build, ↓aop_buildSlice, ↓aop_load, ↓aop_store, ↓aop_nilCheck, ↓aop_binOp, ↓aop_unOp, ↓aop_convert, ↓aop_makeSlice, ↓aop_fieldAddr, ↓aop_field, ↓aop_indexAddr, ↓aop_index, ↓aop_lookup, ↓aop_mapUpdate, ↓aop_insert, ↓aop_extract, ↓aop_callB, ↓aop_callF, ↓aop_callT, ↓aop_makeFunc, ↓aop_makeMap, ↓aop_slice, ↓aevs_nil, ↓aevs_cons, ↓evP_nil, ↓evP_cons, ↓aevO_none, ↓aevO_some, ↓reduceIte, reduceCtorEq, Nat.reduceEqDiff, Nat.reduceAdd, Nat.reduceLT, Nat.reduceSub, Nat.reduceMul, Nat.reduceLeDiff, if_true, if_false, if_pos, if_neg, h1, h2]
/-- What the loop of slices.Compare finds. -/
def runC : List Int → List Int → Option Int
  | [], _ => none
  | _ :: _, [] => some 1
  | x :: r, y :: s => if x < y then some (-1) else if y < x then some 1 else runC r s
def lexC (A C : List Int) : Int := match runC A C with
  | some v => v
  | none => if A.length < C.length then -1 else 0
section
variable {a : Code} (h : loopOf 0 Try.f35 = some a) {A C : List Int} {i : Nat} (hA : A.length ≤ 1000000) (hC : C.length ≤ 1000000)
include h hA hC
def st35 (A C : List Int) (i : Nat) : St := ([(0, Is A), (1, Is C), (9, Is A), (10, I A.length), (11, I i)], [])
theorem r35a (hi : i < A.length) (hj : C.length ≤ i) {x : Int} (hx : A[i]? = some x) : roundA Try.cfg 35 iter (call Try.cfg) 0 a (st35 A C i) = some (.ret, [(4, I 1)], []) := by
  cases h
  simp -implicitDefEqProofs (disch := omega) only [push_cast, ↓dstAt_zero, ↓dstAt_succ, ↓arun_skip, ↓arun_region, ↓arun_seq, ↓arun_cond, ↓arun_block, ↓arun_loop, ↓arun_exit, ↓arun_ret, aops_nil, aops_cons, aops_cons_guard, ↓putA_some, ↓putA_none, ↓aop_move, ↓aop_assign, ↓aop_pick, ↓aop_alloc, ↓aop_box, ↓aop_build, ↓aop_buildSlice, ↓aop_load, ↓aop_store, ↓aop_nilCheck, ↓aop_binOp, ↓aop_unOp, ↓aop_convert, ↓aop_makeSlice, ↓aop_fieldAddr, ↓aop_field, ↓aop_indexAddr, ↓aop_index, ↓aop_lookup, ↓aop_mapUpdate, ↓aop_insert, ↓aop_extract, ↓aop_callB, ↓aop_callF, ↓aop_callT, ↓aop_makeFunc, ↓aop_makeMap, ↓aop_slice, ↓aevs_nil, ↓aevs_cons, ↓evP_nil, ↓evP_cons, ↓aevO_none, ↓aevO_some, ↓reduceIte, reduceCtorEq, Nat.reduceEqDiff, Nat.reduceAdd, Nat.reduceLT, Nat.reduceSub, Nat.reduceMul, Nat.reduceLeDiff, if_true, if_false, if_pos, if_neg, st35, hx]
theorem r35b (hi : i < A.length) (hj : i < C.length) {x y : Int} (hx : A[i]? = some x) (hy : C[i]? = some y) (hne : cmpI x y ≠ 0) : roundA Try.cfg 35 iter (call Try.cfg) 0 a (st35 A C i) = some (.ret, [(4, I (cmpI x y))], []) := by
  cases h
  have h49 := call49 x y
  generalize cmpI x y = z at *
  simp -implicitDefEqProofs (disch := omega) only [push_cast, ↓dstAt_zero, ↓dstAt_succ, ↓arun_skip, ↓arun_region, ↓arun_seq, ↓arun_cond, ↓arun_block, ↓arun_loop, ↓arun_exit, ↓arun_ret, aops_nil, aops_cons, aops_cons_guard, ↓putA_some, ↓putA_none, ↓aop_move, ↓aop_assign, ↓aop_pick, ↓aop_alloc, ↓aop_box, ↓aop_build, ↓aop_buildSlice, ↓aop_load, ↓aop_store, ↓aop_nilCheck, ↓aop_binOp, ↓aop_unOp, ↓aop_convert, ↓aop_makeSlice, ↓aop_fieldAddr, ↓aop_field, ↓aop_indexAddr, ↓aop_index, ↓aop_lookup, ↓aop_mapUpdate, ↓aop_insert, ↓aop_extract, ↓aop_callB, ↓aop_callF, ↓aop_callT, ↓aop_makeFunc, ↓aop_makeMap, ↓aop_slice, ↓aevs_nil, ↓aevs_cons, ↓evP_nil, ↓evP_cons, ↓aevO_none, ↓aevO_some, ↓reduceIte, reduceCtorEq, Nat.reduceEqDiff, Nat.reduceAdd, Nat.reduceLT, Nat.reduceSub, Nat.reduceMul, Nat.reduceLeDiff, if_true, if_false, if_pos, if_neg, Try.sh49, st35, hx, hy, h49, ne_eq, hne, not_false_eq_true]
theorem r35c (hi : i < A.length) (hj : i < C.length) {x y : Int} (hx : A[i]? = some x) (hy : C[i]? = some y) (hne : cmpI x y = 0) : roundA Try.cfg 35 iter (call Try.cfg) 0 a (st35 A C i) = some (.normal, st35 A C (i + 1)) := by
  cases h
  have h49 := call49 x y
  rw [hne] at h49
  simp -implicitDefEqProofs (disch := omega) only [push_cast, ↓dstAt_zero, ↓dstAt_succ, ↓arun_skip, ↓arun_region, ↓arun_seq, ↓arun_cond, ↓arun_block, ↓arun_loop, ↓arun_exit, ↓arun_ret, aops_nil, aops_cons, aops_cons_guard, ↓putA_some, ↓putA_none, ↓aop_move, ↓aop_assign, ↓aop_pick, ↓aop_alloc, ↓aop_box, ↓aop_build, ↓aop_buildSlice, ↓aop_load, ↓aop_store, ↓aop_nilCheck, ↓aop_binOp, ↓aop_unOp, ↓aop_convert, ↓aop_makeSlice, ↓aop_fieldAddr, ↓aop_field, ↓aop_indexAddr, ↓aop_index, ↓aop_lookup, ↓aop_mapUpdate, ↓aop_insert, ↓aop_extract, ↓aop_callB, ↓aop_callF, ↓aop_callT, ↓aop_makeFunc, ↓aop_makeMap, ↓aop_slice, ↓aevs_nil, ↓aevs_cons, ↓evP_nil, ↓evP_cons, ↓aevO_none, ↓aevO_some, ↓reduceIte, reduceCtorEq, Nat.reduceEqDiff, Nat.reduceAdd, Nat.reduceLT, Nat.reduceSub, Nat.reduceMul, Nat.reduceLeDiff, if_true, if_false, if_pos, if_neg, Try.sh49, st35, hx, hy, h49, ne_eq, not_true_eq_false]
  try rfl
theorem r35d : roundA Try.cfg 35 iter (call Try.cfg) 0 a (st35 A C A.length) = some (.exit 0, [(0, Is A), (1, Is C)], []) := by
  cases h
  simp -implicitDefEqProofs (disch := omega) only [push_cast, ↓dstAt_zero, ↓dstAt_succ, ↓arun_skip, ↓arun_region, ↓arun_seq, ↓arun_cond, ↓arun_block, ↓arun_loop, ↓arun_exit, ↓arun_ret, aops_nil, aops_cons, aops_cons_guard, ↓putA_some, ↓putA_none, ↓aop_move, ↓aop_assign, ↓aop_pick, ↓aop_alloc, ↓aop_box, ↓aop_build, ↓aop_buildSlice, ↓aop_load, ↓aop_store, ↓aop_nilCheck, ↓aop_binOp, ↓aop_unOp, ↓aop_convert, ↓aop_makeSlice, ↓aop_fieldAddr, ↓aop_field, ↓aop_indexAddr, ↓aop_index, ↓aop_lookup, ↓aop_mapUpdate, ↓aop_insert, ↓aop_extract, ↓aop_callB, ↓aop_callF, ↓aop_callT, ↓aop_makeFunc, ↓aop_makeMap, ↓aop_slice, ↓aevs_nil, ↓aevs_cons, ↓evP_nil, ↓evP_cons, ↓aevO_none, ↓aevO_some, ↓reduceIte, reduceCtorEq, Nat.reduceEqDiff, Nat.reduceAdd, Nat.reduceLT, Nat.reduceSub, Nat.reduceMul, Nat.reduceLeDiff, if_true, if_false, if_pos, if_neg, st35, Int.lt_irrefl]
theorem l35 : ∀ (r pre s pre' : List Int), A = pre ++ r → C = pre' ++ s → pre.length = pre'.length → iter (roundA Try.cfg 35 iter (call Try.cfg) 0 a) (st35 A C pre.length) = some (match runC r s with | some v => (.ret, [(4, I v)], []) | none => (.exit 0, [(0, Is A), (1, Is C)], []))
  | [], pre, s, pre', hp, hp', hl => by
    have e : pre.length = A.length := by simp [hp]
    rw [e]
    exact iter_last (r35d h hA hC) (by simp [runC])
  | x :: r, pre, [], pre', hp, hp', hl => by
    have hi : pre.length < A.length := by simp [hp]
    have hx : A[pre.length]? = some x := by simp [hp]
    simp only [runC]
    exact iter_last (r35a h hA hC hi (by simp [hp', hl]) hx) (by simp)
  | x :: r, pre, y :: s, pre', hp, hp', hl => by
    have hi : pre.length < A.length := by simp [hp]
    have hj : pre.length < C.length := by simp [hp', hl]
    have hx : A[pre.length]? = some x := by simp [hp]
    have hy : C[pre.length]? = some y := by rw [hl]; simp [hp']
    simp only [runC]
    by_cases h1 : x < y
    · have e : cmpI x y = -1 := by simp [cmpI, h1]
      rw [if_pos h1]
      have := r35b h hA hC hi hj hx hy (by rw [e]; omega)
      rw [e] at this
      exact iter_last this (by simp)
    by_cases h2 : y < x
    · have e : cmpI x y = 1 := by simp [cmpI, h1, h2]
      rw [if_neg h1, if_pos h2]
      have := r35b h hA hC hi hj hx hy (by rw [e]; omega)
      rw [e] at this
      exact iter_last this (by simp)
    · have e : cmpI x y = 0 := by simp [cmpI, h1, h2]
      rw [if_neg h1, if_neg h2]
      refine iter_normal (r35c h hA hC hi hj hx hy e) ?_
      have := l35 r (pre ++ [x]) s (pre' ++ [y]) (by simp [hp]) (by simp [hp']) (by simp [hl])
      simpa using this
end
theorem call35 {A C : List Int} (hA : A.length ≤ 1000000) (hC : C.length ≤ 1000000) : call Try.cfg 35 [.sl false A.length (A.map I), .sl false C.length (C.map I)] [] = some (.v (.int .i64 (lexC A C)), []) := by
  refine call_step ?_
  cases hl : loopOf 0 Try.f35 with
  | none => cases hl
  | some a =>
    have hH := l35 hl hA hC A [] C [] rfl rfl rfl
    cases hl
    simp only [st35, Is, Int.natCast_zero, List.length_nil] at hH
    unfold lexC
    cases hr : runC A C with
    | some v =>
      rw [hr] at hH
      simp -implicitDefEqProofs (disch := omega) only [stepA, bodyA, Try.cfgO, Try.sh35, Try.func35, Try.f35, push_cast, ↓dstAt_zero, ↓dstAt_succ, ↓arun_skip, ↓arun_region, ↓arun_seq, ↓arun_cond, ↓arun_block, ↓arun_loop, ↓arun_exit, ↓arun_ret, aops_nil, aops_cons, aops_cons_guard, ↓putA_some, ↓putA_none, ↓aop_move, ↓aop_assign, ↓aop_pick, ↓aop_alloc, ↓aop_box, ↓aop_build, ↓aop_buildSlice, ↓aop_load, ↓aop_store, ↓aop_nilCheck, ↓aop_binOp, ↓aop_unOp, ↓aop_convert, ↓aop_makeSlice, ↓aop_fieldAddr, ↓aop_field, ↓aop_indexAddr, ↓aop_index, ↓aop_lookup, ↓aop_mapUpdate, ↓aop_insert, ↓aop_extract, ↓aop_callB, ↓aop_callF, ↓aop_callT, ↓aop_makeFunc, ↓aop_makeMap, ↓aop_slice, ↓aevs_nil, ↓aevs_cons, ↓evP_nil, ↓evP_cons, ↓aevO_none, ↓aevO_some, ↓reduceIte, reduceCtorEq, Nat.reduceEqDiff, Nat.reduceAdd, Nat.reduceLT, Nat.reduceSub, Nat.reduceMul, Nat.reduceLeDiff, if_true, if_false, if_pos, if_neg, hH]
    | none =>
      rw [hr] at hH
      by_cases hlt : A.length < C.length
      · simp -implicitDefEqProofs (disch := omega) only [stepA, bodyA, Try.cfgO, Try.sh35, Try.func35, Try.f35, push_cast, ↓dstAt_zero, ↓dstAt_succ, ↓arun_skip, ↓arun_region, ↓arun_seq, ↓arun_cond, ↓arun_block, ↓arun_loop, ↓arun_exit, ↓arun_ret, aops_nil, aops_cons, aops_cons_guard, ↓putA_some, ↓putA_none, ↓aop_move, ↓aop_assign, ↓aop_pick, ↓aop_alloc, ↓aop_box, ↓aop_build, ↓aop_buildSlice, ↓aop_load, ↓aop_store, ↓aop_nilCheck, ↓aop_binOp, ↓aop_unOp, ↓aop_convert, ↓aop_makeSlice, ↓aop_fieldAddr, ↓aop_field, ↓aop_indexAddr, ↓aop_index, ↓aop_lookup, ↓aop_mapUpdate, ↓aop_insert, ↓aop_extract, ↓aop_callB, ↓aop_callF, ↓aop_callT, ↓aop_makeFunc, ↓aop_makeMap, ↓aop_slice, ↓aevs_nil, ↓aevs_cons, ↓evP_nil, ↓evP_cons, ↓aevO_none, ↓aevO_some, ↓reduceIte, reduceCtorEq, Nat.reduceEqDiff, Nat.reduceAdd, Nat.reduceLT, Nat.reduceSub, Nat.reduceMul, Nat.reduceLeDiff, if_true, if_false, if_pos, if_neg, hH]
      · simp -implicitDefEqProofs (disch := omega) only [stepA, bodyA, Try.cfgO, Try.sh35, Try.func35, Try.f35, push_cast, ↓dstAt_zero, ↓dstAt_succ, ↓arun_skip, ↓arun_region, ↓arun_seq, ↓arun_cond, ↓arun_block, ↓arun_loop, ↓arun_exit, ↓arun_ret, aops_nil, aops_cons, aops_cons_guard, ↓putA_some, ↓putA_none, ↓aop_move, ↓aop_assign, ↓aop_pick, ↓aop_alloc, ↓aop_box, ↓aop_build, ↓aop_buildSlice, ↓aop_load, ↓aop_store, ↓aop_nilCheck, ↓aop_binOp, ↓aop_unOp, ↓aop_convert, ↓aop_makeSlice, ↓aop_fieldAddr, ↓aop_field, ↓aop_indexAddr, ↓aop_index, ↓aop_lookup, ↓aop_mapUpdate, ↓aop_insert, ↓aop_extract, ↓aop_callB, ↓aop_callF, ↓aop_callT, ↓aop_makeFunc, ↓aop_makeMap, ↓aop_slice, ↓aevs_nil, ↓aevs_cons, ↓evP_nil, ↓evP_cons, ↓aevO_none, ↓aevO_some, ↓reduceIte, reduceCtorEq, Nat.reduceEqDiff, Nat.reduceAdd, Nat.reduceLT, Nat.reduceSub, Nat.reduceMul, Nat.reduceLeDiff, if_true, if_false, if_pos, if_neg, hH]
def ltL (A C : List Int) : Bool := decide (lexC A C < 0)
theorem call39 {A C : List Int} (hA : A.length ≤ 1000000) (hC : C.length ≤ 1000000) : call Try.cfg 39 [.sl false A.length (A.map I), .sl false C.length (C.map I)] [] = some (.v (.bool (ltL A C)), []) := by
  refine call_step ?_
  have h35 := call35 hA hC
  unfold ltL
  generalize lexC A C = z at *
  simp -implicitDefEqProofs (disch := omega) only [stepA, bodyA, Try.cfgO, Try.sh39, Try.sh35, Try.func39, Try.f39, push_cast, ↓dstAt_zero, ↓dstAt_succ, ↓arun_skip, ↓arun_region, ↓arun_seq, ↓arun_cond, ↓arun_block, ↓arun_loop, ↓arun_exit, ↓arun_ret, aops_nil, aops_cons, aops_cons_guard, ↓putA_some, ↓putA_none, ↓aop_move, ↓aop_assign, ↓aop_pick, ↓aop_alloc, ↓aop_box, ↓aop_build, ↓aop_buildSlice, ↓aop_load, ↓aop_store, ↓aop_nilCheck, ↓aop_binOp, ↓aop_unOp, ↓aop_convert, ↓aop_makeSlice, ↓aop_fieldAddr, ↓aop_field, ↓aop_indexAddr, ↓aop_index, ↓aop_lookup, ↓aop_mapUpdate, ↓aop_insert, ↓aop_extract, ↓aop_callB, ↓aop_callF, ↓aop_callT, ↓aop_makeFunc, ↓aop_makeMap, ↓aop_slice, ↓aevs_nil, ↓aevs_cons, ↓evP_nil, ↓evP_cons, ↓aevO_none, ↓aevO_some, ↓reduceIte, reduceCtorEq, Nat.reduceEqDiff, Nat.reduceAdd, Nat.reduceLT, Nat.reduceSub, Nat.reduceMul, Nat.reduceLeDiff, if_true, if_false, if_pos, if_neg, h35]
end Go.Proofs

/- keyOf; the map of keys. -/
set_option linter.unusedVariables false
set_option linter.unusedSimpArgs false
set_option linter.unusedSectionVars false
namespace Go.Proofs
open Go.AI
set_option maxRecDepth 20000
/-- A list as a key: filled with zeros to six places. -/
def key6 (A : List Int) : List Int := A ++ List.replicate (6 - A.length) 0
theorem key6_length {A : List Int} (h : A.length ≤ 6) : (key6 A).length = 6 := by simp [key6]; omega
def kA (A : List Int) : AV := .ag ((key6 A).map I)
theorem splice_zero {cs ys : List AV} (h : ys.length ≤ cs.length) : splice cs 0 ys = ys ++ cs.drop ys.length := by
  unfold splice
  split
  · cases cs with
    | nil => simp at h
    | cons c r => simp
  · simp
theorem key_cells {A : List Int} (h : A.length ≤ 6) : A.map I ++ ([I 0, I 0, I 0, I 0, I 0, I 0] : List AV).drop A.length = (key6 A).map I := by
  have e : ([I 0, I 0, I 0, I 0, I 0, I 0] : List AV) = (List.replicate 6 (0 : Int)).map I := rfl
  rw [e, key6, List.map_append, ← List.map_drop, List.drop_replicate]
theorem call32 {A : List Int} (h : A.length ≤ 6) : call Try.cfg 32 [.sl false A.length (A.map I)] [] = some (.ag ((key6 A).map I), []) := by
  refine call_step ?_
  have e1 : min A.length 6 = A.length := by omega
  have e2 := key_cells h
  have e3 := key6_length h
  have e4 : (A.map I).all AV.cellB = true := by
    rw [List.all_eq_true]; intro x hx; obtain ⟨y, _, rfl⟩ := List.mem_map.1 hx; rfl
  have e5 : ((key6 A).map I).all AV.cellB = true := by
    rw [List.all_eq_true]; intro x hx; obtain ⟨y, _, rfl⟩ := List.mem_map.1 hx; rfl
  have e6 : splice [.v (.int .i64 0), .v (.int .i64 0), .v (.int .i64 0), .v (.int .i64 0), .v (.int .i64 0), .v (.int .i64 0)] 0 (A.map I) = (key6 A).map I := by
    rw [splice_zero (by simpa using h), List.length_map]; exact e2
  have e7 : splice [.v (.int .i64 0), .v (.int .i64 0), .v (.int .i64 0), .v (.int .i64 0), .v (.int .i64 0), .v (.int .i64 0)] 0 ((key6 A).map I) = (key6 A).map I := by
    rw [splice_zero (by simp [e3]), List.length_map, e3]; simp
  have e8 : (List.map I A).take A.length = List.map I A := List.take_of_length_le (by simp)
  have e9 : (List.map I (key6 A)).take 6 = List.map I (key6 A) := List.take_of_length_le (by simp [e3])
  simp only [splice, List.set_cons_zero, List.take_zero, List.nil_append, Nat.zero_add] at e6 e7
  simp -implicitDefEqProofs (maxSteps := 1000000) (disch := omega) only [stepA, bodyA, Try.f32, push_cast, ↓dstAt_zero, ↓dstAt_succ, ↓arun_skip, ↓arun_region, ↓arun_seq, ↓arun_cond, ↓arun_block, ↓arun_loop, ↓arun_exit, ↓arun_ret, aops_nil, aops_cons, aops_cons_guard, ↓putA_some, ↓putA_none, ↓aop_move, ↓aop_assign, ↓aop_pick, ↓aop_alloc, ↓aop_box, ↓aop_build, ↓aop_buildSlice, ↓aop_load, ↓aop_store, ↓aop_nilCheck, ↓aop_binOp, ↓aop_unOp, ↓aop_convert, ↓aop_makeSlice, ↓aop_fieldAddr, ↓aop_field, ↓aop_indexAddr, ↓aop_index, ↓aop_lookup, ↓aop_mapUpdate, ↓aop_insert, ↓aop_extract, ↓aop_callB, ↓aop_callF, ↓aop_callT, ↓aop_makeFunc, ↓aop_makeMap, ↓aop_slice, ↓aevs_nil, ↓aevs_cons, ↓evP_nil, ↓evP_cons, ↓aevO_none, ↓aevO_some, ↓reduceIte, reduceCtorEq, Nat.reduceEqDiff, Nat.reduceAdd, Nat.reduceLT, Nat.reduceSub, Nat.reduceMul, Nat.reduceLeDiff, if_true, if_false, if_pos, if_neg, copyA, e1, e3, e4, e5, e6, e7, e8, e9]
end Go.Proofs

/- Sorting: plain notions. No conditions. -/
set_option linter.unusedVariables false
namespace Go.AI
structure PermOn {α : Type} (a b : Nat) (l l' : List α) : Prop where
  perm : l'.Perm l
  out : ∀ k, (k < a ∨ b ≤ k) → l'[k]? = l[k]?
section
variable {α : Type} {l l' l'' : List α} {a b : Nat}
theorem PermOn.refl (a b : Nat) (l : List α) : PermOn a b l l := ⟨.refl _, fun _ _ => rfl⟩
theorem PermOn.trans (h : PermOn a b l l') (h' : PermOn a b l' l'') : PermOn a b l l'' := ⟨h'.perm.trans h.perm, fun k hk => (h'.out k hk).trans (h.out k hk)⟩
theorem PermOn.widen {a' b' : Nat} (h : PermOn a b l l') (ha : a' ≤ a) (hb : b ≤ b') : PermOn a' b' l l' := ⟨h.perm, fun k hk => h.out k (by omega)⟩
theorem PermOn.length (h : PermOn a b l l') : l'.length = l.length := h.perm.length_eq
theorem PermOn.mid (h : PermOn a b l l') (hab : a ≤ b) : ((l'.drop a).take (b - a)).Perm ((l.drop a).take (b - a)) := by
  have e : ∀ m : List α, m = m.take a ++ ((m.drop a).take (b - a) ++ m.drop b) := by
    intro m
    have h1 : m.drop b = (m.drop a).drop (b - a) := by rw [List.drop_drop]; congr 1; omega
    rw [h1, List.take_append_drop, List.take_append_drop]
  have e1 : l'.take a = l.take a := by
    apply List.ext_getElem?
    intro k
    rw [List.getElem?_take, List.getElem?_take]
    split
    · exact h.out k (by omega)
    · rfl
  have e2 : l'.drop b = l.drop b := by
    apply List.ext_getElem?
    intro k
    rw [List.getElem?_drop, List.getElem?_drop]
    exact h.out _ (by omega)
  have hp := h.perm
  rw [e l', e l, e1, e2] at hp
  exact (List.perm_append_right_iff _).1 ((List.perm_append_left_iff _).1 hp)
theorem PermOn.all (h : PermOn a b l l') (hab : a ≤ b) {Q : α → Prop} (hq : ∀ k x, a ≤ k → k < b → l[k]? = some x → Q x) {k : Nat} {x : α} (h1 : a ≤ k) (h2 : k < b) (hx : l'[k]? = some x) : Q x := by
  have hm : x ∈ (l'.drop a).take (b - a) := by
    refine List.mem_of_getElem? (i := k - a) ?_
    rw [List.getElem?_take, if_pos (by omega), List.getElem?_drop]
    rw [show a + (k - a) = k by omega]; exact hx
  have hm := (h.mid hab).mem_iff.1 hm
  obtain ⟨j, hj⟩ := List.mem_iff_getElem?.1 hm
  rw [List.getElem?_take] at hj
  split at hj
  · rw [List.getElem?_drop] at hj
    exact hq _ x (by omega) (by omega) hj
  · cases hj
end
/-- Two places change their contents. -/
def swp {α : Type} (l : List α) (i j : Nat) (x y : α) : List α := (l.set i y).set j x
section
variable {α : Type} {l : List α} {a b i j : Nat} {x y : α}
theorem swp_length : (swp l i j x y).length = l.length := by simp [swp]
theorem lt_of_get (hx : l[i]? = some x) : i < l.length := (List.getElem?_eq_some_iff.1 hx).1
theorem swp_perm (hx : l[i]? = some x) (hy : l[j]? = some y) : (swp l i j x y).Perm l := by
  obtain ⟨h1, rfl⟩ := List.getElem?_eq_some_iff.1 hx
  obtain ⟨h2, rfl⟩ := List.getElem?_eq_some_iff.1 hy
  exact List.set_set_perm h1 h2
theorem swp_get (hx : l[i]? = some x) (hy : l[j]? = some y) (k : Nat) : (swp l i j x y)[k]? = if k = j then some x else if k = i then some y else l[k]? := by
  have h1 := lt_of_get hx
  have h2 := lt_of_get hy
  unfold swp
  by_cases hj : k = j
  · subst hj
    rw [if_pos rfl, List.getElem?_set_self (by simpa using h2)]
  · rw [if_neg hj, List.getElem?_set_ne (fun e => hj e.symm)]
    by_cases hi : k = i
    · subst hi
      rw [if_pos rfl, List.getElem?_set_self h1]
    · rw [if_neg hi, List.getElem?_set_ne (fun e => hi e.symm)]
theorem swp_on (hx : l[i]? = some x) (hy : l[j]? = some y) (h1 : a ≤ i) (h2 : i < b) (h3 : a ≤ j) (h4 : j < b) : PermOn a b l (swp l i j x y) := by
  refine ⟨swp_perm hx hy, fun k hk => ?_⟩
  rw [swp_get hx hy, if_neg (by omega), if_neg (by omega)]
end
/-- A comparison that orders. -/
structure Cmp {α : Type} (c : α → α → Int) : Prop where
  asym : ∀ x y, c x y < 0 → ¬ c y x < 0
  tr : ∀ x y z, ¬ c y x < 0 → ¬ c z y < 0 → ¬ c z x < 0
theorem Cmp.rfl' {α : Type} {c : α → α → Int} (h : Cmp c) (x : α) : ¬ c x x < 0 := fun e => h.asym _ _ e e
/-- x may stand ahead of y. -/
def le' {α : Type} (c : α → α → Int) (x y : α) : Prop := ¬ c y x < 0
def SortedOn {α : Type} (c : α → α → Int) (a b : Nat) (l : List α) : Prop := ∀ i j x y, a ≤ i → i < j → j < b → l[i]? = some x → l[j]? = some y → le' c x y
/-- What a sort needs to know of its elements. -/
structure El {α : Type} (en : α → AV) : Prop where
  good : ∀ x, (en x).good = true
  cell : ∀ x, (en x).cellB = true
  flat : ∀ x, flat (en x) = [en x]
def hs {α : Type} (en : α → AV) (H : Heap) (b ver : Nat) (l : List α) : Heap := H.set b (.cells true ver (l.map en))
section
variable {α : Type} {en : α → AV} {H : Heap} {b ver : Nat} {l l' : List α}
theorem hs_get (h : b < H.length) : (hs en H b ver l)[b]? = some (.cells true ver (l.map en)) := List.getElem?_set_self h
theorem hs_set : (hs en H b ver l).set b (.cells true ver (l'.map en)) = hs en H b ver l' := List.set_set ..
theorem hs_len : (hs en H b ver l).length = H.length := by simp [hs]
theorem hs_app (h : b < H.length) (x : AB) : hs en H b ver l ++ [x] = hs en (H ++ [x]) b ver l := by
  unfold hs
  rw [List.set_append_left _ _ h]
theorem hs_get1 (h : b < H.length) (x : AB) : (hs en (H ++ [x]) b ver l)[b]? = some (.cells true ver (l.map en)) := List.getElem?_set_self (by simp; omega)
theorem hs_last (h : b < H.length) (x : AB) : (hs en (H ++ [x]) b ver l)[H.length]? = some x := by
  unfold hs
  rw [List.getElem?_set_ne (by omega)]
  simp
theorem hs_setlast (h : b < H.length) (x y : AB) : (hs en (H ++ [x]) b ver l).set H.length y = hs en (H ++ [y]) b ver l := by
  unfold hs
  rw [List.set_comm _ _ (by omega)]
  congr 1
  rw [List.set_append_right _ _ (Nat.le_refl _)]
  simp
theorem set_en (i : Nat) (x : α) : (l.map en).set i (en x) = (l.set i x).map en := (List.map_set ..).symm
theorem closeA_en (h : El en) (H : Heap) (x : α) : closeA depthA H (en x) = some (en x, []) := closeA_id H 39 (h.good x)
end
/-- Bitwise operations on whole numbers of a kind. -/
def andI (k : IntKind) (a b : Int) : Int := k.wrap (BitVec.ofInt k.bits a &&& BitVec.ofInt k.bits b).toNat
def xorI (k : IntKind) (a b : Int) : Int := k.wrap (BitVec.ofInt k.bits a ^^^ BitVec.ofInt k.bits b).toNat
def shlI (k : IntKind) (a b : Int) : Int := k.wrap (a * 2 ^ (min b.toNat k.bits))
def shrI (k : IntKind) (a b : Int) : Int := a.fdiv (2 ^ (min b.toNat k.bits))
theorem abin_and (P : Program) (t : TypeId) (k : IntKind) (a b : Int) : abin P .and t (.v (.int k a)) (.v (.int k b)) = some (.v (.int k (andI k a b))) := by simp [abin, aint, obind, andI]
theorem abin_xor (P : Program) (t : TypeId) (k : IntKind) (a b : Int) : abin P .xor t (.v (.int k a)) (.v (.int k b)) = some (.v (.int k (xorI k a b))) := by simp [abin, aint, obind, xorI]
theorem abin_shl (P : Program) (t : TypeId) (k k' : IntKind) (a : Int) {b : Int} (h : 0 ≤ b) : abin P .shl t (.v (.int k a)) (.v (.int k' b)) = some (.v (.int k (shlI k a b))) := by
  have : ¬ b < 0 := by omega
  simp [abin, ashift, obind, shlI, this]
theorem abin_shr (P : Program) (t : TypeId) (k k' : IntKind) (a : Int) {b : Int} (h : 0 ≤ b) : abin P .shr t (.v (.int k a)) (.v (.int k' b)) = some (.v (.int k (shrI k a b))) := by
  have : ¬ b < 0 := by omega
  simp [abin, ashift, obind, shrI, this]
theorem aconv_int (P : Program) (s d : TypeId) {t : TypeDesc} {k k' : IntKind} {n : Int} (h1 : P.underlying s = some t) (h2 : P.underlying d = some (.int k)) : aconv P s d (.v (.int k' n)) = some (.v (.int k (k.wrap n))) := by
  unfold aconv
  rw [h1, h2]
theorem wrapu {n : Int} (h : 0 ≤ n) (h' : n < 18446744073709551616) : IntKind.u64.wrap n = n := by
  show (if (false && decide (n % 18446744073709551616 ≥ 9223372036854775808)) = true then n % 18446744073709551616 - 18446744073709551616 else n % 18446744073709551616) = n
  simp only [Bool.false_and, Bool.false_eq_true, if_false]
  omega
theorem andI_le {a b : Int} (h : 0 ≤ b) (h' : b < 18446744073709551616) : 0 ≤ andI .u64 a b ∧ andI .u64 a b ≤ b := by
  have hb : ((BitVec.ofInt 64 b).toNat : Int) = b := by
    rw [BitVec.toNat_ofInt]
    have : (b % ((2 ^ 64 : Nat) : Int)) = b := Int.emod_eq_of_lt h (by simpa using h')
    rw [this]; omega
  have h1 : (BitVec.ofInt 64 a &&& BitVec.ofInt 64 b).toNat ≤ (BitVec.ofInt 64 b).toNat := by rw [BitVec.toNat_and]; exact Nat.and_le_right
  unfold andI
  show 0 ≤ IntKind.u64.wrap ((BitVec.ofInt 64 a &&& BitVec.ofInt 64 b).toNat : Int) ∧ IntKind.u64.wrap ((BitVec.ofInt 64 a &&& BitVec.ofInt 64 b).toNat : Int) ≤ b
  rw [wrapu (by omega) (by omega)]
  omega
theorem tn1 (k : Nat) : ((k : Int) + 1).toNat = k + 1 := by omega
end Go.AI

/- Plain laws: the order of lists, maps of keys. -/
set_option linter.unusedVariables false
namespace Go.Proofs
open Go.AI
theorem lexC_nil (C : List Int) : lexC [] C = if C = [] then 0 else -1 := by
  cases C <;> simp [lexC, runC]
theorem lexC_cons_nil (x : Int) (r : List Int) : lexC (x :: r) [] = 1 := rfl
theorem lexC_cons (x y : Int) (r s : List Int) : lexC (x :: r) (y :: s) = if x < y then -1 else if y < x then 1 else lexC r s := by
  unfold lexC
  simp only [runC]
  split
  · rename_i v h
    split at h
    · cases h; simp [*]
    · split at h
      · cases h; simp [*]
      · simp [*]
  · rename_i h
    split at h
    · cases h
    · split at h
      · cases h
      · rename_i h1 h2
        simp only [h1, h2, if_false, h]
        simp
theorem lexC_anti : ∀ A C : List Int, lexC A C = - lexC C A
  | [], [] => rfl
  | [], y :: s => by rw [lexC_nil, lexC_cons_nil]; simp
  | x :: r, [] => by rw [lexC_nil, lexC_cons_nil]; simp
  | x :: r, y :: s => by
    rw [lexC_cons, lexC_cons, lexC_anti r s]
    rcases Int.lt_trichotomy x y with h | h | h
    · have h' : ¬ y < x := by omega
      simp [h, h']
    · subst h; simp
    · have h' : ¬ x < y := by omega
      simp [h, h']
theorem lexC_eq : ∀ {A C : List Int}, lexC A C = 0 → A = C
  | [], [], _ => rfl
  | [], y :: s, h => by rw [lexC_nil] at h; simp at h
  | x :: r, [], h => by rw [lexC_cons_nil] at h; omega
  | x :: r, y :: s, h => by
    rw [lexC_cons] at h
    split at h
    · omega
    · split at h
      · omega
      · have := lexC_eq h
        have e : x = y := by omega
        rw [this, e]
theorem lexC_self (A : List Int) : lexC A A = 0 := by have := lexC_anti A A; omega
theorem lexC_tr : ∀ A C D : List Int, lexC A C ≤ 0 → lexC C D ≤ 0 → lexC A D ≤ 0
  | [], C, D, _, _ => by rw [lexC_nil]; split <;> omega
  | x :: r, [], D, h, _ => by rw [lexC_cons_nil] at h; omega
  | x :: r, y :: s, [], _, h => by rw [lexC_cons_nil] at h; omega
  | x :: r, y :: s, z :: t, h1, h2 => by
    rw [lexC_cons] at h1 h2 ⊢
    by_cases a1 : x < y
    · by_cases b1 : y < z
      · rw [if_pos (by omega)]; omega
      · rw [if_neg b1] at h2
        by_cases b2 : z < y
        · rw [if_pos b2] at h2; omega
        · rw [if_pos (by omega)]; omega
    · rw [if_neg a1] at h1
      by_cases a2 : y < x
      · rw [if_pos a2] at h1; omega
      · rw [if_neg a2] at h1
        by_cases b1 : y < z
        · rw [if_pos (by omega)]; omega
        · rw [if_neg b1] at h2
          by_cases b2 : z < y
          · rw [if_pos b2] at h2; omega
          · rw [if_neg b2] at h2
            rw [if_neg (by omega), if_neg (by omega)]
            exact lexC_tr r s t h1 h2
theorem lex_cmp : Cmp lexC where
  asym A C h := by have := lexC_anti A C; omega
  tr A C D h1 h2 := by
    have a1 := lexC_anti A C
    have a2 := lexC_anti C D
    have a3 := lexC_anti A D
    have := lexC_tr A C D (by omega) (by omega)
    omega
theorem lex_le {A C : List Int} : le' lexC A C ↔ lexC A C ≤ 0 := by
  have := lexC_anti A C
  unfold le'
  omega
theorem le_antisymm {A C : List Int} (h : le' lexC A C) (h' : le' lexC C A) : A = C := by
  have := lexC_anti A C
  exact lexC_eq (by unfold le' at h h'; omega)
theorem ltL_iff {A C : List Int} : ltL A C = true ↔ lexC A C < 0 := by simp [ltL]
/-! ### Keys -/
def mk6 (K : List Int) : AV × AV := (.ag ((key6 K).map I), .v (.bool true))
theorem cellsEq_ints : ∀ (n : Nat) (x y : List Int), x.length = n → y.length = n → cellsEq (List.replicate n (.int .i64)) (x.map I) (y.map I) = some (decide (x = y))
  | 0, [], [], _, _ => rfl
  | n + 1, a :: x, b :: y, h1, h2 => by
    have := cellsEq_ints n x y (by simpa using h1) (by simpa using h2)
    simp only [List.replicate_succ, List.map_cons, cellsEq, cellEq, if_true, obind_some, this]
    by_cases e : a = b
    · by_cases e' : x = y <;> simp [e, e']
    · simp [e]
  | 0, _ :: _, _, h, _ => by simp at h
  | 0, [], _ :: _, _, h => by simp at h
  | _ + 1, [], _, h, _ => by simp at h
  | _ + 1, _ :: _, [], _, h => by simp at h
theorem key6_inj {A C : List Int} (h : A.length = C.length) : key6 A = key6 C ↔ A = C := by
  constructor
  · intro e
    unfold key6 at e
    exact (List.append_inj e h).1
  · rintro rfl; rfl
theorem aeq_key {A C : List Int} (hA : A.length ≤ 6) (h : A.length = C.length) : aeq Try.prog 51 (.ag ((key6 A).map I)) (.ag ((key6 C).map I)) = some (decide (A = C)) := by
  unfold aeq
  rw [Try.kinds51]
  show cellsEq _ _ _ = _
  have := cellsEq_ints 6 (key6 A) (key6 C) (key6_length hA) (key6_length (by omega))
  rw [show ([TypeDesc.int IntKind.i64, TypeDesc.int IntKind.i64, TypeDesc.int IntKind.i64, TypeDesc.int IntKind.i64, TypeDesc.int IntKind.i64, TypeDesc.int IntKind.i64] : List TypeDesc) = List.replicate 6 (.int .i64) from rfl, this]
  congr 1
  apply decide_eq_decide.2
  exact key6_inj h
theorem keyOk_key {A : List Int} (hA : A.length ≤ 6) : keyOk Try.prog 51 (.ag ((key6 A).map I)) = true := by
  unfold keyOk
  rw [aeq_key hA rfl]
  simp
theorem findA_key {A : List Int} (hA : A.length ≤ 6) : ∀ {ks : List (List Int)}, (∀ K ∈ ks, K.length = A.length) → findA Try.prog 51 (.ag ((key6 A).map I)) (ks.map mk6) = some (if A ∈ ks then some (.v (.bool true)) else none)
  | [], _ => rfl
  | K :: ks, h => by
    simp only [List.map_cons, mk6, findA]
    rw [aeq_key hA (h K (by simp)).symm, obind_some]
    by_cases e : A = K
    · simp [e]
    · have := findA_key hA (ks := ks) (fun x hx => h x (by simp [hx]))
      simp only [e, decide_false, Bool.false_eq_true, if_false, this, List.mem_cons, false_or]
def addK (ks : List (List Int)) (A : List Int) : List (List Int) := if A ∈ ks then ks else ks ++ [A]
theorem updA_key {A : List Int} (hA : A.length ≤ 6) : ∀ {ks : List (List Int)}, (∀ K ∈ ks, K.length = A.length) → updA Try.prog 51 (.ag ((key6 A).map I)) (.v (.bool true)) (ks.map mk6) = some ((addK ks A).map mk6)
  | [], _ => rfl
  | K :: ks, h => by
    simp only [List.map_cons, mk6, updA]
    rw [aeq_key hA (h K (by simp)).symm, obind_some]
    by_cases e : A = K
    · subst e
      simp [addK, mk6]
    · have := updA_key hA (ks := ks) (fun x hx => h x (by simp [hx]))
      simp only [e, decide_false, Bool.false_eq_true, if_false, this, obind_some]
      unfold addK
      simp only [List.mem_cons, e, false_or]
      split <;> simp [mk6]
theorem mem_addK {ks : List (List Int)} {A x : List Int} : x ∈ addK ks A ↔ x ∈ ks ∨ x = A := by
  unfold addK
  split
  · constructor
    · exact Or.inl
    · rintro (h | rfl)
      · exact h
      · assumption
  · simp
end Go.Proofs

/- group.Valid. -/
set_option linter.unusedVariables false
set_option linter.unusedSimpArgs false
set_option linter.unusedSectionVars false
namespace Go.Proofs
open Go.AI
set_option maxRecDepth 20000
/-- What group.Valid computes behind its first test. -/
def seenL (n : Int) : List Int → List Bool → Bool
  | [], _ => true
  | x :: r, bs => if x < 0 then false else if n ≤ x then false else if bs.getD x.toNat false then false else seenL n r (bs.set x.toNat true)
section
variable {a : Code} (h : loopOf 0 Try.f23 = some a) {A : List Int} {bs : List Bool} (hb : bs.length = 6) {i : Nat} (hA : A.length ≤ 6)
include h hb hA
def st23 (A : List Int) (i : Nat) (bs : List Bool) : St := ([(0, Is A), (3, .mp 0 0 0), (9, Is A), (10, I A.length), (11, I i)], [.cells true 0 (Bs bs)])
theorem r23a (hi : i < A.length) {x : Int} (hx : A[i]? = some x) (h1 : x < 0) : roundA Try.cfg 23 iter (call Try.cfg) 0 a (st23 A i bs) = some (.ret, [(2, B false)], [.cells true 0 (Bs bs)]) := by
  cases h
  simp -implicitDefEqProofs (disch := omega) only [push_cast, ↓dstAt_zero, ↓dstAt_succ, ↓arun_skip, ↓arun_region, ↓arun_seq, ↓arun_cond, ↓arun_block, ↓arun_loop, ↓arun_exit, ↓arun_ret, aops_nil, aops_cons, aops_cons_guard, ↓putA_some, ↓putA_none, ↓aop_move, ↓aop_assign, ↓aop_pick, ↓aop_alloc, ↓aop_box, ↓aop_build, ↓aop_buildSlice, ↓aop_load, ↓aop_store, ↓aop_nilCheck, ↓aop_binOp, ↓aop_unOp, ↓aop_convert, ↓aop_makeSlice, ↓aop_fieldAddr, ↓aop_field, ↓aop_indexAddr, ↓aop_index, ↓aop_lookup, ↓aop_mapUpdate, ↓aop_insert, ↓aop_extract, ↓aop_callB, ↓aop_callF, ↓aop_callT, ↓aop_makeFunc, ↓aop_makeMap, ↓aop_slice, ↓aevs_nil, ↓aevs_cons, ↓evP_nil, ↓evP_cons, ↓aevO_none, ↓aevO_some, ↓reduceIte, reduceCtorEq, Nat.reduceEqDiff, Nat.reduceAdd, Nat.reduceLT, Nat.reduceSub, Nat.reduceMul, Nat.reduceLeDiff, if_true, if_false, if_pos, if_neg, st23, hx]
theorem r23b (hi : i < A.length) {x : Int} (hx : A[i]? = some x) (h1 : 0 ≤ x) (h2 : A.length ≤ x) : roundA Try.cfg 23 iter (call Try.cfg) 0 a (st23 A i bs) = some (.ret, [(2, B false)], [.cells true 0 (Bs bs)]) := by
  cases h
  simp -implicitDefEqProofs (disch := omega) only [push_cast, ↓dstAt_zero, ↓dstAt_succ, ↓arun_skip, ↓arun_region, ↓arun_seq, ↓arun_cond, ↓arun_block, ↓arun_loop, ↓arun_exit, ↓arun_ret, aops_nil, aops_cons, aops_cons_guard, ↓putA_some, ↓putA_none, ↓aop_move, ↓aop_assign, ↓aop_pick, ↓aop_alloc, ↓aop_box, ↓aop_build, ↓aop_buildSlice, ↓aop_load, ↓aop_store, ↓aop_nilCheck, ↓aop_binOp, ↓aop_unOp, ↓aop_convert, ↓aop_makeSlice, ↓aop_fieldAddr, ↓aop_field, ↓aop_indexAddr, ↓aop_index, ↓aop_lookup, ↓aop_mapUpdate, ↓aop_insert, ↓aop_extract, ↓aop_callB, ↓aop_callF, ↓aop_callT, ↓aop_makeFunc, ↓aop_makeMap, ↓aop_slice, ↓aevs_nil, ↓aevs_cons, ↓evP_nil, ↓evP_cons, ↓aevO_none, ↓aevO_some, ↓reduceIte, reduceCtorEq, Nat.reduceEqDiff, Nat.reduceAdd, Nat.reduceLT, Nat.reduceSub, Nat.reduceMul, Nat.reduceLeDiff, if_true, if_false, if_pos, if_neg, st23, hx]
theorem r23c (hi : i < A.length) {x : Int} (hx : A[i]? = some x) (h1 : 0 ≤ x) (h2 : x < A.length) (h3 : bs[x.toNat]? = some true) : roundA Try.cfg 23 iter (call Try.cfg) 0 a (st23 A i bs) = some (.ret, [(2, B false)], [.cells true 0 (Bs bs)]) := by
  cases h
  simp -implicitDefEqProofs (disch := omega) only [push_cast, ↓dstAt_zero, ↓dstAt_succ, ↓arun_skip, ↓arun_region, ↓arun_seq, ↓arun_cond, ↓arun_block, ↓arun_loop, ↓arun_exit, ↓arun_ret, aops_nil, aops_cons, aops_cons_guard, ↓putA_some, ↓putA_none, ↓aop_move, ↓aop_assign, ↓aop_pick, ↓aop_alloc, ↓aop_box, ↓aop_build, ↓aop_buildSlice, ↓aop_load, ↓aop_store, ↓aop_nilCheck, ↓aop_binOp, ↓aop_unOp, ↓aop_convert, ↓aop_makeSlice, ↓aop_fieldAddr, ↓aop_field, ↓aop_indexAddr, ↓aop_index, ↓aop_lookup, ↓aop_mapUpdate, ↓aop_insert, ↓aop_extract, ↓aop_callB, ↓aop_callF, ↓aop_callT, ↓aop_makeFunc, ↓aop_makeMap, ↓aop_slice, ↓aevs_nil, ↓aevs_cons, ↓evP_nil, ↓evP_cons, ↓aevO_none, ↓aevO_some, ↓reduceIte, reduceCtorEq, Nat.reduceEqDiff, Nat.reduceAdd, Nat.reduceLT, Nat.reduceSub, Nat.reduceMul, Nat.reduceLeDiff, if_true, if_false, if_pos, if_neg, st23, hx, h3]
theorem r23d (hi : i < A.length) {x : Int} (hx : A[i]? = some x) (h1 : 0 ≤ x) (h2 : x < A.length) (h3 : bs[x.toNat]? = some false) : roundA Try.cfg 23 iter (call Try.cfg) 0 a (st23 A i bs) = some (.normal, st23 A (i + 1) (bs.set x.toNat true)) := by
  cases h
  simp -implicitDefEqProofs (disch := omega) only [push_cast, ↓dstAt_zero, ↓dstAt_succ, ↓arun_skip, ↓arun_region, ↓arun_seq, ↓arun_cond, ↓arun_block, ↓arun_loop, ↓arun_exit, ↓arun_ret, aops_nil, aops_cons, aops_cons_guard, ↓putA_some, ↓putA_none, ↓aop_move, ↓aop_assign, ↓aop_pick, ↓aop_alloc, ↓aop_box, ↓aop_build, ↓aop_buildSlice, ↓aop_load, ↓aop_store, ↓aop_nilCheck, ↓aop_binOp, ↓aop_unOp, ↓aop_convert, ↓aop_makeSlice, ↓aop_fieldAddr, ↓aop_field, ↓aop_indexAddr, ↓aop_index, ↓aop_lookup, ↓aop_mapUpdate, ↓aop_insert, ↓aop_extract, ↓aop_callB, ↓aop_callF, ↓aop_callT, ↓aop_makeFunc, ↓aop_makeMap, ↓aop_slice, ↓aevs_nil, ↓aevs_cons, ↓evP_nil, ↓evP_cons, ↓aevO_none, ↓aevO_some, ↓reduceIte, reduceCtorEq, Nat.reduceEqDiff, Nat.reduceAdd, Nat.reduceLT, Nat.reduceSub, Nat.reduceMul, Nat.reduceLeDiff, if_true, if_false, if_pos, if_neg, st23, hx, h3]
  try rfl
theorem r23e (hi : i = A.length) : roundA Try.cfg 23 iter (call Try.cfg) 0 a (st23 A i bs) = some (.exit 0, [], [.cells true 0 (Bs bs)]) := by
  cases h
  simp -implicitDefEqProofs (disch := omega) only [push_cast, ↓dstAt_zero, ↓dstAt_succ, ↓arun_skip, ↓arun_region, ↓arun_seq, ↓arun_cond, ↓arun_block, ↓arun_loop, ↓arun_exit, ↓arun_ret, aops_nil, aops_cons, aops_cons_guard, ↓putA_some, ↓putA_none, ↓aop_move, ↓aop_assign, ↓aop_pick, ↓aop_alloc, ↓aop_box, ↓aop_build, ↓aop_buildSlice, ↓aop_load, ↓aop_store, ↓aop_nilCheck, ↓aop_binOp, ↓aop_unOp, ↓aop_convert, ↓aop_makeSlice, ↓aop_fieldAddr, ↓aop_field, ↓aop_indexAddr, ↓aop_index, ↓aop_lookup, ↓aop_mapUpdate, ↓aop_insert, ↓aop_extract, ↓aop_callB, ↓aop_callF, ↓aop_callT, ↓aop_makeFunc, ↓aop_makeMap, ↓aop_slice, ↓aevs_nil, ↓aevs_cons, ↓evP_nil, ↓evP_cons, ↓aevO_none, ↓aevO_some, ↓reduceIte, reduceCtorEq, Nat.reduceEqDiff, Nat.reduceAdd, Nat.reduceLT, Nat.reduceSub, Nat.reduceMul, Nat.reduceLeDiff, if_true, if_false, if_pos, if_neg, st23]
omit hb in
theorem l23 : ∀ (r pre : List Int) (bs : List Bool), bs.length = 6 → A = pre ++ r → ∃ H, iter (roundA Try.cfg 23 iter (call Try.cfg) 0 a) (st23 A pre.length bs) = some (if seenL A.length r bs then (.exit 0, [], H) else (.ret, [(2, B false)], H))
  | [], pre, bs, hb, hp => by
    refine ⟨_, iter_last (r23e h hb hA (by simp [hp])) (by simp [seenL])⟩
  | x :: r, pre, bs, hb, hp => by
    have hi : pre.length < A.length := by simp [hp]
    have hx : A[pre.length]? = some x := by simp [hp]
    by_cases h1 : x < 0
    · refine ⟨[.cells true 0 (Bs bs)], ?_⟩
      simp only [seenL, h1, if_true, Bool.false_eq_true, if_false]
      exact iter_last (r23a h hb hA hi hx h1) (by simp)
    by_cases h2 : (A.length : Int) ≤ x
    · refine ⟨[.cells true 0 (Bs bs)], ?_⟩
      simp only [seenL, h1, h2, if_true, Bool.false_eq_true, if_false]
      exact iter_last (r23b h hb hA hi hx (by omega) h2) (by simp)
    have h4 : x.toNat < bs.length := by omega
    have hg : bs[x.toNat]? = some (bs.getD x.toNat false) := by simp [h4]
    cases h3 : bs.getD x.toNat false with
    | true =>
      rw [h3] at hg
      refine ⟨[.cells true 0 (Bs bs)], ?_⟩
      simp only [seenL, h1, h2, h3, if_true, Bool.false_eq_true, if_false]
      exact iter_last (r23c h hb hA hi hx (by omega) (by omega) hg) (by simp)
    | false =>
      rw [h3] at hg
      obtain ⟨H, hH⟩ := l23 r (pre ++ [x]) (bs.set x.toNat true) (by simpa using hb) (by simp [hp])
      refine ⟨H, ?_⟩
      simp only [seenL, h1, h2, h3, Bool.false_eq_true, if_false]
      refine iter_normal (r23d h hb hA hi hx (by omega) (by omega) hg) ?_
      simpa using hH
end
def validL (A : List Int) : Bool := decide (A.length ≤ 6) && seenL A.length A [false, false, false, false, false, false]
theorem call23 (A : List Int) (hA : A.length ≤ 1000) : call Try.cfg 23 [Is A] [] = some (B (validL A), []) := by
  refine call_step ?_
  by_cases h6 : A.length ≤ 6
  · cases hl : loopOf 0 Try.f23 with
    | none => cases hl
    | some a =>
      obtain ⟨H, hH⟩ := l23 (A := A) hl h6 A [] [false, false, false, false, false, false] rfl rfl
      cases hl
      simp only [st23, Is, Bs, List.map_cons, List.map_nil, List.length_nil, Int.natCast_zero] at hH
      have hd : decide (A.length ≤ 6) = true := by simpa using h6
      cases hv : seenL A.length A [false, false, false, false, false, false] with
      | true =>
        rw [hv, if_pos rfl] at hH
        simp -implicitDefEqProofs (disch := omega) only [stepA, bodyA, Try.cfgO, Try.sh23, Try.func23, Try.f23, push_cast, ↓dstAt_zero, ↓dstAt_succ, ↓arun_skip, ↓arun_region, ↓arun_seq, ↓arun_cond, ↓arun_block, ↓arun_loop, ↓arun_exit, ↓arun_ret, aops_nil, aops_cons, aops_cons_guard, ↓putA_some, ↓putA_none, ↓aop_move, ↓aop_assign, ↓aop_pick, ↓aop_alloc, ↓aop_box, ↓aop_build, ↓aop_buildSlice, ↓aop_load, ↓aop_store, ↓aop_nilCheck, ↓aop_binOp, ↓aop_unOp, ↓aop_convert, ↓aop_makeSlice, ↓aop_fieldAddr, ↓aop_field, ↓aop_indexAddr, ↓aop_index, ↓aop_lookup, ↓aop_mapUpdate, ↓aop_insert, ↓aop_extract, ↓aop_callB, ↓aop_callF, ↓aop_callT, ↓aop_makeFunc, ↓aop_makeMap, ↓aop_slice, ↓aevs_nil, ↓aevs_cons, ↓evP_nil, ↓evP_cons, ↓aevO_none, ↓aevO_some, ↓reduceIte, reduceCtorEq, Nat.reduceEqDiff, Nat.reduceAdd, Nat.reduceLT, Nat.reduceSub, Nat.reduceMul, Nat.reduceLeDiff, if_true, if_false, if_pos, if_neg, hH, validL, hv, hd]
      | false =>
        rw [hv, if_neg (by simp)] at hH
        simp -implicitDefEqProofs (disch := omega) only [stepA, bodyA, Try.cfgO, Try.sh23, Try.func23, Try.f23, push_cast, ↓dstAt_zero, ↓dstAt_succ, ↓arun_skip, ↓arun_region, ↓arun_seq, ↓arun_cond, ↓arun_block, ↓arun_loop, ↓arun_exit, ↓arun_ret, aops_nil, aops_cons, aops_cons_guard, ↓putA_some, ↓putA_none, ↓aop_move, ↓aop_assign, ↓aop_pick, ↓aop_alloc, ↓aop_box, ↓aop_build, ↓aop_buildSlice, ↓aop_load, ↓aop_store, ↓aop_nilCheck, ↓aop_binOp, ↓aop_unOp, ↓aop_convert, ↓aop_makeSlice, ↓aop_fieldAddr, ↓aop_field, ↓aop_indexAddr, ↓aop_index, ↓aop_lookup, ↓aop_mapUpdate, ↓aop_insert, ↓aop_extract, ↓aop_callB, ↓aop_callF, ↓aop_callT, ↓aop_makeFunc, ↓aop_makeMap, ↓aop_slice, ↓aevs_nil, ↓aevs_cons, ↓evP_nil, ↓evP_cons, ↓aevO_none, ↓aevO_some, ↓reduceIte, reduceCtorEq, Nat.reduceEqDiff, Nat.reduceAdd, Nat.reduceLT, Nat.reduceSub, Nat.reduceMul, Nat.reduceLeDiff, if_true, if_false, if_pos, if_neg, hH, validL, hv, hd]
  · have hd : decide (A.length ≤ 6) = false := by simpa using h6
    simp -implicitDefEqProofs (disch := omega) only [stepA, bodyA, Try.cfgO, Try.sh23, Try.func23, Try.f23, push_cast, ↓dstAt_zero, ↓dstAt_succ, ↓arun_skip, ↓arun_region, ↓arun_seq, ↓arun_cond, ↓arun_block, ↓arun_loop, ↓arun_exit, ↓arun_ret, aops_nil, aops_cons, aops_cons_guard, ↓putA_some, ↓putA_none, ↓aop_move, ↓aop_assign, ↓aop_pick, ↓aop_alloc, ↓aop_box, ↓aop_build, ↓aop_buildSlice, ↓aop_load, ↓aop_store, ↓aop_nilCheck, ↓aop_binOp, ↓aop_unOp, ↓aop_convert, ↓aop_makeSlice, ↓aop_fieldAddr, ↓aop_field, ↓aop_indexAddr, ↓aop_index, ↓aop_lookup, ↓aop_mapUpdate, ↓aop_insert, ↓aop_extract, ↓aop_callB, ↓aop_callF, ↓aop_callT, ↓aop_makeFunc, ↓aop_makeMap, ↓aop_slice, ↓aevs_nil, ↓aevs_cons, ↓evP_nil, ↓evP_cons, ↓aevO_none, ↓aevO_some, ↓reduceIte, reduceCtorEq, Nat.reduceEqDiff, Nat.reduceAdd, Nat.reduceLT, Nat.reduceSub, Nat.reduceMul, Nat.reduceLeDiff, if_true, if_false, if_pos, if_neg, validL, hd, Bool.false_and]
end Go.Proofs
