/- The abstract interpreter: code and functions. Conditions: the callees' contracts; a check of the function's text. -/
import Derived.Test.YtdodfimekcoclaaAiCode5
set_option linter.unusedVariables false
set_option linter.unusedSimpArgs false
namespace Go.AI

/-! ### What goes on to be true, for the blocks that are kept -/
structure PKB (B : Nat → Prop) (κ κ' : Kap) : Prop where
  cell : ∀ a u, ¬ κ.A a.block → κ.w.cell? a = some u → κ'.w.cell? a = some u
  avo : ∀ b, κ'.A b → κ.A b ∨ κ.w.heap.size ≤ b
  size : κ.w.heap.size ≤ κ'.w.heap.size
  row : ∀ b k, RowSz κ.w b k → RowSz κ'.w b k
  pl : ∀ b v x, B b → κ.p b = some (v, x) → ∃ v' x', κ'.p b = some (v', x') ∧ ((v' = v ∧ x' = x) ∨ v < v')
theorem PK.toB {κ κ' : Kap} (B : Nat → Prop) (h : PK κ κ') : PKB B κ κ' := ⟨h.cell, h.avo, h.size, h.row, fun b v x _ hp => h.pl b v x hp⟩
theorem PKB.toPK {κ κ' : Kap} {B : Nat → Prop} (h : PKB B κ κ') (hB : ∀ b, B b) : PK κ κ' := ⟨h.cell, h.avo, h.size, h.row, fun b v x hp => h.pl b v x (hB b) hp⟩
theorem PKB.refl (B : Nat → Prop) (κ : Kap) : PKB B κ κ := (PK.refl κ).toB B
theorem PKB.trans {B : Nat → Prop} {κ κ' κ'' : Kap} (h : PKB B κ κ') (h' : PKB B κ' κ'') : PKB B κ κ'' := by
  refine ⟨fun a u hA hc => h'.cell a u (fun h1 => ?_) (h.cell a u hA hc), fun b hb => ?_, Nat.le_trans h.size h'.size, fun b k hr => h'.row b k (h.row b k hr), fun b v x hB hp => ?_⟩
  · rcases h.avo _ h1 with h2 | h2
    · exact hA h2
    · have := World.block_lt_of_cell? _ _ hc
      omega
  · rcases h'.avo b hb with h1 | h1
    · exact h.avo b h1
    · exact .inr (Nat.le_trans h.size h1)
  · obtain ⟨v1, x1, h1, h2⟩ := h.pl b v x hB hp
    obtain ⟨v2, x2, h3, h4⟩ := h'.pl b v1 x1 hB h1
    refine ⟨v2, x2, h3, ?_⟩
    rcases h2 with ⟨rfl, rfl⟩ | h2
    · exact h4
    · rcases h4 with ⟨rfl, rfl⟩ | h4
      · exact .inr h2
      · exact .inr (Nat.lt_trans h2 h4)

/-! ### Fewer blocks -/
structure Cut (m : Nat) (κ κ' : Kap) : Prop where
  w : κ'.w = κ.w
  avo : ∀ b, κ'.A b → κ.A b
  pl : ∀ b, b < m → κ'.p b = κ.p b
mutual
theorem VR.cut {m : Nat} {κ κ' : Kap} (h : Cut m κ κ') : ∀ (x : AV) (u : Value), x.under m = true → VR κ x u → VR κ' x u
  | .v _, u, hm, hx => by simp only [VR] at hx ⊢; exact hx
  | .sl full n cs, u, hm, hx => by
    simp only [VR] at hx ⊢
    obtain ⟨ad, cap, h1, h2, h3, h4, h5, us, h6, h7⟩ := hx
    refine ⟨ad, cap, h1, h2, h3, h4, h5, us, VRs.cutGood h cs us h5 h6, ?_⟩
    cases ad with
    | none => exact h7
    | some a => exact ⟨h7.1, fun j u hj => by rw [h.w]; exact h7.2.1 j u hj, fun hne hA => h7.2.2.1 hne (h.avo _ hA), h7.2.2.2⟩
  | .pt cs off, u, hm, hx => by
    simp only [VR] at hx ⊢
    obtain ⟨b, o, h1, h2, us, h3, h4⟩ := hx
    exact ⟨b, o, h1, h2, us, VRs.cutGood h cs us h2 h3, fun j u hj => by rw [h.w]; exact h4.1 j u hj, fun hne hA => h4.2.1 hne (h.avo _ hA), h4.2.2⟩
  | .ms b ver off n sz, u, hm, hx => by
    simp only [VR, AV.under, decide_eq_true_eq] at hx hm ⊢
    rw [h.pl b hm, h.w]
    exact hx
  | .mp b ver off, u, hm, hx => by
    simp only [VR, AV.under, decide_eq_true_eq] at hx hm ⊢
    rw [h.pl b hm]
    exact hx
  | .mm b, u, hm, hx => by
    simp only [VR, AV.under, decide_eq_true_eq] at hx hm ⊢
    rw [h.pl b hm]
    exact hx
  | .ag cs, u, hm, hx => by
    simp only [VR, AV.under] at hx hm ⊢
    obtain ⟨us, h1, h2, h3⟩ := hx
    exact ⟨us, h1, VRs.cut h cs us hm h2, h3⟩
  | .tu cs, u, hm, hx => by
    simp only [VR, AV.under] at hx hm ⊢
    obtain ⟨us, h1, h2⟩ := hx
    exact ⟨us, h1, VRs.cut h cs us hm h2⟩
  | .fn f cs, u, hm, hx => by
    simp only [VR, AV.under] at hx hm ⊢
    obtain ⟨us, h1, h2⟩ := hx
    exact ⟨us, h1, VRs.cut h cs us hm h2⟩
theorem VRs.cut {m : Nat} {κ κ' : Kap} (h : Cut m κ κ') : ∀ (xs : List AV) (us : List Value), underL m xs = true → VRs κ xs us → VRs κ' xs us
  | [], us, hm, hx => by simp only [VRs] at hx ⊢; exact hx
  | x :: r, us, hm, hx => by
    simp only [VRs, underL, Bool.and_eq_true] at hx hm ⊢
    obtain ⟨u, s, h1, h2, h3⟩ := hx
    exact ⟨u, s, h1, VR.cut h x u hm.1 h2, VRs.cut h r s hm.2 h3⟩
theorem VR.cutGood {m : Nat} {κ κ' : Kap} (h : Cut m κ κ') : ∀ (x : AV) (u : Value), x.good = true → VR κ x u → VR κ' x u
  | .v _, u, hm, hx => by simp only [VR] at hx ⊢; exact hx
  | .sl full n cs, u, hm, hx => VR.cut h (.sl full n cs) u rfl hx
  | .pt cs off, u, hm, hx => VR.cut h (.pt cs off) u rfl hx
  | .ms b ver off n sz, u, hm, hx => by cases hm
  | .mp b ver off, u, hm, hx => by cases hm
  | .mm b, u, hm, hx => by cases hm
  | .ag cs, u, hm, hx => by
    simp only [VR, AV.good] at hx hm ⊢
    obtain ⟨us, h1, h2, h3⟩ := hx
    exact ⟨us, h1, VRs.cutGood h cs us hm h2, h3⟩
  | .tu cs, u, hm, hx => by
    simp only [VR, AV.good] at hx hm ⊢
    obtain ⟨us, h1, h2⟩ := hx
    exact ⟨us, h1, VRs.cutGood h cs us hm h2⟩
  | .fn f cs, u, hm, hx => by
    simp only [VR, AV.good] at hx hm ⊢
    obtain ⟨us, h1, h2⟩ := hx
    exact ⟨us, h1, VRs.cutGood h cs us hm h2⟩
theorem VRs.cutGood {m : Nat} {κ κ' : Kap} (h : Cut m κ κ') : ∀ (xs : List AV) (us : List Value), goodL xs = true → VRs κ xs us → VRs κ' xs us
  | [], us, hm, hx => by simp only [VRs] at hx ⊢; exact hx
  | x :: r, us, hm, hx => by
    simp only [VRs, goodL, Bool.and_eq_true] at hx hm ⊢
    obtain ⟨u, s, h1, h2, h3⟩ := hx
    exact ⟨u, s, h1, VR.cutGood h x u hm.1 h2, VRs.cutGood h r s hm.2 h3⟩
end
section
variable {K : Kx} {H : Heap} {p : Pl} {w : World}
theorem BlkR.cut {m : Nat} {κ κ' : Kap} (h : Cut m κ κ') {b : Nat} (hb : b < m) : ∀ {x : AB}, x.under m = true → BlkR κ b x → BlkR κ' b x
  | .cells live ver cs, hm, hx => by
    obtain ⟨x, h1, h2⟩ := hx
    refine ⟨x, by rw [h.pl b hb]; exact h1, ?_⟩
    cases x with
    | none => exact h2
    | some q =>
      obtain ⟨rb, o⟩ := q
      obtain ⟨c, e, fr, us, r1, r2, r3, r4, r5⟩ := h2
      exact ⟨c, e, fr, us, by rw [h.w]; exact r1, VRs.cut h cs us hm r2, r3, r4, r5⟩
  | .map es, hm, hx => by
    obtain ⟨rb, ents, clock, h1, h2, h3⟩ := hx
    refine ⟨rb, ents, clock, by rw [h.pl b hb]; exact h1, by rw [h.w]; exact h2, ?_⟩
    have key : ∀ (es : List (AV × AV)) (xs : List MapEntry), (es.all fun p => p.1.under m && p.2.under m) = true → EntR κ es xs → EntR κ' es xs := by
      intro es
      induction es with
      | nil => intro xs _ h; exact h
      | cons e r ih =>
        intro xs hm hx
        obtain ⟨k, x⟩ := e
        obtain ⟨e', s, rfl, q1, q2, q3⟩ := hx
        simp only [List.all_cons, Bool.and_eq_true] at hm
        exact ⟨e', s, rfl, VR.cut h k _ hm.1.1 q1, VR.cut h x _ hm.1.2 q2, ih s hm.2 q3⟩
    exact key es _ hm h3
theorem Env.get_mem : ∀ {e : Env} {t : Nat} {x : AV}, e.get t = some x → (t, x) ∈ e
  | [], t, x, h => by cases h
  | (j, y) :: r, t, x, h => by
    simp only [Env.get] at h
    split at h
    · rename_i hj; subst hj; cases h; simp
    · exact List.mem_cons_of_mem _ (Env.get_mem h)
theorem Env.get_keep {ks : List Nat} : ∀ {e : Env} {t : Nat} {x : AV}, (e.keep ks).get t = some x → e.get t = some x
  | [], t, x, h => by cases h
  | (j, y) :: r, t, x, h => by
    simp only [Env.keep] at h
    simp only [Env.get]
    split at h
    · simp only [Env.get] at h
      split at h
      · rename_i hj; rw [if_pos hj]; exact h
      · rename_i hj; rw [if_neg hj]; exact Env.get_keep h
    · rename_i hk
      have h2 := Env.get_keep h
      split
      · rename_i hj
        subst hj
        exfalso
        have hm : ∀ {e : Env}, (e.keep ks).get j = some x → ks.contains j = true := by
          intro e
          induction e with
          | nil => intro h; cases h
          | cons q r ih =>
            obtain ⟨i, z⟩ := q
            intro h
            simp only [Env.keep] at h
            split at h
            · rename_i hi
              simp only [Env.get] at h
              split at h
              · rename_i hij; subst hij; exact hi
              · exact ih h
            · exact ih h
        exact hk (hm h)
      · exact h2
theorem EnvR.sub {κ : Kap} {g g' : G} {a : Act} (h : ∀ t x, g' t = some x → g t = some x) (hE : EnvR κ g a) : EnvR κ g' a := fun t x ht => hE t x (h t x ht)
theorem truncA_sound (hI : Inv K H p w) {m : Nat} {e : Env} {s : St} {a : Act} (h : truncA m (e, H) = some s) (hE : EnvR (kap K H p w) e.get a) :
    ∃ p', Inv K s.2 p' w ∧ PKB (fun _ => False) (kap K H p w) (kap K s.2 p' w) ∧ EnvR (kap K s.2 p' w) s.1.get a := by
  unfold truncA at h
  split at h
  · rename_i hc
    simp only [Bool.and_eq_true, List.all_eq_true] at hc
    cases h
    let p' : Pl := fun b => if b < m then p b else none
    have hlen : ∀ i, i < (H.take m).length → i < m ∧ i < H.length := fun i hi => by simp at hi; omega
    have hget : ∀ i x, (H.take m)[i]? = some x → i < m ∧ H[i]? = some x := by
      intro i x hx
      have hi := (List.getElem?_eq_some_iff.1 hx).1
      have := hlen i hi
      refine ⟨this.1, ?_⟩
      rw [List.getElem?_take] at hx
      rw [if_pos this.1] at hx
      exact hx
    have hlv : ∀ b rb, LiveAt (H.take m) p' b rb → LiveAt H p b rb := by
      rintro b rb ⟨x, v, o, h1, h2, h3⟩
      obtain ⟨g1, g2⟩ := hget _ _ h1
      refine ⟨x, v, o, g2, h2, ?_⟩
      simpa [p', g1] using h3
    have hcut : Cut m (kap K H p w) (kap K (H.take m) p' w) := by
      refine ⟨rfl, fun b hb => ?_, fun b hb => by simp [kap, p', hb]⟩
      rcases hb with hb | ⟨i, hi⟩
      · exact .inl hb
      · exact .inr ⟨i, hlv i b hi⟩
    refine ⟨p', ⟨fun b x hx => ?_, fun b b' v o v' o' rb hb hb' h1 h2 => ?_, fun b v o rb hb h1 => ?_, fun b rb hl => hI.old b rb (hlv b rb hl), hI.fsz, hI.ext, fun b hb => ?_⟩, ⟨fun a u _ h => h, fun b hb => .inl (hcut.avo b hb), Nat.le_refl _, fun _ _ h => h, fun b v x hB => hB.elim⟩, ?_⟩
    · obtain ⟨g1, g2⟩ := hget b x hx
      exact BlkR.cut hcut g1 (hc.2 x (List.mem_of_getElem? hx)) (hI.blk b x g2)
    · have g := hlen b hb
      have g' := hlen b' hb'
      simp only [p', g.1, g'.1, if_true] at h1 h2
      exact hI.inj b b' v o v' o' rb g.2 g'.2 h1 h2
    · have g := hlen b hb
      simp only [p', g.1, if_true] at h1
      exact hI.dis b v o rb g.2 h1
    · simp only [p']
      split
      · rename_i hbm
        refine hI.dom b ?_
        simp at hb
        omega
      · rfl
    · intro t x ht
      have hu := hc.1 (t, x) (Env.get_mem ht)
      exact VR.cut hcut x _ hu (hE t x ht)
  · cases h
theorem closeSlots_sound : ∀ (cl : List Nat) {H : Heap} {e : Env} {s : St} {a : Act}, Inv K H p w → closeSlots cl (e, H) = some s → EnvR (kap K H p w) e.get a →
    Inv K s.2 p w ∧ PK (kap K H p w) (kap K s.2 p w) ∧ EnvR (kap K s.2 p w) s.1.get a
  | [], H, e, s, a, hI, h, hE => by cases h; exact ⟨hI, PK.refl _, hE⟩
  | t :: r, H, e, s, a, hI, h, hE => by
    obtain ⟨x, hx, h⟩ := obind_eq h
    obtain ⟨⟨y, bs⟩, hq, h⟩ := obind_eq h
    have hu := hE t x hx
    obtain ⟨c1, c2, c3, c4⟩ := closeA_sound hI depthA x y bs _ hq hu
    obtain ⟨m1, m2, m3, m4⟩ := mark_sound bs hI
    have hy : VR (kap K (markA H bs) p w) y (a.tmps.getD t undef) := by
      refine c4 _ rfl fun rb hA => ?_
      rcases hA with hA | ⟨i, hi⟩
      · refine ⟨.inl hA, fun b hb v o hp => ?_⟩
        obtain ⟨l, vv, cs, hc⟩ := c3 b hb
        exact hI.dis b v o rb (List.getElem?_eq_some_iff.1 hc).1 hp hA
      · obtain ⟨n1, n2⟩ := m4 i rb hi
        refine ⟨.inr ⟨i, n1⟩, fun j hj v o hp => ?_⟩
        obtain ⟨l, vv, cs, hc⟩ := c3 j hj
        obtain ⟨x, v', o', q1, q2, q3⟩ := n1
        have : i = j := hI.inj i j _ _ _ _ rb (List.getElem?_eq_some_iff.1 q1).1 (List.getElem?_eq_some_iff.1 hc).1 q3 hp
        subst this
        exact n2 hj (c3 i hj)
    have hE' : EnvR (kap K (markA H bs) p w) (e.put t y).get a := by
      intro i z hz
      rw [get_put] at hz
      split at hz
      · rename_i h; subst h; cases hz; exact hy
      · exact (hE i z hz).mono' m2
    obtain ⟨k1, k2, k3⟩ := closeSlots_sound r m1 h hE'
    exact ⟨k1, m2.trans k2, k3⟩
theorem headA_sound (hI : Inv K H p w) {an : Option Ann} {e : Env} {s : St} {a : Act} {B : Nat → Prop} (hB : ∀ i o cl m z, an = some (i, o, cl, some m, z) → ∀ b, ¬ B b)
    (h : headA an (e, H) = some s) (hE : EnvR (kap K H p w) e.get a) : ∃ p', Inv K s.2 p' w ∧ PKB B (kap K H p w) (kap K s.2 p' w) ∧ EnvR (kap K s.2 p' w) s.1.get a := by
  unfold headA at h
  split at h
  · cases h; exact ⟨p, hI, PKB.refl _ _, hE⟩
  · rename_i inn out cl tr cz
    obtain ⟨s', hs, h⟩ := obind_eq h
    obtain ⟨k1, k2, k3⟩ := closeSlots_sound cl hI hs (hE.sub fun t x => Env.get_keep)
    cases tr with
    | none => cases h; exact ⟨p, k1, k2.toB B, k3⟩
    | some m =>
      obtain ⟨p', q1, q2, q3⟩ := truncA_sound (e := s'.1) k1 h k3
      refine ⟨p', q1, (k2.toB B).trans ⟨q2.cell, q2.avo, q2.size, q2.row, fun b v x hb => absurd hb (hB _ _ _ _ _ rfl b)⟩, q3⟩
end

theorem pruneA_sound {κ : Kap} {an : Option (List Nat)} {e : Env} {a : Act} (hE : EnvR κ e.get a) : EnvR κ (pruneA an e).get a := by
  unfold pruneA
  split
  · exact hE
  · exact hE.sub fun t x => Env.get_keep
theorem exitA_sound {κ : Kap} {an : Option Ann} {e : Env} {a : Act} (hE : EnvR κ e.get a) : EnvR κ (exitA an e).get a := by
  unfold exitA
  split
  · exact hE
  · exact hE.sub fun t x => Env.get_keep

/-! ### Code -/
def okCode (n : Nat) (sh : FuncId → Bool) : Code → Bool
  | .region _ ops dr => (ops.toList.all fun o => match o.dst with | some d => decide (d < n) | none => true) && (!dr || okAny sh ops)
  | .seq a b => okCode n sh a && okCode n sh b
  | .cond _ a b => okCode n sh a && okCode n sh b
  | .block _ a => okCode n sh a
  | .loop a => okCode n sh a
  | _ => true
def Ex.toExit : Ex → Exit
  | .normal => .normal
  | .exit id => .exit id
  | .ret => .ret
theorem arun_sound {c : Cfg} {C : Cl} {f : FuncId} {N n m : Nat} {B : Nat → Prop} (hC : SoundC c C) (hm : c.P.follows .mixedOrders = true) (hmn : m ≤ n)
    (hB : ∀ k i o cl m z, c.ann f k = some (i, o, cl, some m, z) → ∀ b, ¬ B b) : ∀ (code : Code) (k : Nat), okCode m c.shared code = true → ∀ {e : Env} {H : Heap} {x : Ex} {e' : Env} {H' : Heap},
    arun c f (iterN N) C k code e H = some (x, (e', H')) → ∀ {K : Kx} {p : Pl} {w : World} {a : Act} {Q : Exit → Act → World → Prop}, Inv K H p w → EnvR (kap K H p w) e.get a → a.tmps.size = n →
    (∀ a' w' p', Inv K H' p' w' → PKB B (kap K H p w) (kap K H' p' w') → EnvR (kap K H' p' w') e'.get a' → a'.tmps.size = n → a'.defers = a.defers → Q x.toExit a' w') → code.wp c.P Q a w := by
  intro code
  induction code with
  | skip =>
    intro k hok e H x e' H' h K p w a Q hI hE ha hn
    cases h
    exact wp_skip (hn a w p hI (PKB.refl _ _) hE ha rfl)
  | region id ops dr =>
    intro k hok e H x e' H' h K p w a Q hI hE ha hn
    simp only [arun] at h
    obtain ⟨s, hs, h⟩ := obind_eq h
    cases h
    simp only [okCode, Bool.and_eq_true, List.all_eq_true] at hok
    refine region_sound hC hm (fun hd => ?_) (n := n) (fun o ho i hi => ?_) hs hI hE ha fun a' w' p' i1 i2 i3 i4 i5 => hn a' w' p' i1 (i2.toB B) (pruneA_sound i3) i4 i5
    · have := hok.2
      simpa [hd] using this
    · have := hok.1 o ho
      rw [hi] at this
      have h2 : i < m := by simpa using this
      exact Nat.lt_of_lt_of_le h2 hmn
  | seq u v ihu ihv =>
    intro k hok e H x e' H' h K p w a Q hI hE ha hn
    simp only [arun] at h
    simp only [okCode, Bool.and_eq_true] at hok
    obtain ⟨⟨x1, e1, H1⟩, hs, h⟩ := obind_eq h
    refine wp_seq (ihu k hok.1 hs hI hE ha fun a' w' p' i1 i2 i3 i4 i5 => ?_)
    cases x1 with
    | normal =>
      exact ihv k hok.2 h i1 i3 i4 fun a2 w2 p2 j1 j2 j3 j4 j5 => hn a2 w2 p2 j1 (i2.trans j2) j3 j4 (by rw [j5, i5])
    | exit id => cases h; exact hn a' w' p' i1 i2 i3 i4 i5
    | ret => cases h; exact hn a' w' p' i1 i2 i3 i4 i5
  | cond o u v ihu ihv =>
    intro k hok e H x e' H' h K p w a Q hI hE ha hn
    simp only [arun, acond] at h
    simp only [okCode, Bool.and_eq_true] at hok
    split at h
    · rename_i t ht
      have hv := (aev_sound hE ht).v_eq
      refine wp_cond hv ?_
      cases t with
      | true => exact ihu k hok.1 h hI hE ha hn
      | false => exact ihv k hok.2 h hI hE ha hn
    · cases h
  | block id u ihu =>
    intro k hok e H x e' H' h K p w a Q hI hE ha hn
    simp only [arun, blockA] at h
    simp only [okCode] at hok
    obtain ⟨⟨x1, e1, H1⟩, hs, h⟩ := obind_eq h
    have tail : ∀ {K : Kx} {p : Pl} {w : World} {a : Act} {s : St}, Inv K H1 p w → EnvR (kap K H1 p w) e1.get a → tailA (c.ann f id) e1 H1 = some s →
        Inv K s.2 p w ∧ PK (kap K H1 p w) (kap K s.2 p w) ∧ EnvR (kap K s.2 p w) s.1.get a := by
      intro K p w a s hI hE hs
      unfold tailA at hs
      split at hs
      · cases hs; exact ⟨hI, PK.refl _, hE⟩
      · exact closeSlots_sound _ hI hs (hE.sub fun t x => Env.get_keep)
    refine wp_block (ihu id hok hs hI hE ha fun a' w' p' i1 i2 i3 i4 i5 => ?_)
    cases x1 with
    | normal =>
      obtain ⟨s, hs, h⟩ := obind_eq h
      cases h
      obtain ⟨t1, t2, t3⟩ := tail i1 i3 hs
      exact hn a' w' p' t1 (i2.trans (t2.toB B)) t3 i4 i5
    | exit j =>
      simp only at h
      split at h
      · rename_i hj
        obtain ⟨s, hs, h⟩ := obind_eq h
        cases h
        obtain ⟨t1, t2, t3⟩ := tail i1 i3 hs
        simp only [Ex.toExit, Exit.inBlock, hj, if_true]
        exact hn a' w' p' t1 (i2.trans (t2.toB B)) t3 i4 i5
      · rename_i hj
        cases h
        simp only [Ex.toExit, Exit.inBlock, hj, if_false]
        exact hn a' w' p' i1 i2 i3 i4 i5
    | ret => cases h; exact hn a' w' p' i1 i2 i3 i4 i5
  | loop u ihu =>
    intro k hok e H x e' H' h K p w a Q hI hE ha hn
    simp only [arun] at h
    simp only [okCode] at hok
    obtain ⟨s0, hh, h⟩ := obind_eq h
    obtain ⟨p0, k1, k2, k3⟩ := headA_sound hI (fun i o cl m z hm => hB k i o cl m z hm) hh hE
    refine wp_loop_rounds N ?_
    have key : ∀ (M : Nat) {s : St} {p : Pl} {w : World} {a : Act}, iterN M (fun s => obind (arun c f (iterN N) C k u s.1 s.2) (endA (c.ann f k))) s = some (x, (e', H')) → Inv K s.2 p w → EnvR (kap K s.2 p w) s.1.get a → a.tmps.size = n →
        (∀ a' w' p', Inv K H' p' w' → PKB B (kap K s.2 p w) (kap K H' p' w') → EnvR (kap K H' p' w') e'.get a' → a'.tmps.size = n → a'.defers = a.defers → Q x.toExit a' w') → Code.rounds c.P u Q M a w := by
      intro M
      induction M with
      | zero => intro s p w a h; cases h
      | succ M ih =>
        intro s p w a h hI hE ha hn
        rw [rounds_succ]
        unfold iterN at h
        obtain ⟨⟨x1, e1, H1⟩, hs, h⟩ := obind_eq h
        obtain ⟨⟨x2, e2, H2⟩, hs, he⟩ := obind_eq hs
        refine ihu k hok hs hI hE ha fun a' w' p' i1 i2 i3 i4 i5 => ?_
        cases x2 with
        | normal =>
          obtain ⟨s', hh', he⟩ := obind_eq he
          cases he
          obtain ⟨p1, q1, q2, q3⟩ := headA_sound i1 (fun i o cl m z hm => hB k i o cl m z hm) hh' i3
          exact ih h q1 q3 i4 fun a2 w2 p2 j1 j2 j3 j4 j5 => hn a2 w2 p2 j1 ((i2.trans q2).trans j2) j3 j4 (by rw [j5, i5])
        | exit id => cases he; cases h; exact hn a' w' p' i1 i2 i3 i4 i5
        | ret => cases he; cases h; exact hn a' w' p' i1 i2 i3 i4 i5
    exact key N h k1 k3 ha fun a' w' p' i1 i2 i3 i4 i5 => hn a' w' p' i1 (k2.trans i2) i3 i4 i5
  | exit id =>
    intro k hok e H x e' H' h K p w a Q hI hE ha hn
    cases h
    exact wp_exit (hn a w p hI (PKB.refl _ _) (exitA_sound hE) ha rfl)
  | label l =>
    intro k hok e H x e' H' h K p w a Q hI hE ha hn
    cases h
    exact wp_label (hn a w p hI (PKB.refl _ _) hE ha rfl)
  | ret =>
    intro k hok e H x e' H' h K p w a Q hI hE ha hn
    cases h
    exact wp_ret (hn a w p hI (PKB.refl _ _) (exitA_sound hE) ha rfl)
  | _ =>
    intro k hok e H x e' H' h
    cases h

/-! ### Functions -/
def resVal (tmps : Array Value) (r : ResultVar) : Sem Value := match r with
  | .tmp t => pure (tmps.getD t undef)
  | .cell q t => do loadVar t (← asAddr (tmps.getD q undef))
theorem resA_sound {P : Program} {K : Kx} {H : Heap} {p : Pl} {w : World} {g : G} {a : Act} (hI : Inv K H p w) (hE : EnvR (kap K H p w) g a) : ∀ {rs : List ResultVar} {xs : List AV}, resA P H g rs = some xs →
    ∃ us : List Value, VRs (kap K H p w) xs us ∧ (rs.mapM (resVal a.tmps)).run P w = .ok us w
  | [], xs, h => by cases h; exact ⟨[], .nil, by simp⟩
  | .tmp t :: r, xs, h => by
    obtain ⟨x, hx, h⟩ := obind_eq h
    obtain ⟨ys, hy, h⟩ := obind_eq h
    cases h
    obtain ⟨us, h1, h2⟩ := resA_sound hI hE hy
    refine ⟨_ :: us, .cons (hE t x hx) h1, ?_⟩
    simp [List.mapM_cons, resVal, h2]
  | .cell q t :: r, xs, h => by
    obtain ⟨pv, hp, h⟩ := obind_eq h
    obtain ⟨x, hx, h⟩ := obind_eq h
    obtain ⟨ys, hy, h⟩ := obind_eq h
    cases h
    obtain ⟨us, h1, h2⟩ := resA_sound hI hE hy
    obtain ⟨⟨cs, off⟩, g1, g2⟩ := obind_eq hx
    obtain ⟨b, o, vs, g3, g4, g5, g6⟩ := cellsAt_sound hI g1 (hE q pv hp)
    obtain ⟨y, hy', _, hl⟩ := partA_sound g2 g3 g5
    refine ⟨y :: us, .cons hy' h1, ?_⟩
    have : (resVal a.tmps (.cell q t)).run P w = .ok y w := by
      simp only [resVal, g6, asAddr, Sem.run_bind, Sem.run_pure, Result.andThen_ok]
      exact hl w b o g4
    simp [List.mapM_cons, this, h2]
theorem results_sound {P : Program} {K : Kx} {H : Heap} {p : Pl} {w : World} {g : G} {a : Act} {fn : Func} (hI : Inv K H p w) (hE : EnvR (kap K H p w) g a) {xs : List AV} (h : resA P H g fn.results.toList = some xs) :
    ∃ u, VR (kap K H p w) (tupA xs) u ∧ (results fn a.tmps).run P w = .ok u w := by
  obtain ⟨us, h1, h2⟩ := resA_sound hI hE h
  have h3 : (fn.results.mapM (resVal a.tmps)).run P w = .ok us.toArray w := by
    rw [Array.mapM_eq_mapM_toList]
    simp [h2]
  have h4 : (results fn a.tmps).run P w = .ok (if h : us.toArray.size = 1 then us.toArray[0] else .tuple us.toArray) w := by
    have : results fn a.tmps = (do
      let vs ← fn.results.mapM (resVal a.tmps)
      pure (if h : vs.size = 1 then vs[0] else .tuple vs)) := by
      unfold results
      congr 2
    rw [this]
    simp [h3]
  rw [h4]
  refine ⟨_, ?_, rfl⟩
  cases xs with
  | nil =>
    rw [h1.nil_eq]
    simp only [tupA, VR]
    exact ⟨[], by simp, .nil⟩
  | cons x r =>
    obtain ⟨u, s, rfl, hu, hr⟩ := h1.uncons
    cases r with
    | nil =>
      rw [hr.nil_eq]
      simpa [tupA] using hu
    | cons y r =>
      obtain ⟨v, s', rfl, hv, hr'⟩ := hr.uncons
      have : tupA (x :: y :: r) = .tu (x :: y :: r) := rfl
      rw [this]
      simp only [VR]
      exact ⟨u :: v :: s', by simp, h1⟩
theorem ofList_get : ∀ (xs : List AV) (k t : Nat) (x : AV), (Env.ofList k xs).get t = some x → k ≤ t ∧ xs[t - k]? = some x
  | [], k, t, x, h => by cases h
  | y :: r, k, t, x, h => by
    simp only [Env.ofList, Env.get] at h
    split at h
    · rename_i hk
      subst hk
      cases h
      exact ⟨Nat.le_refl _, by simp⟩
    · rename_i hk
      obtain ⟨h1, h2⟩ := ofList_get r (k + 1) t x h
      refine ⟨by omega, ?_⟩
      have : t - k = (t - (k + 1)) + 1 := by omega
      rw [this]
      simpa using h2
def okFn (sh : FuncId → Bool) (fn : Func) : Bool := (match fn.body with | some code => okCode fn.ntmps sh code | none => true) && !(fn.name == "runtime.NumGoroutine")
/-- What is asked of a configuration: the model takes mixed orders; the functions that are walked are sound in their text; the overrides tell the truth. -/
structure Fit (c : Cfg) : Prop where
  mixed : c.P.follows .mixedOrders = true
  text : ∀ (f : FuncId) (fn : Func), c.ov f = none → c.P.funcs[f]? = some fn → okFn c.shared fn = true
  cut : ∀ f, c.shared f = true → ∀ k i o cl m z, c.ann f k ≠ some (i, o, cl, some m, z)
  over : ∀ f g, c.ov f = some g → ∀ args H r H', g args H = some (r, H') → CallOk c f args H r H'
theorem body_sound {c : Cfg} {C : Cl} {f : FuncId} {N : Nat} {B : Nat → Prop} (hF : Fit c) (hC : SoundC c C) (ho : c.ov f = none) (hB : ∀ k i o cl m z, c.ann f k = some (i, o, cl, some m, z) → ∀ b, ¬ B b)
    {args : List AV} {H H' : Heap} {r : AV} (h : bodyA c (iterN N) C f args H = some (r, H')) : Entry c.P f ∧ ∀ (K : Kx) (p : Pl) (w : World) (cargs : List Value), Inv K H p w → VRs (kap K H p w) args cargs →
    Calls c.P f cargs.toArray w fun e w' => ∃ u p', e = .returned u ∧ Inv K H' p' w' ∧ PKB B (kap K H p w) (kap K H' p' w') ∧ VR (kap K H' p' w') r u := by
  unfold bodyA at h
  split at h
  · rename_i fn hfn
    split at h
    · rename_i code hb
      obtain ⟨⟨x, e', H1⟩, hr, h⟩ := obind_eq h
      have hok := hF.text f fn ho hfn
      simp only [okFn, hb, Bool.and_eq_true, Bool.not_eq_true'] at hok
      refine ⟨⟨fn, hfn, by rw [hb]; rfl, hok.2⟩, fun K p w cargs hI hv => ?_⟩
      have post : ∀ a' w' p', Inv K H1 p' w' → PKB B (kap K H p w) (kap K H1 p' w') → EnvR (kap K H1 p' w') e'.get a' → a'.tmps.size = (cargs.toArray ++ Array.replicate (fn.ntmps - cargs.toArray.size) undef).size → a'.defers = [] →
          bodyPost c.P fn (fun e w' => ∃ u p', e = .returned u ∧ Inv K H' p' w' ∧ PKB B (kap K H p w) (kap K H' p' w') ∧ VR (kap K H' p' w') r u) x.toExit a' w' := by
        intro a' w' p' i1 i2 i3 i4 i5
        cases x with
        | exit id => cases h
        | normal =>
          obtain ⟨xs, hxs, h⟩ := obind_eq h
          cases h
          obtain ⟨u, hu, hrun⟩ := results_sound i1 i3 hxs
          exact ⟨i5, u, hrun, u, p', rfl, i1, i2, hu⟩
        | ret =>
          obtain ⟨xs, hxs, h⟩ := obind_eq h
          cases h
          obtain ⟨u, hu, hrun⟩ := results_sound i1 i3 hxs
          exact ⟨i5, u, hrun, u, p', rfl, i1, i2, hu⟩
      refine calls_of_wp hfn hb ?_
      refine arun_sound (n := (cargs.toArray ++ Array.replicate (fn.ntmps - cargs.toArray.size) undef).size) hC hF.mixed (by simp; omega) hB code 0 hok.1 hr hI ?_ rfl fun a' w' p' i1 i2 i3 i4 i5 => post a' w' p' i1 i2 i3 i4 i5
      intro t x ht
      obtain ⟨_, h2⟩ := ofList_get args 0 t x ht
      obtain ⟨u, hu, hvu⟩ := hv.get _ _ h2
      have hlt : t < cargs.length := by
        have := (List.getElem?_eq_some_iff.1 hu).1
        simpa using this
      have : (cargs.toArray ++ Array.replicate (fn.ntmps - cargs.toArray.size) undef).getD t undef = u := by
        simp only [Nat.sub_zero] at hu
        rw [Array.getD_eq_getD_getElem?, Array.getElem?_append_left (by simpa using hlt)]
        simp [hu]
      show VR _ x ((cargs.toArray ++ Array.replicate (fn.ntmps - cargs.toArray.size) undef).getD t undef)
      rw [this]; exact hvu
    · cases h
  · cases h
theorem mapC_good {f : AV → Option (AV × List Nat)} (hf : ∀ x y bs, f x = some (y, bs) → y.good = true) : ∀ (l ys : List AV) (bs : List Nat), mapC f l = some (ys, bs) → goodL ys = true
  | [], ys, bs, h => by cases h; rfl
  | x :: r, ys, bs, h => by
    obtain ⟨⟨y, b1⟩, h1, h⟩ := obind_eq h
    obtain ⟨⟨zs, b2⟩, h2, h⟩ := obind_eq h
    cases h
    simp only [goodL, hf _ _ _ h1, mapC_good hf _ _ _ h2, Bool.and_self]
theorem closeA_good (H : Heap) : ∀ (k : Nat) (x y : AV) (bs : List Nat), closeA k H x = some (y, bs) → y.good = true
  | 0, x, y, bs, h => by cases h
  | k + 1, x, y, bs, h => by
    have ih := closeA_good H k
    unfold closeA at h
    split at h
    · rename_i hg; cases h; exact hg
    · split at h
      · cases h; rfl
      · obtain ⟨⟨ys, bs'⟩, h1, h⟩ := obind_eq h
        cases h
        exact mapC_good ih _ _ _ h1
      · obtain ⟨⟨ys, bs'⟩, h1, h⟩ := obind_eq h
        cases h
        exact mapC_good ih _ _ _ h1
      · split at h
        · split at h
          · split at h
            · obtain ⟨⟨ys, bs'⟩, h1, h⟩ := obind_eq h
              cases h
              rfl
            · cases h
          · cases h
        · cases h
      · split at h
        · split at h
          · obtain ⟨⟨ys, bs'⟩, h1, h⟩ := obind_eq h
            cases h
            rfl
          · cases h
        · cases h
      · cases h
theorem step_ok {c : Cfg} {C : Cl} {N : Nat} (hF : Fit c) (hC : SoundC c C) : SoundC c (stepA c (iterN N) C) := by
  intro f args H r H' h
  unfold stepA at h
  split at h
  · rename_i g hg
    exact hF.over f g hg args H r H' h
  · rename_i ho
    split at h
    · rename_i hs
      obtain ⟨h1, h2⟩ := body_sound (B := fun _ => True) hF hC ho (fun k i o cl m z hm => absurd hm (hF.cut f hs k i o cl m z)) h
      refine ⟨h1, (fun hs' => by rw [hs] at hs'; cases hs'), fun K p w cargs hI hv => (h2 K p w cargs hI hv).mono fun e w' ⟨u, p', e1, e2, e3, e4⟩ => ⟨u, p', e1, e2, e3.toPK fun _ => trivial, e4⟩⟩
    · rename_i hs
      split at h
      · obtain ⟨⟨r1, H1⟩, hr, h⟩ := obind_eq h
        obtain ⟨⟨y, bs⟩, hq, h⟩ := obind_eq h
        cases h
        obtain ⟨h1, h2⟩ := body_sound (B := fun _ => False) hF hC ho (fun _ _ _ _ _ _ _ _ => id) hr
        refine ⟨h1, fun _ => ?_, fun K p w cargs hI hv => ?_⟩
        · exact closeA_good H1 depthA r1 _ _ hq
        · refine (h2 K p w cargs hI hv).mono fun e w' ⟨u, p', e1, e2, e3, e4⟩ => ?_
          obtain ⟨c1, c2, c3, c4⟩ := closeA_sound e2 depthA r1 y bs u hq e4
          refine ⟨u, fun _ => none, e1, noP_inv e2.fsz e2.ext, ⟨e3.cell, fun b hb => ?_, e3.size, e3.row, fun b v x hp => ?_⟩, ?_⟩
          · rcases hb with hb | ⟨i, x, v, o, q1, _⟩
            · exact .inl (.inl hb)
            · simp at q1
          · have := hI.dom b (by simp)
            have hp' : p b = some (v, x) := hp
            rw [this] at hp'; cases hp'
          · refine c4 _ rfl fun rb hA => ?_
            rcases hA with hA | ⟨i, x, v, o, q1, _⟩
            · refine ⟨.inl hA, fun b hb v o hp => ?_⟩
              obtain ⟨l, vv, cs, hc⟩ := c3 b hb
              exact e2.dis b v o rb (List.getElem?_eq_some_iff.1 hc).1 hp hA
            · simp at q1
      · cases h
theorem acallN_sound {c : Cfg} (hF : Fit c) : ∀ n, SoundC c (acallN c n)
  | 0 => fun f args H r H' h => by cases h
  | n + 1 => step_ok hF (acallN_sound hF n)
end Go.AI
