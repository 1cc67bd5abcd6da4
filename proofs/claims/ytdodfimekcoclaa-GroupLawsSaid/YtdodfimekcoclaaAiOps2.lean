/- The abstract interpreter: comparisons, conversions, parts, literals, addresses. No conditions. -/
import Derived.Test.YtdodfimekcoclaaAiClose
set_option linter.unusedVariables false
namespace Go.AI
section
variable {P : Program} {κ : Kap}

/-! ### Two-place operations -/
theorem eqGuard_plain {op : BinOp} {t : TypeId} {X Y : Operand} {u v : Value} (h : u ≠ .nilIface) (h' : ∀ cs, u ≠ .agg cs) (w : World) : (eqGuard op t X Y u v).run P w = .ok () w := by
  unfold eqGuard
  cases op <;> first | rfl | skip
  all_goals
    cases u <;> first
      | (exact absurd rfl h)
      | (exact absurd rfl (h' _))
      | (cases v <;> rfl)
theorem cells_of_arr {e : TypeId} {k : TypeDesc} (he : basicT P e = some k) : ∃ d, P.underlying e = some d := by
  unfold basicT at he
  cases h : P.underlying e with
  | none => rw [h] at he; cases he
  | some d => exact ⟨d, rfl⟩
theorem run_kindsF {w : World} {xs ys : Array Value} : ∀ (fs : List Field) (i : Nat) (ks : List TypeDesc) (as bs : List AV) (b : Bool), kindsF P i fs = some ks → cellsEq ks as bs = some b →
    VRs κ as (xs.toList.drop i) → VRs κ bs (ys.toList.drop i) → (Op.eqFields 9999 xs ys fs).run P w = .ok b w
  | [], i, ks, as, bs, b, hk, h, h1, h2 => by
    cases hk
    cases as <;> cases bs <;> simp [cellsEq] at h
    subst h
    rfl
  | f :: fs, i, ks, as, bs, b, hk, h, h1, h2 => by
    unfold kindsF at hk
    split at hk
    · rename_i hc
      obtain ⟨rfl, hn⟩ := hc
      obtain ⟨kd, hkd, hk⟩ := obind_eq hk
      obtain ⟨ks', hks, hk⟩ := obind_eq hk
      cases hk
      cases as with
      | nil => simp [cellsEq] at h
      | cons x r =>
        cases bs with
        | nil => simp [cellsEq] at h
        | cons y s =>
          simp only [cellsEq] at h
          obtain ⟨b1, hb1, h⟩ := obind_eq h
          obtain ⟨b2, hb2, h⟩ := obind_eq h
          cases h
          obtain ⟨u, us, e1, hu, hr⟩ := h1.uncons
          obtain ⟨v, vs, e2, hv, hs⟩ := h2.uncons
          have hxk : xs[f.offset]? = some u := by have := congrArg (·[0]?) e1; simpa using this
          have hyk : ys[f.offset]? = some v := by have := congrArg (·[0]?) e2; simpa using this
          have hd1 : xs.toList.drop (f.offset + 1) = us := by rw [← List.tail_drop, e1]; rfl
          have hd2 : ys.toList.drop (f.offset + 1) = vs := by rw [← List.tail_drop, e2]; rfl
          have ih := run_kindsF (w := w) (xs := xs) (ys := ys) fs (f.offset + 1) ks' r s b2 hks hb2 (by rw [hd1]; exact hr) (by rw [hd2]; exact hs)
          simp only [Op.eqFields, hn, ne_eq, not_false_eq_true, if_true, Sem.run_bind, basicT_part hkd xs _ u hxk, basicT_part hkd ys _ v hyk, Result.andThen_ok, run_cellEq hb1 hkd hu hv 9998]
          cases b1
          · simp
          · simpa using ih
    · cases hk
theorem run_eqArr2 (d : Nat) {m : Nat} (hm : m = d + 1) {t e : TypeId} {n : Nat} {kd : TypeDesc} (hq : P.underlying t = some (.array n e)) (hs : P.cellsOf e = 1) (hkd : basicT P e = some kd) {as bs : List AV} {b : Bool}
    (h : cellsEq (List.replicate n kd) as bs = some b) {us vs : List Value} (hu : VRs κ as us) (hv : VRs κ bs vs) (w : World) :
    (Op.equalIn (m + 1) t (.agg us.toArray) (.agg vs.toArray)).run P w = .ok b w := by
  obtain ⟨dd, hd⟩ := cells_of_arr hkd
  have := run_eqArr (κ := κ) hkd hs d us.toArray vs.toArray n 0 as bs b h (by simpa using hu) (by simpa using hv) w
  rw [← hm] at this
  simp only [Op.equalIn, Sem.run_bind, run_underlying hq, Result.andThen_ok, run_sizeOf hd, hs, Std.Legacy.Range.forIn_eq_forIn_range', Std.Legacy.Range.size, Nat.sub_zero, Nat.add_one_sub_one, Nat.div_one]
  rw [this]
  cases b <;> rfl
theorem run_eqPtr (d : Nat) {t e : TypeId} (ht : P.underlying t = some (.pointer e)) (a : Option Addr) (w : World) : (Op.equalIn (d + 1) t (.pointer a) (.pointer none)).run P w = .ok a.isNone w := by
  cases a <;> simp [Op.equalIn, run_underlying ht]
theorem run_kindsT {t : TypeId} {ks : List TypeDesc} (hk : kindsT P t = some ks) {as bs : List AV} {b : Bool} (h : cellsEq ks as bs = some b) {us vs : List Value} (hu : VRs κ as us) (hv : VRs κ bs vs) (w : World) :
    (Op.equal t (.agg us.toArray) (.agg vs.toArray)).run P w = .ok b w := by
  unfold kindsT at hk
  unfold Op.equal
  show (Op.equalIn (9999 + 1) t (.agg us.toArray) (.agg vs.toArray)).run P w = _
  split at hk
  · rename_i n e hq
    split at hk
    · rename_i hs
      obtain ⟨kd, hkd, hk⟩ := obind_eq hk
      cases hk
      exact run_eqArr2 9998 (m := 9999) rfl hq hs hkd h hu hv w
    · cases hk
  · rename_i fs hq
    split at hk
    · cases hk
    · rename_i hs
      rw [run_equalIn_struct w 9999 t us.toArray vs.toArray (by simp [Program.fieldsOf, hq]) (by simpa using hs)]
      have hf : P.fieldsOf t = fs := by simp [Program.fieldsOf, hq]
      rw [hf]
      exact run_kindsF fs.toList 0 ks as bs b hk h (by simpa using hu) (by simpa using hv)
  · cases hk
theorem run_aeq {t : TypeId} {x y : AV} {b : Bool} (h : aeq P t x y = some b) {u v : Value} (hu : VR κ x u) (hv : VR κ y v) (w : World) : (Op.equal t u v).run P w = .ok b w := by
  unfold aeq at h
  split at h
  · rename_i a c
    obtain ⟨ks, hk, h⟩ := obind_eq h
    simp only [VR] at hu hv
    obtain ⟨us, rfl, hu, _⟩ := hu
    obtain ⟨vs, rfl, hv, _⟩ := hv
    exact run_kindsT hk h hu hv w
  · obtain ⟨k, hk, h⟩ := obind_eq h
    unfold Op.equal
    exact run_cellEq h hk hu hv 9999

theorem isNilA_sound {t e : TypeId} {x : AV} {b : Bool} (h : isNilA x = some b) (ht : P.underlying t = some (.pointer e)) {u : Value} (hu : VR κ x u) (w : World) :
    (Op.equal t u (.pointer none)).run P w = .ok b w ∧ u ≠ .nilIface ∧ (∀ cs, u ≠ .agg cs) ∧ ∃ a, u = .pointer a := by
  unfold isNilA at h
  split at h
  · cases h
    cases hu.v_eq
    refine ⟨?_, by simp, by simp, _, rfl⟩
    exact run_eqPtr 9999 ht _ w
  · cases h
    simp only [VR] at hu
    obtain ⟨b, o, rfl, _⟩ := hu
    refine ⟨?_, by simp, by simp, _, rfl⟩
    exact run_eqPtr 9999 ht _ w
  · cases h
theorem binOp_eql_agg (t : TypeId) (a b : Array Value) (w : World) : (binOp .eql t (.agg a) (.agg b)).run P w = ((Op.equal t (.agg a) (.agg b)).run P w).andThen fun r w' => .ok (.bool r) w' := by
  simp only [binOp]; simp
theorem binOp_neq_agg (t : TypeId) (a b : Array Value) (w : World) : (binOp .neq t (.agg a) (.agg b)).run P w = ((Op.equal t (.agg a) (.agg b)).run P w).andThen fun r w' => .ok (.bool !r) w' := by
  simp only [binOp]; simp
theorem binOp_eql_ptr (t : TypeId) (a b : Option Addr) (w : World) : (binOp .eql t (.pointer a) (.pointer b)).run P w = ((Op.equal t (.pointer a) (.pointer b)).run P w).andThen fun r w' => .ok (.bool r) w' := by
  simp only [binOp]; simp
theorem binOp_neq_ptr (t : TypeId) (a b : Option Addr) (w : World) : (binOp .neq t (.pointer a) (.pointer b)).run P w = ((Op.equal t (.pointer a) (.pointer b)).run P w).andThen fun r w' => .ok (.bool !r) w' := by
  simp only [binOp]; simp
theorem abin_sound {op : BinOp} {t : TypeId} {x y z : AV} (h : abin P op t x y = some z) {u v : Value} (hu : VR κ x u) (hv : VR κ y v) (X Y : Operand) (w : World) :
    ∃ r, VR κ z r ∧ (do eqGuard op t X Y u v; binOp op t u v : Sem Value).run P w = .ok r w := by
  unfold abin at h
  split at h
  · rename_i k a k' b
    cases hu.v_eq; cases hv.v_eq
    have hg := eqGuard_plain (P := P) (op := op) (t := t) (X := X) (Y := Y) (u := .int k a) (v := .int k' b) (by simp) (by simp) w
    simp only [Sem.run_bind, hg, Result.andThen_ok]
    split at h
    · obtain ⟨r, hr, h⟩ := obind_eq h
      cases h
      obtain ⟨h1, h2⟩ := run_shift_eq (P := P) (w := w) (k' := k') hr
      exact ⟨r, VR_v h2, by simpa [binOp] using h1⟩
    · obtain ⟨r, hr, h⟩ := obind_eq h
      cases h
      obtain ⟨h1, h2⟩ := run_shift_eq (P := P) (w := w) (k' := k') hr
      exact ⟨r, VR_v h2, by simpa [binOp] using h1⟩
    · split at h
      · rename_i hk
        subst hk
        obtain ⟨r, hr, h⟩ := obind_eq h
        cases h
        obtain ⟨h1, h2⟩ := run_int_eq (P := P) (w := w) hr t
        exact ⟨r, VR_v h2, h1⟩
      · cases h
  · rename_i a b
    cases hu.v_eq; cases hv.v_eq
    have hg := eqGuard_plain (P := P) (op := op) (t := t) (X := X) (Y := Y) (u := .string a) (v := .string b) (by simp) (by simp) w
    simp only [Sem.run_bind, hg, Result.andThen_ok]
    obtain ⟨r, hr, h⟩ := obind_eq h
    cases h
    obtain ⟨h1, h2⟩ := run_str_eq (P := P) (w := w) hr t
    exact ⟨r, VR_v h2, h1⟩
  · rename_i a b
    cases hu.v_eq; cases hv.v_eq
    have hg := eqGuard_plain (P := P) (op := op) (t := t) (X := X) (Y := Y) (u := .bool a) (v := .bool b) (by simp) (by simp) w
    simp only [Sem.run_bind, hg, Result.andThen_ok]
    split at h
    · rename_i ht
      have he : (Op.equal t (.bool a) (.bool b)).run P w = .ok (a == b) w := by
        exact run_equalIn_bool' w 9999 t a b ht
      split at h
      · cases h
        exact ⟨_, VR_v rfl, by simp [binOp, he]⟩
      · cases h
        exact ⟨_, VR_v rfl, by simp [binOp, he]⟩
      · cases h
    · cases h
  · rename_i a b
    split at h
    · cases h
    · rename_i hg
      have hu' := hu; have hv' := hv
      simp only [VR] at hu hv
      obtain ⟨us, rfl, hu, _⟩ := hu
      obtain ⟨vs, rfl, hv, _⟩ := hv
      have hgd := run_eqGuard_agg (P := P) w op t X Y us.toArray vs.toArray (by simpa using hg)
      simp only [Sem.run_bind, hgd, Result.andThen_ok]
      split at h
      · obtain ⟨r, hr, h⟩ := obind_eq h
        cases h
        have he := run_aeq (P := P) hr hu' hv' w
        exact ⟨_, VR_v rfl, by rw [binOp_eql_agg, he]; rfl⟩
      · obtain ⟨r, hr, h⟩ := obind_eq h
        cases h
        have he := run_aeq (P := P) hr hu' hv' w
        exact ⟨_, VR_v rfl, by rw [binOp_neq_agg, he]; rfl⟩
      · cases h
  · cases hv.v_eq
    split at h
    · rename_i e ht
      split at h
      · obtain ⟨r, hr, h⟩ := obind_eq h
        cases h
        obtain ⟨h1, h2, h3, a, rfl⟩ := isNilA_sound (P := P) hr ht hu w
        have hgd := eqGuard_plain (P := P) (op := .eql) (t := t) (X := X) (Y := Y) (u := .pointer a) (v := .pointer none) h2 h3 w
        exact ⟨_, VR_v rfl, by simp only [Sem.run_bind, hgd, Result.andThen_ok]; rw [binOp_eql_ptr, h1]; rfl⟩
      · obtain ⟨r, hr, h⟩ := obind_eq h
        cases h
        obtain ⟨h1, h2, h3, a, rfl⟩ := isNilA_sound (P := P) hr ht hu w
        have hgd := eqGuard_plain (P := P) (op := .neq) (t := t) (X := X) (Y := Y) (u := .pointer a) (v := .pointer none) h2 h3 w
        exact ⟨_, VR_v rfl, by simp only [Sem.run_bind, hgd, Result.andThen_ok]; rw [binOp_neq_ptr, h1]; rfl⟩
      · cases h
    · cases h
  · cases h
theorem aun_sound {op : UnOp} {x z : AV} (h : aun op x = some z) {u : Value} (hu : VR κ x u) (w : World) : ∃ r, VR κ z r ∧ (Op.unary op u).run P w = .ok r w := by
  unfold aun at h
  split at h
  · cases h; cases hu.v_eq
    exact ⟨_, VR_v rfl, by simp [Op.unary, Op.intArith]⟩
  · obtain ⟨r, hr, h⟩ := obind_eq h
    cases h; cases hu.v_eq
    simp only [aint] at hr
    cases hr
    exact ⟨_, VR_v rfl, by simp [Op.unary, Op.intBits]⟩
  · cases h; cases hu.v_eq
    exact ⟨_, VR_v rfl, by simp [Op.unary]⟩
  · cases h
theorem aconv_sound {src dst : TypeId} {x z : AV} (h : aconv P src dst x = some z) {u : Value} (hu : VR κ x u) (w : World) : ∃ r, VR κ z r ∧ (convert src dst u).run P w = .ok r w := by
  unfold aconv at h
  split at h
  · rename_i d k k' n h1 h2
    cases h; cases hu.v_eq
    refine ⟨_, VR_v rfl, ?_⟩
    simp [convert, run_underlying h1, run_underlying h2, Conv.intToInt]
  · rename_i d s h1 h2
    cases h; cases hu.v_eq
    refine ⟨_, VR_v rfl, ?_⟩
    simp only [convert, Sem.run_bind, run_underlying h1, run_underlying h2, Result.andThen_ok]
    cases d <;> simp
  · cases h
end
end Go.AI
