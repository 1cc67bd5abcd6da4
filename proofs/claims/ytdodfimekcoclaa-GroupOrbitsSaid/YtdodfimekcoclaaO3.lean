/- Texts of one proof, joined: F29b, F30, F29c, POrb2, F7, F36, F36b, F36c, F13, AiLaw, F6, LawOrbits. Conditions: none of its own; each part names what it shows. -/
import Derived.ProofKit
import Derived.Test.YtdodfimekcoclaaRows
import Derived.Test.YtdodfimekcoclaaO2
/- group.Orbits: the rounds of the main loop. -/
set_option linter.unusedVariables false
set_option linter.unusedSimpArgs false
set_option linter.unusedSectionVars false
namespace Go.Proofs
open Go.AI
set_option maxRecDepth 20000
set_option maxHeartbeats 4000000
def gi (L : List (List Int)) (i : Nat) : List Int := L.getD i []
def cellsO (os : List (List Int)) (bf vf : Nat → Nat) : List AV := (List.range os.length).map fun c => .ms (bf c) (vf c) 0 (gi os c).length 1
theorem cellsO_length (os : List (List Int)) (bf vf : Nat → Nat) : (cellsO os bf vf).length = os.length := by simp [cellsO]
theorem cellsO_get {os : List (List Int)} {bf vf : Nat → Nat} {c : Nat} (h : c < os.length) : (cellsO os bf vf)[c]? = some (.ms (bf c) (vf c) 0 (gi os c).length 1) := by simp [cellsO, h]
/-- The heap of the main loop. -/
structure Orb (H : Heap) (v : Nat) (ps : List (List Int × Nat)) (os : List (List Int)) (bf vf : Nat → Nat) : Prop where
  out : H[2]? = some (.cells true v (cellsO os bf vf))
  mp : H[3]? = some (.map (ps.map mkE))
  blk : ∀ c, c < os.length → 4 ≤ bf c ∧ H[bf c]? = some (.cells true (vf c) ((gi os c).map I))
  inj : ∀ c c', c < os.length → c' < os.length → bf c = bf c' → c = c'
theorem Orb.size {H : Heap} {v : Nat} {ps : List (List Int × Nat)} {os : List (List Int)} {bf vf : Nat → Nat} (h : Orb H v ps os bf vf) : 4 ≤ H.length := by
  have := (List.getElem?_eq_some_iff.1 h.mp).1
  omega
def s29 (G : List (List Int)) (X : AV) (N v k sz i : Nat) (H : Heap) : St := ([(0, Iss G), (13, .ms 2 v 0 k sz), (14, .mm 3), (61, X), (62, I N), (63, I i)], H)
theorem gi_app {os : List (List Int)} {x : List Int} {c : Nat} (h : c < os.length) : gi (os ++ [x]) c = gi os c := by simp [gi, List.getElem?_append_left h]
theorem gi_last (os : List (List Int)) (x : List Int) : gi (os ++ [x]) os.length = x := by simp [gi]
theorem gi_set_self {os : List (List Int)} {x : List Int} {c : Nat} (h : c < os.length) : gi (os.set c x) c = x := by simp [gi, List.getElem?_set_self h]
theorem gi_set_ne {os : List (List Int)} {x : List Int} {c d : Nat} (h : c ≠ d) : gi (os.set c x) d = gi os d := by simp [gi, List.getElem?_set_ne h]
theorem cellsO_set {os : List (List Int)} {bf vf : Nat → Nat} {c w : Nat} {l : List Int} (hc : c < os.length) : (cellsO os bf vf).set c (.ms (bf c) w 0 l.length 1) = cellsO (os.set c l) bf (fun d => if d = c then w else vf d) := by
  apply List.ext_getElem?
  intro d
  by_cases e : d = c
  · subst e
    rw [List.getElem?_set_self (by rw [cellsO_length]; exact hc), cellsO_get (by simpa using hc), gi_set_self hc]
    simp
  · rw [List.getElem?_set_ne (Ne.symm e)]
    by_cases hd : d < os.length
    · rw [cellsO_get hd, cellsO_get (by simpa using hd), gi_set_ne (Ne.symm e)]
      simp [e]
    · rw [List.getElem?_eq_none (by rw [cellsO_length]; omega), List.getElem?_eq_none (by rw [cellsO_length, List.length_set]; omega)]
theorem cellsO_app {os : List (List Int)} {bf vf : Nat → Nat} {b w : Nat} {l : List Int} : cellsO os bf vf ++ [.ms b w 0 l.length 1] = cellsO (os ++ [l]) (fun d => if d = os.length then b else bf d) (fun d => if d = os.length then w else vf d) := by
  apply List.ext_getElem?
  intro d
  by_cases hd : d < os.length
  · rw [List.getElem?_append_left (by rw [cellsO_length]; exact hd), cellsO_get hd, cellsO_get (by simp; omega), gi_app hd]
    have e : ¬ d = os.length := by omega
    simp [e]
  · by_cases e : d = os.length
    · subst e
      rw [List.getElem?_append_right (by rw [cellsO_length]; omega), cellsO_length, cellsO_get (by simp), gi_last]
      simp
    · rw [List.getElem?_eq_none (by simp [cellsO_length]; omega), List.getElem?_eq_none (by simp [cellsO_length]; omega)]
section
variable {a : Code} (h : loopOf 4 Try.f29 = some a) {G L : List (List Int)} {n : Nat} (hG : GrpN G n) (hG' : G.length ≤ 1000) (hL : L.length ≤ 64) (hs : ∀ x ∈ L, x.length = n)
  {H : Heap} {v : Nat} {ps : List (List Int × Nat)} {os : List (List Int)} {bf vf : Nat → Nat} (hO : Orb H v ps os bf vf) (hps : ∀ p ∈ ps, p.1.length = n) {i : Nat} (hi : i < L.length) (hos : os.length ≤ i) (hls : ∀ x ∈ os, x.length ≤ 64)
include h hG hG' hL hs hO hps hi hos hls
theorem r29f {c : Nat} (hc : c < os.length) (hk : lkE ps (gt L i) = some c) : ∃ H' vf', roundA Try.cfg 29 iter (call Try.cfg) 4 a (s29 G (.sl false L.length (exC L L.length)) L.length v os.length 1 i H) = some (.normal, s29 G (.sl false L.length (exC L L.length)) L.length v os.length 1 (i + 1) H') ∧ Orb H' v ps (os.set c (gi os c ++ [(i : Int)])) bf vf' := by
  have hlen := hs _ (List.mem_of_getElem? (gt_some hi))
  have h6 := hG.n6
  have hsz := hO.size
  obtain ⟨b4, hb⟩ := hO.blk c hc
  have hbl := (List.getElem?_eq_some_iff.1 hb).1
  have hol := hls _ (List.mem_of_getElem? (show os[c]? = some (gi os c) by simp [gi, hc]))
  refine ⟨((H ++ [AB.cells true 0 ((ex6 (gt L i)).map J)]).set (bf c) (AB.cells true (vf c + 1) ((gi os c ++ [(i : Int)]).map I))).set 2 (AB.cells true v ((cellsO os bf vf).set c (.ms (bf c) (vf c + 1) 0 ((gi os c).length + 1) 1))), fun d => if d = c then vf c + 1 else vf d, ?_, ?_⟩
  · have e1 := exC_part L.length i hi (Nat.le_refl _)
    have e2 := exC_length L L.length (Nat.le_refl _)
    have e3 := ex6_length (gt L i)
    have e4 := findA_E h6 hlen hps
    rw [hk, Option.map_some] at e4
    have e5 := keyOk_E (x := gt L i) (by omega)
    have e6 := all_mapJ (ex6 (gt L i))
    have e7 : splice [.v (.int .i32 0), .v (.int .i32 0), .v (.int .i32 0), .v (.int .i32 0), .v (.int .i32 0), .v (.int .i32 0)] 0 ((ex6 (gt L i)).map J) = (ex6 (gt L i)).map J := splice_all rfl e3
    have e8 : ((ex6 (gt L i)).map J).take 6 = (ex6 (gt L i)).map J := List.take_of_length_le (by simp [e3])
    have e9 := hO.out
    have e10 := hO.mp
    have e11 := cellsO_get (bf := bf) (vf := vf) hc
    have e12 := cellsO_length os bf vf
    have e13 : (gi os c).map I ++ [I i] = (gi os c ++ [(i : Int)]).map I := by simp
    have e14 : ∀ x : List AV, splice (cellsO os bf vf) c [.ms (bf c) (vf c + 1) 0 ((gi os c).length + 1) 1] = (cellsO os bf vf).set c (.ms (bf c) (vf c + 1) 0 ((gi os c).length + 1) 1) := fun _ => rfl
    cases h
    simp only [splice, List.set_cons_zero, List.take_zero, List.nil_append, Nat.zero_add] at e7
    generalize cellsO os bf vf = O at *
    generalize gi os c = l at *
    generalize exC L L.length = cs at *
    generalize ex6 (gt L i) = E at *
    generalize bf c = b at *
    generalize vf c = w at *
    have m1 : (H ++ [AB.cells true 0 [.v (.int .i32 0), .v (.int .i32 0), .v (.int .i32 0), .v (.int .i32 0), .v (.int .i32 0), .v (.int .i32 0)]])[H.length]? = some (AB.cells true 0 [.v (.int .i32 0), .v (.int .i32 0), .v (.int .i32 0), .v (.int .i32 0), .v (.int .i32 0), .v (.int .i32 0)]) := by simp
    have m2 : (H ++ [AB.cells true 0 [.v (.int .i32 0), .v (.int .i32 0), .v (.int .i32 0), .v (.int .i32 0), .v (.int .i32 0), .v (.int .i32 0)]]).set H.length (AB.cells true 0 (E.map J)) = H ++ [AB.cells true 0 (E.map J)] := by simp
    have m3 : (H ++ [AB.cells true 0 (E.map J)])[H.length]? = some (AB.cells true 0 (E.map J)) := by simp
    have m4 : (H ++ [AB.cells true 0 (E.map J)])[3]? = some (.map (ps.map mkE)) := by rw [List.getElem?_append_left (by omega)]; exact e10
    have m5 : (H ++ [AB.cells true 0 (E.map J)])[2]? = some (.cells true v O) := by rw [List.getElem?_append_left (by omega)]; exact e9
    have m6 : (H ++ [AB.cells true 0 (E.map J)])[b]? = some (.cells true w (l.map I)) := by rw [List.getElem?_append_left (by omega)]; exact hb
    generalize H ++ [AB.cells true 0 (E.map J)] = H1 at *
    have m7 : ∀ y, (H1.set b y)[2]? = some (.cells true v O) := fun y => by rw [List.getElem?_set_ne (by omega)]; exact m5
    simp -implicitDefEqProofs (maxSteps := 1000000) (disch := omega) only [push_cast, ↓dstAt_zero, ↓dstAt_succ, ↓arun_skip, ↓arun_region, ↓arun_seq, ↓arun_cond, ↓arun_block, ↓arun_loop, ↓arun_exit, ↓arun_ret, aops_nil, aops_cons, aops_cons_guard, ↓putA_some, ↓putA_none, ↓aop_move, ↓aop_assign, ↓aop_pick, ↓aop_alloc, ↓aop_box, ↓aop_build, ↓aop_buildSlice, ↓aop_load, ↓aop_store, ↓aop_nilCheck, ↓aop_binOp, ↓aop_unOp, ↓aop_convert, ↓aop_makeSlice, ↓aop_fieldAddr, ↓aop_field, ↓aop_indexAddr, ↓aop_index, ↓aop_lookup, ↓aop_mapUpdate, ↓aop_insert, ↓aop_extract, ↓aop_callB, ↓aop_callF, ↓aop_callT, ↓aop_makeFunc, ↓aop_makeMap, ↓aop_slice, ↓aevs_nil, ↓aevs_cons, ↓evP_nil, ↓evP_cons, ↓aevO_none, ↓aevO_some, ↓reduceIte, reduceCtorEq, Nat.reduceEqDiff, Nat.reduceAdd, Nat.reduceLT, Nat.reduceSub, Nat.reduceMul, Nat.reduceLeDiff, if_true, if_false, if_pos, if_neg, s29, Iss, e1, e2, e3, e4, e5, e6, e7, e8, e11, e12, e13, e14, m1, m2, m3, m4, m5, m6, m7, lookupA]
    try rfl
  · have hl : ∀ x, (H ++ [AB.cells true 0 x]).length = H.length + 1 := fun x => by simp
    refine ⟨?_, ?_, fun d hd => ?_, fun d d' hd hd' => ?_⟩
    · rw [List.getElem?_set_self (by rw [List.length_set, hl]; omega)]
      rw [← cellsO_set (l := gi os c ++ [(i : Int)]) hc]
      simp
    · rw [List.getElem?_set_ne (by omega), List.getElem?_set_ne (by omega), List.getElem?_append_left (by omega)]
      exact hO.mp
    · rw [List.length_set] at hd
      obtain ⟨d4, hdb⟩ := hO.blk d hd
      have hdl := (List.getElem?_eq_some_iff.1 hdb).1
      refine ⟨d4, ?_⟩
      rw [List.getElem?_set_ne (by omega)]
      by_cases e : d = c
      · subst e
        rw [List.getElem?_set_self (by rw [hl]; omega), gi_set_self hd]
        simp
      · have hne : bf c ≠ bf d := fun e' => e (hO.inj d c hd hc e'.symm)
        rw [List.getElem?_set_ne hne, List.getElem?_append_left hdl, hdb, gi_set_ne (Ne.symm e)]
        simp [e]
    · rw [List.length_set] at hd hd'
      exact hO.inj d d' hd hd'
/-- The first of an orbit. -/
theorem r29n {sz : Nat} (hsz : sz = 1 ∨ sz = 0 ∧ os.length = 0) (hk : lkE ps (gt L i) = none) : ∃ H' v' bf' vf', roundA Try.cfg 29 iter (call Try.cfg) 4 a (s29 G (.sl false L.length (exC L L.length)) L.length v os.length sz i H) = some (.normal, s29 G (.sl false L.length (exC L L.length)) L.length v' (os.length + 1) 1 (i + 1) H') ∧ Orb H' v' (upG G (gt L i) os.length ps G.length) (os ++ [[(i : Int)]]) bf' vf' := by
  have hlen := hs _ (List.mem_of_getElem? (gt_some hi))
  have h6 := hG.n6
  have hsz' := hO.size
  cases h2 : loopOf 6 Try.f29 with
  | none => cases h2
  | some a2 =>
  have e0 : 2 < H.length := by omega
  refine ⟨(((((H ++ [AB.cells true 0 ((ex6 (gt L i)).map J)]) ++ [AB.cells true 0 [AV.sl true 0 []]]).set 2 (AB.cells true (v + 1) (cellsO os bf vf ++ [AV.sl true 0 []]))).set 3 (AB.map ((upG G (gt L i) os.length ps G.length).map mkE))) ++ [AB.cells true 0 ([(i : Int)].map I)]).set 2 (AB.cells true (v + 1) (cellsO os bf vf ++ [.ms (H.length + 2) 0 0 1 1])), v + 1, fun d => if d = os.length then H.length + 2 else bf d, fun d => if d = os.length then 0 else vf d, ?_, ?_⟩
  · have e1 := exC_part L.length i hi (Nat.le_refl _)
    have e2 := exC_length L L.length (Nat.le_refl _)
    have e3 := ex6_length (gt L i)
    have e4 := findA_E h6 hlen hps
    rw [hk, Option.map_none] at e4
    have e5 := keyOk_E (x := gt L i) (by omega)
    have e6 := all_mapJ (ex6 (gt L i))
    have e7 : splice [.v (.int .i32 0), .v (.int .i32 0), .v (.int .i32 0), .v (.int .i32 0), .v (.int .i32 0), .v (.int .i32 0)] 0 ((ex6 (gt L i)).map J) = (ex6 (gt L i)).map J := splice_all rfl e3
    have e8 : ((ex6 (gt L i)).map J).take 6 = (ex6 (gt L i)).map J := List.take_of_length_le (by simp [e3])
    have e9 := hO.out
    have e10 := hO.mp
    have e12 := cellsO_length os bf vf
    have e15 : (cellsO os bf vf).take (os.length * sz) = cellsO os bf vf := by
      rcases hsz with rfl | ⟨rfl, h0⟩
      · exact List.take_of_length_le (by omega)
      · rw [h0] at e12
        rw [List.length_eq_zero_iff.1 e12]; simp
    have e16 : os.length * sz ≤ (cellsO os bf vf).length := by
      rcases hsz with rfl | ⟨rfl, h0⟩ <;> omega
    have e17 : sz = 0 ∨ sz = 1 := by omega
    have e18 : (cellsO os bf vf ++ [AV.sl true 0 []])[os.length]? = some (.sl true 0 []) := by
      rw [List.getElem?_append_right (by omega), e12]; simp
    have e19 : (cellsO os bf vf ++ [AV.sl true 0 []]).set os.length (.ms (H.length + 2) 0 0 1 1) = cellsO os bf vf ++ [.ms (H.length + 2) 0 0 1 1] := by
      rw [List.set_append_right _ _ (by omega), e12]; simp
    have hl2 := fun (o X : AV) (N : Nat) (H0 : Heap) (hb : H0[H.length]? = some (.cells true 0 ((ex6 (gt L i)).map J))) (h3 : 3 < H0.length) (hm : H0[3]? = some (.map (ps.map mkE))) => l29i (o := o) (X := X) (i := i) (N := N) (c := os.length) h2 hG hG' hlen hps hb (by omega) h3 hm
    cases h
    cases h2
    simp only [splice, List.set_cons_zero, List.take_zero, List.nil_append, Nat.zero_add] at e7
    simp only [s29i, Iss, Int.natCast_zero] at hl2
    generalize cellsO os bf vf = O at *
    generalize exC L L.length = cs at *
    generalize upG G (gt L i) os.length ps G.length = ps' at *
    generalize ex6 (gt L i) = E at *
    have m1 : (H ++ [AB.cells true 0 [.v (.int .i32 0), .v (.int .i32 0), .v (.int .i32 0), .v (.int .i32 0), .v (.int .i32 0), .v (.int .i32 0)]])[H.length]? = some (AB.cells true 0 [.v (.int .i32 0), .v (.int .i32 0), .v (.int .i32 0), .v (.int .i32 0), .v (.int .i32 0), .v (.int .i32 0)]) := by simp
    have m2 : (H ++ [AB.cells true 0 [.v (.int .i32 0), .v (.int .i32 0), .v (.int .i32 0), .v (.int .i32 0), .v (.int .i32 0), .v (.int .i32 0)]]).set H.length (AB.cells true 0 (E.map J)) = H ++ [AB.cells true 0 (E.map J)] := by simp
    have m3 : (H ++ [AB.cells true 0 (E.map J)])[H.length]? = some (AB.cells true 0 (E.map J)) := by simp
    have m4 : (H ++ [AB.cells true 0 (E.map J)])[3]? = some (.map (ps.map mkE)) := by rw [List.getElem?_append_left (by omega)]; exact e10
    have m5 : (H ++ [AB.cells true 0 (E.map J)])[2]? = some (.cells true v O) := by rw [List.getElem?_append_left (by omega)]; exact e9
    have m6 : (H ++ [AB.cells true 0 (E.map J)]).length = H.length + 1 := by simp
    generalize H ++ [AB.cells true 0 (E.map J)] = H1 at *
    have n1 : (H1 ++ [AB.cells true 0 [.sl true 0 []]])[H.length + 1]? = some (AB.cells true 0 [.sl true 0 []]) := by rw [← m6]; simp
    have n2 : (H1 ++ [AB.cells true 0 [.sl true 0 []]])[2]? = some (.cells true v O) := by rw [List.getElem?_append_left (by omega)]; exact m5
    have n3 : (H1 ++ [AB.cells true 0 [.sl true 0 []]])[3]? = some (.map (ps.map mkE)) := by rw [List.getElem?_append_left (by omega)]; exact m4
    have n4 : (H1 ++ [AB.cells true 0 [.sl true 0 []]])[H.length]? = some (AB.cells true 0 (E.map J)) := by rw [List.getElem?_append_left (by omega)]; exact m3
    have n5 : (H1 ++ [AB.cells true 0 [.sl true 0 []]]).length = H.length + 2 := by simp [m6]
    generalize hh2 : H1 ++ [AB.cells true 0 [.sl true 0 []]] = H2 at *
    have o1 : (H2.set 2 (.cells true (v + 1) (O ++ [AV.sl true 0 []])))[3]? = some (.map (ps.map mkE)) := by rw [List.getElem?_set_ne (by omega)]; exact n3
    have o2 : (H2.set 2 (.cells true (v + 1) (O ++ [AV.sl true 0 []])))[H.length]? = some (AB.cells true 0 (E.map J)) := by rw [List.getElem?_set_ne (by omega)]; exact n4
    have o3 : (H2.set 2 (.cells true (v + 1) (O ++ [AV.sl true 0 []])))[2]? = some (.cells true (v + 1) (O ++ [AV.sl true 0 []])) := List.getElem?_set_self (by omega)
    have o4 : (H2.set 2 (.cells true (v + 1) (O ++ [AV.sl true 0 []]))).length = H.length + 2 := by simp [n5]
    generalize hh3 : H2.set 2 (.cells true (v + 1) (O ++ [AV.sl true 0 []])) = H3 at *
    have p1 := fun (o X : AV) (N : Nat) => hl2 o X N H3 o2 (by omega) o1
    have p2 : (H3.set 3 (.map (ps'.map mkE)))[2]? = some (.cells true (v + 1) (O ++ [AV.sl true 0 []])) := by rw [List.getElem?_set_ne (by omega)]; exact o3
    have p3 : (H3.set 3 (.map (ps'.map mkE))).length = H.length + 2 := by simp [o4]
    generalize H3.set 3 (.map (ps'.map mkE)) = H4 at *
    have q1 : ∀ y, (H4 ++ [y])[2]? = some (.cells true (v + 1) (O ++ [AV.sl true 0 []])) := fun y => by rw [List.getElem?_append_left (by omega)]; exact p2
    have e20 : O ++ List.map (fun a : AV => a) [] = O := by simp
    simp -implicitDefEqProofs (maxSteps := 1000000) (disch := omega) only [push_cast, ↓dstAt_zero, ↓dstAt_succ, ↓arun_skip, ↓arun_region, ↓arun_seq, ↓arun_cond, ↓arun_block, ↓arun_loop, ↓arun_exit, ↓arun_ret, aops_nil, aops_cons, aops_cons_guard, ↓putA_some, ↓putA_none, ↓aop_move, ↓aop_assign, ↓aop_pick, ↓aop_alloc, ↓aop_box, ↓aop_build, ↓aop_buildSlice, ↓aop_load, ↓aop_store, ↓aop_nilCheck, ↓aop_binOp, ↓aop_unOp, ↓aop_convert, ↓aop_makeSlice, ↓aop_fieldAddr, ↓aop_field, ↓aop_indexAddr, ↓aop_index, ↓aop_lookup, ↓aop_mapUpdate, ↓aop_insert, ↓aop_extract, ↓aop_callB, ↓aop_callF, ↓aop_callT, ↓aop_makeFunc, ↓aop_makeMap, ↓aop_slice, ↓aevs_nil, ↓aevs_cons, ↓evP_nil, ↓evP_cons, ↓aevO_none, ↓aevO_some, ↓reduceIte, reduceCtorEq, Nat.reduceEqDiff, Nat.reduceAdd, Nat.reduceLT, Nat.reduceSub, Nat.reduceMul, Nat.reduceLeDiff, if_true, if_false, if_pos, if_neg, s29, Iss, e1, e2, e3, e4, e5, e6, e7, e8, e12, e15, e16, e17, e18, e19, m1, m2, m3, m4, m5, m6, n1, n2, n3, n4, n5, o1, o2, o3, o4, p1, p2, p3, q1, hh2, hh3, lookupA]
    try rfl
  · have hc12 := cellsO_length os bf vf
    have hl1 : ∀ x y, ((H ++ [AB.cells true 0 x]) ++ [AB.cells true 0 y]).length = H.length + 2 := fun x y => by simp
    have hget : ∀ (x y : List AV) (d : Nat), d < H.length → ((H ++ [AB.cells true 0 x]) ++ [AB.cells true 0 y])[d]? = H[d]? := fun x y d hd => by
      rw [List.getElem?_append_left (by simp; omega), List.getElem?_append_left hd]
    generalize hH2 : ((H ++ [AB.cells true 0 ((ex6 (gt L i)).map J)]) ++ [AB.cells true 0 [AV.sl true 0 []]]) = H2
    have hl2 : H2.length = H.length + 2 := by rw [← hH2]; exact hl1 _ _
    have hg2 : ∀ d, d < H.length → H2[d]? = H[d]? := fun d hd => by rw [← hH2]; exact hget _ _ d hd
    refine ⟨?_, ?_, fun d hd => ?_, fun d d' hd hd' he => ?_⟩
    · rw [List.getElem?_set_self (by simp; omega), ← cellsO_app (l := [(i : Int)])]
      rfl
    · rw [List.getElem?_set_ne (by omega), List.getElem?_append_left (by simp; omega), List.getElem?_set_self (by simp; omega)]
    · rw [List.length_append, List.length_cons, List.length_nil] at hd
      by_cases e : d = os.length
      · subst e
        simp only [if_true]
        refine ⟨by omega, ?_⟩
        rw [List.getElem?_set_ne (by omega), List.getElem?_append_right (by simp; omega), gi_last]
        simp [hl2]
      · obtain ⟨d4, hdb⟩ := hO.blk d (by omega)
        have hdl := (List.getElem?_eq_some_iff.1 hdb).1
        simp only [if_neg e]
        refine ⟨d4, ?_⟩
        rw [List.getElem?_set_ne (by omega), List.getElem?_append_left (by simp; omega), List.getElem?_set_ne (by omega), List.getElem?_set_ne (by omega), hg2 _ hdl, hdb, gi_app (by omega)]
    · rw [List.length_append, List.length_cons, List.length_nil] at hd hd'
      by_cases e : d = os.length
      · by_cases e' : d' = os.length
        · rw [e, e']
        · simp only [if_pos e, if_neg e'] at he
          have hdl := (List.getElem?_eq_some_iff.1 (hO.blk d' (by omega)).2).1
          omega
      · by_cases e' : d' = os.length
        · simp only [if_neg e, if_pos e'] at he
          have hdl := (List.getElem?_eq_some_iff.1 (hO.blk d (by omega)).2).1
          omega
        · simp only [if_neg e, if_neg e'] at he
          exact hO.inj d d' (by omega) (by omega) he
end
end Go.Proofs

/- the reference's Orbits: the rounds of the loops. -/
set_option linter.unusedVariables false
set_option linter.unusedSimpArgs false
set_option linter.unusedSectionVars false
namespace Go.Proofs
open Go.AI
set_option maxRecDepth 20000
set_option maxHeartbeats 4000000
section
variable {a : Code} (h : loopOf 0 Try.f30 = some a) {G L : List (List Int)} (hL : L.length ≤ 1000) (hs : ∀ x ∈ L, x.length ≤ 1000)
include h hL hs
def s30a (G L : List (List Int)) (b : Bool) (i : Nat) : St := ([(0, Iss G), (1, Iss L), (6, .v (.bool b)), (7, I i)], [.cells true 0 []])
theorem r30a {b : Bool} {i : Nat} (hi : i < L.length) : roundA Try.cfg 30 iter (call Try.cfg) 0 a (s30a G L b i) = some (.normal, s30a G L (b && monV (gt L i)) (i + 1)) := by
  have hx := gt_some hi
  have hl := hs _ (List.mem_of_getElem? hx)
  have h45 := call45 hl
  cases h
  generalize gt L i = m at *
  cases b with
  | false =>
    simp -implicitDefEqProofs (maxSteps := 1000000) (disch := omega) only [push_cast, ↓dstAt_zero, ↓dstAt_succ, ↓arun_skip, ↓arun_region, ↓arun_seq, ↓arun_cond, ↓arun_block, ↓arun_loop, ↓arun_exit, ↓arun_ret, aops_nil, aops_cons, aops_cons_guard, ↓putA_some, ↓putA_none, ↓aop_move, ↓aop_assign, ↓aop_pick, ↓aop_alloc, ↓aop_box, ↓aop_build, ↓aop_buildSlice, ↓aop_load, ↓aop_store, ↓aop_nilCheck, ↓aop_binOp, ↓aop_unOp, ↓aop_convert, ↓aop_makeSlice, ↓aop_fieldAddr, ↓aop_field, ↓aop_indexAddr, ↓aop_index, ↓aop_lookup, ↓aop_mapUpdate, ↓aop_insert, ↓aop_extract, ↓aop_callB, ↓aop_callF, ↓aop_callT, ↓aop_makeFunc, ↓aop_makeMap, ↓aop_slice, ↓aevs_nil, ↓aevs_cons, ↓evP_nil, ↓evP_cons, ↓aevO_none, ↓aevO_some, ↓reduceIte, reduceCtorEq, Nat.reduceEqDiff, Nat.reduceAdd, Nat.reduceLT, Nat.reduceSub, Nat.reduceMul, Nat.reduceLeDiff, if_true, if_false, if_pos, if_neg, s30a, Iss, hx, h45, Bool.false_and]
    try rfl
  | true =>
    simp -implicitDefEqProofs (maxSteps := 1000000) (disch := omega) only [push_cast, ↓dstAt_zero, ↓dstAt_succ, ↓arun_skip, ↓arun_region, ↓arun_seq, ↓arun_cond, ↓arun_block, ↓arun_loop, ↓arun_exit, ↓arun_ret, aops_nil, aops_cons, aops_cons_guard, ↓putA_some, ↓putA_none, ↓aop_move, ↓aop_assign, ↓aop_pick, ↓aop_alloc, ↓aop_box, ↓aop_build, ↓aop_buildSlice, ↓aop_load, ↓aop_store, ↓aop_nilCheck, ↓aop_binOp, ↓aop_unOp, ↓aop_convert, ↓aop_makeSlice, ↓aop_fieldAddr, ↓aop_field, ↓aop_indexAddr, ↓aop_index, ↓aop_lookup, ↓aop_mapUpdate, ↓aop_insert, ↓aop_extract, ↓aop_callB, ↓aop_callF, ↓aop_callT, ↓aop_makeFunc, ↓aop_makeMap, ↓aop_slice, ↓aevs_nil, ↓aevs_cons, ↓evP_nil, ↓evP_cons, ↓aevO_none, ↓aevO_some, ↓reduceIte, reduceCtorEq, Nat.reduceEqDiff, Nat.reduceAdd, Nat.reduceLT, Nat.reduceSub, Nat.reduceMul, Nat.reduceLeDiff, if_true, if_false, if_pos, if_neg, s30a, Iss, hx, h45]
    try rfl
theorem r30b {b : Bool} : roundA Try.cfg 30 iter (call Try.cfg) 0 a (s30a G L b L.length) = some (.exit 0, [(0, Iss G), (1, Iss L), (6, .v (.bool b))], [.cells true 0 []]) := by
  cases h
  simp -implicitDefEqProofs (maxSteps := 1000000) (disch := omega) only [push_cast, ↓dstAt_zero, ↓dstAt_succ, ↓arun_skip, ↓arun_region, ↓arun_seq, ↓arun_cond, ↓arun_block, ↓arun_loop, ↓arun_exit, ↓arun_ret, aops_nil, aops_cons, aops_cons_guard, ↓putA_some, ↓putA_none, ↓aop_move, ↓aop_assign, ↓aop_pick, ↓aop_alloc, ↓aop_box, ↓aop_build, ↓aop_buildSlice, ↓aop_load, ↓aop_store, ↓aop_nilCheck, ↓aop_binOp, ↓aop_unOp, ↓aop_convert, ↓aop_makeSlice, ↓aop_fieldAddr, ↓aop_field, ↓aop_indexAddr, ↓aop_index, ↓aop_lookup, ↓aop_mapUpdate, ↓aop_insert, ↓aop_extract, ↓aop_callB, ↓aop_callF, ↓aop_callT, ↓aop_makeFunc, ↓aop_makeMap, ↓aop_slice, ↓aevs_nil, ↓aevs_cons, ↓evP_nil, ↓evP_cons, ↓aevO_none, ↓aevO_some, ↓reduceIte, reduceCtorEq, Nat.reduceEqDiff, Nat.reduceAdd, Nat.reduceLT, Nat.reduceSub, Nat.reduceMul, Nat.reduceLeDiff, if_true, if_false, if_pos, if_neg, s30a, Iss, Int.lt_irrefl]
theorem l30a : ∀ (k i : Nat) (b : Bool), i + k = L.length → iter (roundA Try.cfg 30 iter (call Try.cfg) 0 a) (s30a G L b i) = some (.exit 0, [(0, Iss G), (1, Iss L), (6, .v (.bool (b && (List.range' i k).all fun j => monV (gt L j))))], [.cells true 0 []])
  | 0, i, b, hi => by
    have e : i = L.length := by omega
    subst e
    simpa using iter_last (r30b h hL hs (b := b)) (by simp)
  | k + 1, i, b, hi => by
    rw [List.range'_succ, List.all_cons, ← Bool.and_assoc]
    exact iter_normal (r30a h hL hs (by omega)) (l30a k (i + 1) _ (by omega))
end
section
variable {a : Code} (h : loopOf 2 Try.f30 = some a) {G L : List (List Int)} (hL : L.length ≤ 1000) (hs : ∀ x ∈ L, x.length ≤ 1000) (hG : 0 < G.length) (hs' : (gt G 0).length ≤ 1000)
include h hL hs hG hs'
def s30b (G L : List (List Int)) (i : Nat) : St := ([(0, Iss G), (1, Iss L), (8, I i)], [.cells true 0 []])
theorem r30s {i : Nat} (hi : i < L.length) (hq : decide ((gt L i).length = (gt G 0).length) = true) : roundA Try.cfg 30 iter (call Try.cfg) 2 a (s30b G L i) = some (.normal, s30b G L (i + 1)) := by
  have hx := gt_some hi
  have h0 := gt_some hG
  have hq := of_decide_eq_true hq
  cases h
  generalize gt L i = m at *
  generalize gt G 0 = g at *
  simp -implicitDefEqProofs (maxSteps := 1000000) (disch := omega) only [push_cast, ↓dstAt_zero, ↓dstAt_succ, ↓arun_skip, ↓arun_region, ↓arun_seq, ↓arun_cond, ↓arun_block, ↓arun_loop, ↓arun_exit, ↓arun_ret, aops_nil, aops_cons, aops_cons_guard, ↓putA_some, ↓putA_none, ↓aop_move, ↓aop_assign, ↓aop_pick, ↓aop_alloc, ↓aop_box, ↓aop_build, ↓aop_buildSlice, ↓aop_load, ↓aop_store, ↓aop_nilCheck, ↓aop_binOp, ↓aop_unOp, ↓aop_convert, ↓aop_makeSlice, ↓aop_fieldAddr, ↓aop_field, ↓aop_indexAddr, ↓aop_index, ↓aop_lookup, ↓aop_mapUpdate, ↓aop_insert, ↓aop_extract, ↓aop_callB, ↓aop_callF, ↓aop_callT, ↓aop_makeFunc, ↓aop_makeMap, ↓aop_slice, ↓aevs_nil, ↓aevs_cons, ↓evP_nil, ↓evP_cons, ↓aevO_none, ↓aevO_some, ↓reduceIte, reduceCtorEq, Nat.reduceEqDiff, Nat.reduceAdd, Nat.reduceLT, Nat.reduceSub, Nat.reduceMul, Nat.reduceLeDiff, if_true, if_false, if_pos, if_neg, s30b, Iss, hx, h0]
  try rfl
theorem r30t {i : Nat} (hi : i < L.length) (hq : decide ((gt L i).length = (gt G 0).length) = false) : roundA Try.cfg 30 iter (call Try.cfg) 2 a (s30b G L i) = some (.ret, [(4, .ms 1 0 0 0 0), (5, I 4)], [.cells true 0 [], .cells true 0 []]) := by
  have hx := gt_some hi
  have h0 := gt_some hG
  have hq := of_decide_eq_false hq
  cases h
  generalize gt L i = m at *
  generalize gt G 0 = g at *
  simp -implicitDefEqProofs (maxSteps := 1000000) (disch := omega) only [push_cast, ↓dstAt_zero, ↓dstAt_succ, ↓arun_skip, ↓arun_region, ↓arun_seq, ↓arun_cond, ↓arun_block, ↓arun_loop, ↓arun_exit, ↓arun_ret, aops_nil, aops_cons, aops_cons_guard, ↓putA_some, ↓putA_none, ↓aop_move, ↓aop_assign, ↓aop_pick, ↓aop_alloc, ↓aop_box, ↓aop_build, ↓aop_buildSlice, ↓aop_load, ↓aop_store, ↓aop_nilCheck, ↓aop_binOp, ↓aop_unOp, ↓aop_convert, ↓aop_makeSlice, ↓aop_fieldAddr, ↓aop_field, ↓aop_indexAddr, ↓aop_index, ↓aop_lookup, ↓aop_mapUpdate, ↓aop_insert, ↓aop_extract, ↓aop_callB, ↓aop_callF, ↓aop_callT, ↓aop_makeFunc, ↓aop_makeMap, ↓aop_slice, ↓aevs_nil, ↓aevs_cons, ↓evP_nil, ↓evP_cons, ↓aevO_none, ↓aevO_some, ↓reduceIte, reduceCtorEq, Nat.reduceEqDiff, Nat.reduceAdd, Nat.reduceLT, Nat.reduceSub, Nat.reduceMul, Nat.reduceLeDiff, if_true, if_false, if_pos, if_neg, s30b, Iss, hx, h0]
  try rfl
theorem r30u : roundA Try.cfg 30 iter (call Try.cfg) 2 a (s30b G L L.length) = some (.exit 2, [(0, Iss G), (1, Iss L)], [.cells true 0 []]) := by
  cases h
  simp -implicitDefEqProofs (maxSteps := 1000000) (disch := omega) only [push_cast, ↓dstAt_zero, ↓dstAt_succ, ↓arun_skip, ↓arun_region, ↓arun_seq, ↓arun_cond, ↓arun_block, ↓arun_loop, ↓arun_exit, ↓arun_ret, aops_nil, aops_cons, aops_cons_guard, ↓putA_some, ↓putA_none, ↓aop_move, ↓aop_assign, ↓aop_pick, ↓aop_alloc, ↓aop_box, ↓aop_build, ↓aop_buildSlice, ↓aop_load, ↓aop_store, ↓aop_nilCheck, ↓aop_binOp, ↓aop_unOp, ↓aop_convert, ↓aop_makeSlice, ↓aop_fieldAddr, ↓aop_field, ↓aop_indexAddr, ↓aop_index, ↓aop_lookup, ↓aop_mapUpdate, ↓aop_insert, ↓aop_extract, ↓aop_callB, ↓aop_callF, ↓aop_callT, ↓aop_makeFunc, ↓aop_makeMap, ↓aop_slice, ↓aevs_nil, ↓aevs_cons, ↓evP_nil, ↓evP_cons, ↓aevO_none, ↓aevO_some, ↓reduceIte, reduceCtorEq, Nat.reduceEqDiff, Nat.reduceAdd, Nat.reduceLT, Nat.reduceSub, Nat.reduceMul, Nat.reduceLeDiff, if_true, if_false, if_pos, if_neg, s30b, Iss, Int.lt_irrefl]
theorem l30b : iter (roundA Try.cfg 30 iter (call Try.cfg) 2 a) (s30b G L 0) = some (if (List.range' 0 L.length).all (fun i => decide ((gt L i).length = (gt G 0).length)) then (.exit 2, [(0, Iss G), (1, Iss L)], [.cells true 0 []]) else (.ret, [(4, .ms 1 0 0 0 0), (5, I 4)], [.cells true 0 [], .cells true 0 []])) :=
  iter_all (S := fun i => s30b G L i) (fun i hi hq => r30s h hL hs hG hs' hi hq) (fun i hi hq => r30t h hL hs hG hs' hi hq) (r30u h hL hs hG hs') (by simp) (by simp) L.length 0 (by omega)
end
/-- One candidate of the orbit of m. -/
def cand (G L : List (List Int)) (m : List Int) (k : Nat) (q : List Bool × List Int) : List Bool × List Int :=
  if q.1.getD k false = false ∧ relG G m (gt L k) = true then (q.1.set k true, q.2 ++ [(k : Int)]) else q
theorem cand_len {G L : List (List Int)} {m : List Int} {k : Nat} {q : List Bool × List Int} : (cand G L m k q).1.length = q.1.length ∧ (cand G L m k q).2.length ≤ q.2.length + 1 := by
  unfold cand
  split <;> simp
section
variable {G L : List (List Int)} {n : Nat} (hG : GrpN G n) (hG' : G.length ≤ 1000) (hL : L.length ≤ 64) (hs : ∀ x ∈ L, x.length = n) {i k v w sz z : Nat} {seen : List Bool} {os : List (List Int)} {o : List Int} (hi : i < L.length) (hk : k < L.length) (hse : seen.length = L.length) (ho : o.length ≤ 100)
include hG hG' hL hs hi hk hse ho
def s30j (G L : List (List Int)) (i k v w n' sz z : Nat) (seen : List Bool) (os : List (List Int)) (o : List Int) (j : Nat) : St :=
  ([(0, Iss G), (1, Iss L), (9, .ms 1 v 0 n' sz), (10, .ms 2 0 0 L.length 1), (11, I i), (12, .ms 3 w 0 o.length z), (13, I k), (14, I j)], [.cells true 0 [], .cells true v (os.map Is), .cells true 0 (seen.map B), .cells true w (o.map I)])
def s30k (G L : List (List Int)) (i v w n' sz z : Nat) (seen : List Bool) (os : List (List Int)) (o : List Int) (k : Nat) : St :=
  ([(0, Iss G), (1, Iss L), (9, .ms 1 v 0 n' sz), (10, .ms 2 0 0 L.length 1), (11, I i), (12, .ms 3 w 0 o.length z), (13, I k)], [.cells true 0 [], .cells true v (os.map Is), .cells true 0 (seen.map B), .cells true w (o.map I)])
theorem r30j {a : Code} (h : loopOf 8 Try.f30 = some a) {n' j : Nat} (hj : j < G.length) (hsk : seen[k]? = some false) (hq : decide (mvP (gt G j) (gt L i) = gt L k) = false) : roundA Try.cfg 30 iter (call Try.cfg) 8 a (s30j G L i k v w n' sz z seen os o j) = some (.normal, s30j G L i k v w n' sz z seen os o (j + 1)) := by
  have hx := gt_some hj
  have hy := gt_some hi
  have hz := gt_some hk
  have hp := hG.perm _ (List.mem_of_getElem? hx)
  have hly := hs _ (List.mem_of_getElem? hy)
  have hlz := hs _ (List.mem_of_getElem? hz)
  have h6 := hG.n6
  have h46 := call46 (A := gt G j) (M := gt L i) (by omega) (by rw [hp.2, hly]) (fun i' hi' => by
    have := valid_range hp.1 (i := i') (by rw [hp.2]; omega)
    have := hp.2
    omega)
  have hml := mvP_length (gt G j) (gt L i)
  have h37 := call37u (A := mvP (gt G j) (gt L i)) (C := gt L k) (by omega) (by omega)
  rw [hq, hml] at h37
  cases h
  generalize mvP (gt G j) (gt L i) = b at *
  generalize gt G j = g at *
  generalize gt L i = m at *
  generalize gt L k = m' at *
  simp -implicitDefEqProofs (maxSteps := 1000000) (disch := omega) only [push_cast, ↓dstAt_zero, ↓dstAt_succ, ↓arun_skip, ↓arun_region, ↓arun_seq, ↓arun_cond, ↓arun_block, ↓arun_loop, ↓arun_exit, ↓arun_ret, aops_nil, aops_cons, aops_cons_guard, ↓putA_some, ↓putA_none, ↓aop_move, ↓aop_assign, ↓aop_pick, ↓aop_alloc, ↓aop_box, ↓aop_build, ↓aop_buildSlice, ↓aop_load, ↓aop_store, ↓aop_nilCheck, ↓aop_binOp, ↓aop_unOp, ↓aop_convert, ↓aop_makeSlice, ↓aop_fieldAddr, ↓aop_field, ↓aop_indexAddr, ↓aop_index, ↓aop_lookup, ↓aop_mapUpdate, ↓aop_insert, ↓aop_extract, ↓aop_callB, ↓aop_callF, ↓aop_callT, ↓aop_makeFunc, ↓aop_makeMap, ↓aop_slice, ↓aevs_nil, ↓aevs_cons, ↓evP_nil, ↓evP_cons, ↓aevO_none, ↓aevO_some, ↓reduceIte, reduceCtorEq, Nat.reduceEqDiff, Nat.reduceAdd, Nat.reduceLT, Nat.reduceSub, Nat.reduceMul, Nat.reduceLeDiff, if_true, if_false, if_pos, if_neg, s30j, Iss, hx, hy, hz, hsk, h46, h37]
  try rfl
theorem r30m {a : Code} (h : loopOf 8 Try.f30 = some a) {n' j : Nat} (hj : j < G.length) (hsk : seen[k]? = some false) (hq : decide (mvP (gt G j) (gt L i) = gt L k) = true) (hzz : z = 1 ∨ z = 0 ∧ o.length = 0) : roundA Try.cfg 30 iter (call Try.cfg) 8 a (s30j G L i k v w n' sz z seen os o j) = some (.normal, s30j G L i k v (w + 1) n' sz 1 (seen.set k true) os (o ++ [(k : Int)]) (j + 1)) := by
  have hx := gt_some hj
  have hy := gt_some hi
  have hz := gt_some hk
  have hp := hG.perm _ (List.mem_of_getElem? hx)
  have hly := hs _ (List.mem_of_getElem? hy)
  have hlz := hs _ (List.mem_of_getElem? hz)
  have h6 := hG.n6
  have h46 := call46 (A := gt G j) (M := gt L i) (by omega) (by rw [hp.2, hly]) (fun i' hi' => by
    have := valid_range hp.1 (i := i') (by rw [hp.2]; omega)
    have := hp.2
    omega)
  have hml := mvP_length (gt G j) (gt L i)
  have h37 := call37u (A := mvP (gt G j) (gt L i)) (C := gt L k) (by omega) (by omega)
  rw [hq, hml] at h37
  have e1 : (o.map I).take (o.length * z) = o.map I := by
    rcases hzz with rfl | ⟨rfl, h0⟩
    · exact List.take_of_length_le (by simp)
    · rw [List.length_eq_zero_iff.1 h0]; simp
  have e2 : o.length * z ≤ o.length := by
    rcases hzz with rfl | ⟨rfl, h0⟩ <;> omega
  have e3 : z = 0 ∨ z = 1 := by omega
  have e4 : (o ++ [(k : Int)]).length = o.length + 1 := by simp
  cases h
  generalize mvP (gt G j) (gt L i) = b at *
  generalize gt G j = g at *
  generalize gt L i = m at *
  generalize gt L k = m' at *
  simp -implicitDefEqProofs (maxSteps := 1000000) (disch := omega) only [push_cast, ↓dstAt_zero, ↓dstAt_succ, ↓arun_skip, ↓arun_region, ↓arun_seq, ↓arun_cond, ↓arun_block, ↓arun_loop, ↓arun_exit, ↓arun_ret, aops_nil, aops_cons, aops_cons_guard, ↓putA_some, ↓putA_none, ↓aop_move, ↓aop_assign, ↓aop_pick, ↓aop_alloc, ↓aop_box, ↓aop_build, ↓aop_buildSlice, ↓aop_load, ↓aop_store, ↓aop_nilCheck, ↓aop_binOp, ↓aop_unOp, ↓aop_convert, ↓aop_makeSlice, ↓aop_fieldAddr, ↓aop_field, ↓aop_indexAddr, ↓aop_index, ↓aop_lookup, ↓aop_mapUpdate, ↓aop_insert, ↓aop_extract, ↓aop_callB, ↓aop_callF, ↓aop_callT, ↓aop_makeFunc, ↓aop_makeMap, ↓aop_slice, ↓aevs_nil, ↓aevs_cons, ↓evP_nil, ↓evP_cons, ↓aevO_none, ↓aevO_some, ↓reduceIte, reduceCtorEq, Nat.reduceEqDiff, Nat.reduceAdd, Nat.reduceLT, Nat.reduceSub, Nat.reduceMul, Nat.reduceLeDiff, if_true, if_false, if_pos, if_neg, s30j, Iss, hx, hy, hz, hsk, h46, h37, e1, e2, e3, e4]
  try rfl
/-- The rest of the round when k has been seen, or when the group is at its end. -/
theorem r30n {a : Code} (h : loopOf 8 Try.f30 = some a) {n' j : Nat} (hj : j ≤ G.length) (hq : j = G.length ∨ seen[k]? = some true) : roundA Try.cfg 30 iter (call Try.cfg) 8 a (s30j G L i k v w n' sz z seen os o j) = some (.exit 8, s30k G L i v w n' sz z seen os o k) := by
  cases h
  by_cases e : j = G.length
  · subst e
    simp -implicitDefEqProofs (maxSteps := 1000000) (disch := omega) only [push_cast, ↓dstAt_zero, ↓dstAt_succ, ↓arun_skip, ↓arun_region, ↓arun_seq, ↓arun_cond, ↓arun_block, ↓arun_loop, ↓arun_exit, ↓arun_ret, aops_nil, aops_cons, aops_cons_guard, ↓putA_some, ↓putA_none, ↓aop_move, ↓aop_assign, ↓aop_pick, ↓aop_alloc, ↓aop_box, ↓aop_build, ↓aop_buildSlice, ↓aop_load, ↓aop_store, ↓aop_nilCheck, ↓aop_binOp, ↓aop_unOp, ↓aop_convert, ↓aop_makeSlice, ↓aop_fieldAddr, ↓aop_field, ↓aop_indexAddr, ↓aop_index, ↓aop_lookup, ↓aop_mapUpdate, ↓aop_insert, ↓aop_extract, ↓aop_callB, ↓aop_callF, ↓aop_callT, ↓aop_makeFunc, ↓aop_makeMap, ↓aop_slice, ↓aevs_nil, ↓aevs_cons, ↓evP_nil, ↓evP_cons, ↓aevO_none, ↓aevO_some, ↓reduceIte, reduceCtorEq, Nat.reduceEqDiff, Nat.reduceAdd, Nat.reduceLT, Nat.reduceSub, Nat.reduceMul, Nat.reduceLeDiff, if_true, if_false, if_pos, if_neg, s30j, s30k, Iss, Int.lt_irrefl]
  · have hsk : seen[k]? = some true := by
      rcases hq with h | h
      · exact absurd h e
      · exact h
    simp -implicitDefEqProofs (maxSteps := 1000000) (disch := omega) only [push_cast, ↓dstAt_zero, ↓dstAt_succ, ↓arun_skip, ↓arun_region, ↓arun_seq, ↓arun_cond, ↓arun_block, ↓arun_loop, ↓arun_exit, ↓arun_ret, aops_nil, aops_cons, aops_cons_guard, ↓putA_some, ↓putA_none, ↓aop_move, ↓aop_assign, ↓aop_pick, ↓aop_alloc, ↓aop_box, ↓aop_build, ↓aop_buildSlice, ↓aop_load, ↓aop_store, ↓aop_nilCheck, ↓aop_binOp, ↓aop_unOp, ↓aop_convert, ↓aop_makeSlice, ↓aop_fieldAddr, ↓aop_field, ↓aop_indexAddr, ↓aop_index, ↓aop_lookup, ↓aop_mapUpdate, ↓aop_insert, ↓aop_extract, ↓aop_callB, ↓aop_callF, ↓aop_callT, ↓aop_makeFunc, ↓aop_makeMap, ↓aop_slice, ↓aevs_nil, ↓aevs_cons, ↓evP_nil, ↓evP_cons, ↓aevO_none, ↓aevO_some, ↓reduceIte, reduceCtorEq, Nat.reduceEqDiff, Nat.reduceAdd, Nat.reduceLT, Nat.reduceSub, Nat.reduceMul, Nat.reduceLeDiff, if_true, if_false, if_pos, if_neg, s30j, s30k, Iss, hsk]
theorem l30j {a : Code} (h : loopOf 8 Try.f30 = some a) {n' : Nat} (ho' : o.length ≤ 64) (hzz : z = 1 ∨ z = 0 ∧ o.length = 0) (hsk : seen[k]? = some false) : ∀ (d j : Nat), j + d = G.length → ∃ w' z', iter (roundA Try.cfg 30 iter (call Try.cfg) 8 a) (s30j G L i k v w n' sz z seen os o j) = some (.exit 8, if (List.range' j d).any (fun j => decide (mvP (gt G j) (gt L i) = gt L k)) then s30k G L i v w' n' sz z' (seen.set k true) os (o ++ [(k : Int)]) k else s30k G L i v w' n' sz z' seen os o k) ∧ (z' = 1 ∨ z' = 0 ∧ o.length = 0 ∧ (List.range' j d).any (fun j => decide (mvP (gt G j) (gt L i) = gt L k)) = false)
  | 0, j, hj => ⟨w, z, by simpa using iter_last (r30n hG hG' hL hs hi hk hse ho h (by omega) (Or.inl (by omega))) (by simp), by simpa using hzz⟩
  | d + 1, j, hj => by
    rw [List.range'_succ, List.any_cons]
    cases hq : decide (mvP (gt G j) (gt L i) = gt L k) with
    | true =>
      refine ⟨w + 1, 1, iter_normal (r30m hG hG' hL hs hi hk hse ho h (by omega) hsk hq hzz) ?_, Or.inl rfl⟩
      have hkl : k < seen.length := by omega
      exact iter_last (by
        have := r30n (o := o ++ [(k : Int)]) (w := w + 1) (z := 1) (v := v) (sz := sz) (os := os) hG hG' hL hs hi hk (seen := seen.set k true) (by simpa using hse) (ho := by simp; omega) h (n' := n') (j := j + 1) (by omega) (Or.inr (by simp [hkl]))
        simpa using this) (by simp)
    | false =>
      obtain ⟨w', z', g1, g2⟩ := l30j h ho' hzz hsk d (j + 1) (by omega)
      exact ⟨w', z', iter_normal (r30j hG hG' hL hs hi hk hse ho h (by omega) hsk hq) (by rw [Bool.false_or]; exact g1), by rw [Bool.false_or]; exact g2⟩
end
def candS (G L : List (List Int)) (m : List Int) : Nat → Nat → List Bool × List Int → List Bool × List Int
  | 0, _, q => q
  | d + 1, k, q => candS G L m d (k + 1) (cand G L m k q)
section
variable {G L : List (List Int)} {n : Nat} (hG : GrpN G n) (hG' : G.length ≤ 1000) (hL : L.length ≤ 64) (hs : ∀ x ∈ L, x.length = n) {i v sz : Nat} {os : List (List Int)} (hi : i < L.length)
include hG hG' hL hs hi
theorem r30p {a : Code} (h : loopOf 6 Try.f30 = some a) {n' k w z : Nat} {seen : List Bool} {o : List Int} (hk : k < L.length) (hse : seen.length = L.length) (ho : o.length ≤ 64) (hzz : z = 1 ∨ z = 0 ∧ o.length = 0) :
    ∃ w' z', roundA Try.cfg 30 iter (call Try.cfg) 6 a (s30k G L i v w n' sz z seen os o k) = some (.normal, s30k G L i v w' n' sz z' (cand G L (gt L i) k (seen, o)).1 os (cand G L (gt L i) k (seen, o)).2 (k + 1)) ∧ (z' = 1 ∨ z' = 0 ∧ (cand G L (gt L i) k (seen, o)).2.length = 0) := by
  cases h8 : loopOf 8 Try.f30 with
  | none => cases h8
  | some a8 =>
  have hsk : seen[k]? = some (seen.getD k false) := by simp [show k < seen.length by omega]
  cases hb : seen.getD k false with
  | true =>
    rw [hb] at hsk
    have hc : cand G L (gt L i) k (seen, o) = (seen, o) := by simp only [cand, hb]; simp
    rw [hc]
    have hH := iter_last (r30n hG hG' hL hs hi hk hse (o := o) (by omega) h8 (v := v) (w := w) (sz := sz) (z := z) (os := os) (n' := n') (j := 0) (by omega) (Or.inr hsk)) (by simp)
    refine ⟨w, z, ?_, hzz⟩
    cases h
    cases h8
    simp only [s30j, s30k, Iss, Int.natCast_zero] at hH
    simp -implicitDefEqProofs (maxSteps := 1000000) (disch := omega) only [push_cast, ↓dstAt_zero, ↓dstAt_succ, ↓arun_skip, ↓arun_region, ↓arun_seq, ↓arun_cond, ↓arun_block, ↓arun_loop, ↓arun_exit, ↓arun_ret, aops_nil, aops_cons, aops_cons_guard, ↓putA_some, ↓putA_none, ↓aop_move, ↓aop_assign, ↓aop_pick, ↓aop_alloc, ↓aop_box, ↓aop_build, ↓aop_buildSlice, ↓aop_load, ↓aop_store, ↓aop_nilCheck, ↓aop_binOp, ↓aop_unOp, ↓aop_convert, ↓aop_makeSlice, ↓aop_fieldAddr, ↓aop_field, ↓aop_indexAddr, ↓aop_index, ↓aop_lookup, ↓aop_mapUpdate, ↓aop_insert, ↓aop_extract, ↓aop_callB, ↓aop_callF, ↓aop_callT, ↓aop_makeFunc, ↓aop_makeMap, ↓aop_slice, ↓aevs_nil, ↓aevs_cons, ↓evP_nil, ↓evP_cons, ↓aevO_none, ↓aevO_some, ↓reduceIte, reduceCtorEq, Nat.reduceEqDiff, Nat.reduceAdd, Nat.reduceLT, Nat.reduceSub, Nat.reduceMul, Nat.reduceLeDiff, if_true, if_false, if_pos, if_neg, s30k, Iss, hH]
    try rfl
  | false =>
    rw [hb] at hsk
    obtain ⟨w', z', g1, g2⟩ := l30j hG hG' hL hs hi hk hse (o := o) (by omega) h8 (v := v) (w := w) (sz := sz) (os := os) (n' := n') ho hzz hsk G.length 0 (by omega)
    rw [show ((List.range' 0 G.length).any fun j => decide (mvP (gt G j) (gt L i) = gt L k)) = relG G (gt L i) (gt L k) from rfl] at g1 g2
    cases hr : relG G (gt L i) (gt L k) with
    | true =>
      have hc : cand G L (gt L i) k (seen, o) = (seen.set k true, o ++ [(k : Int)]) := by simp only [cand, hb, hr]; simp
      rw [hc]
      rw [hr, if_pos rfl] at g1
      refine ⟨w', z', ?_, ?_⟩
      · cases h
        cases h8
        simp only [s30j, s30k, Iss, Int.natCast_zero] at g1
        simp -implicitDefEqProofs (maxSteps := 1000000) (disch := omega) only [push_cast, ↓dstAt_zero, ↓dstAt_succ, ↓arun_skip, ↓arun_region, ↓arun_seq, ↓arun_cond, ↓arun_block, ↓arun_loop, ↓arun_exit, ↓arun_ret, aops_nil, aops_cons, aops_cons_guard, ↓putA_some, ↓putA_none, ↓aop_move, ↓aop_assign, ↓aop_pick, ↓aop_alloc, ↓aop_box, ↓aop_build, ↓aop_buildSlice, ↓aop_load, ↓aop_store, ↓aop_nilCheck, ↓aop_binOp, ↓aop_unOp, ↓aop_convert, ↓aop_makeSlice, ↓aop_fieldAddr, ↓aop_field, ↓aop_indexAddr, ↓aop_index, ↓aop_lookup, ↓aop_mapUpdate, ↓aop_insert, ↓aop_extract, ↓aop_callB, ↓aop_callF, ↓aop_callT, ↓aop_makeFunc, ↓aop_makeMap, ↓aop_slice, ↓aevs_nil, ↓aevs_cons, ↓evP_nil, ↓evP_cons, ↓aevO_none, ↓aevO_some, ↓reduceIte, reduceCtorEq, Nat.reduceEqDiff, Nat.reduceAdd, Nat.reduceLT, Nat.reduceSub, Nat.reduceMul, Nat.reduceLeDiff, if_true, if_false, if_pos, if_neg, s30k, Iss, g1]
        try rfl
      · rcases g2 with g2 | ⟨g2, g3, g4⟩
        · exact Or.inl g2
        · rw [hr] at g4; cases g4
    | false =>
      have hc : cand G L (gt L i) k (seen, o) = (seen, o) := by simp only [cand, hb, hr]; simp
      rw [hc]
      rw [hr, if_neg (by simp)] at g1
      refine ⟨w', z', ?_, ?_⟩
      · cases h
        cases h8
        simp only [s30j, s30k, Iss, Int.natCast_zero] at g1
        simp -implicitDefEqProofs (maxSteps := 1000000) (disch := omega) only [push_cast, ↓dstAt_zero, ↓dstAt_succ, ↓arun_skip, ↓arun_region, ↓arun_seq, ↓arun_cond, ↓arun_block, ↓arun_loop, ↓arun_exit, ↓arun_ret, aops_nil, aops_cons, aops_cons_guard, ↓putA_some, ↓putA_none, ↓aop_move, ↓aop_assign, ↓aop_pick, ↓aop_alloc, ↓aop_box, ↓aop_build, ↓aop_buildSlice, ↓aop_load, ↓aop_store, ↓aop_nilCheck, ↓aop_binOp, ↓aop_unOp, ↓aop_convert, ↓aop_makeSlice, ↓aop_fieldAddr, ↓aop_field, ↓aop_indexAddr, ↓aop_index, ↓aop_lookup, ↓aop_mapUpdate, ↓aop_insert, ↓aop_extract, ↓aop_callB, ↓aop_callF, ↓aop_callT, ↓aop_makeFunc, ↓aop_makeMap, ↓aop_slice, ↓aevs_nil, ↓aevs_cons, ↓evP_nil, ↓evP_cons, ↓aevO_none, ↓aevO_some, ↓reduceIte, reduceCtorEq, Nat.reduceEqDiff, Nat.reduceAdd, Nat.reduceLT, Nat.reduceSub, Nat.reduceMul, Nat.reduceLeDiff, if_true, if_false, if_pos, if_neg, s30k, Iss, g1]
        try rfl
      · rcases g2 with g2 | ⟨g2, g3, g4⟩
        · exact Or.inl g2
        · exact Or.inr ⟨g2, g3⟩
theorem r30q {a : Code} (h : loopOf 6 Try.f30 = some a) {n' w z : Nat} {seen : List Bool} {o : List Int} : roundA Try.cfg 30 iter (call Try.cfg) 6 a (s30k G L i v w n' sz z seen os o L.length) = some (.exit 6, [(0, Iss G), (1, Iss L), (9, .ms 1 v 0 n' sz), (10, .ms 2 0 0 L.length 1), (11, I i), (12, .ms 3 w 0 o.length z)], [.cells true 0 [], .cells true v (os.map Is), .cells true 0 (seen.map B), .cells true w (o.map I)]) := by
  cases h
  simp -implicitDefEqProofs (maxSteps := 1000000) (disch := omega) only [push_cast, ↓dstAt_zero, ↓dstAt_succ, ↓arun_skip, ↓arun_region, ↓arun_seq, ↓arun_cond, ↓arun_block, ↓arun_loop, ↓arun_exit, ↓arun_ret, aops_nil, aops_cons, aops_cons_guard, ↓putA_some, ↓putA_none, ↓aop_move, ↓aop_assign, ↓aop_pick, ↓aop_alloc, ↓aop_box, ↓aop_build, ↓aop_buildSlice, ↓aop_load, ↓aop_store, ↓aop_nilCheck, ↓aop_binOp, ↓aop_unOp, ↓aop_convert, ↓aop_makeSlice, ↓aop_fieldAddr, ↓aop_field, ↓aop_indexAddr, ↓aop_index, ↓aop_lookup, ↓aop_mapUpdate, ↓aop_insert, ↓aop_extract, ↓aop_callB, ↓aop_callF, ↓aop_callT, ↓aop_makeFunc, ↓aop_makeMap, ↓aop_slice, ↓aevs_nil, ↓aevs_cons, ↓evP_nil, ↓evP_cons, ↓aevO_none, ↓aevO_some, ↓reduceIte, reduceCtorEq, Nat.reduceEqDiff, Nat.reduceAdd, Nat.reduceLT, Nat.reduceSub, Nat.reduceMul, Nat.reduceLeDiff, if_true, if_false, if_pos, if_neg, s30k, Iss, Int.lt_irrefl]
theorem l30k {a : Code} (h : loopOf 6 Try.f30 = some a) {n' : Nat} : ∀ (d k w z : Nat) (seen : List Bool) (o : List Int), k + d = L.length → seen.length = L.length → o.length ≤ k → (z = 1 ∨ z = 0 ∧ o.length = 0) →
    ∃ w' z', iter (roundA Try.cfg 30 iter (call Try.cfg) 6 a) (s30k G L i v w n' sz z seen os o k) = some (.exit 6, [(0, Iss G), (1, Iss L), (9, .ms 1 v 0 n' sz), (10, .ms 2 0 0 L.length 1), (11, I i), (12, .ms 3 w' 0 (candS G L (gt L i) d k (seen, o)).2.length z')], [.cells true 0 [], .cells true v (os.map Is), .cells true 0 ((candS G L (gt L i) d k (seen, o)).1.map B), .cells true w' ((candS G L (gt L i) d k (seen, o)).2.map I)]) ∧ (z' = 1 ∨ z' = 0 ∧ (candS G L (gt L i) d k (seen, o)).2.length = 0)
  | 0, k, w, z, seen, o, hd, hse, ho, hzz => by
    have e : k = L.length := by omega
    subst e
    exact ⟨w, z, iter_last (r30q hG hG' hL hs hi h) (by simp), hzz⟩
  | d + 1, k, w, z, seen, o, hd, hse, ho, hzz => by
    obtain ⟨w1, z1, g1, g2⟩ := r30p hG hG' hL hs hi h (n' := n') (v := v) (sz := sz) (os := os) (k := k) (w := w) (z := z) (seen := seen) (o := o) (by omega) hse (by omega) hzz
    have hc := cand_len (G := G) (L := L) (m := gt L i) (k := k) (q := (seen, o))
    obtain ⟨w', z', g3, g4⟩ := l30k h d (k + 1) w1 z1 (cand G L (gt L i) k (seen, o)).1 (cand G L (gt L i) k (seen, o)).2 (by omega) (by rw [hc.1]; exact hse) (by have := hc.2; simp only at this; omega) g2
    exact ⟨w', z', iter_normal g1 g3, g4⟩
end
theorem candS_len (G L : List (List Int)) (m : List Int) : ∀ (d k : Nat) (q : List Bool × List Int), (candS G L m d k q).1.length = q.1.length ∧ (candS G L m d k q).2.length ≤ q.2.length + d
  | 0, k, q => ⟨rfl, Nat.le_refl _⟩
  | d + 1, k, q => by
    have h1 := candS_len G L m d (k + 1) (cand G L m k q)
    have h2 := cand_len (G := G) (L := L) (m := m) (k := k) (q := q)
    exact ⟨h1.1.trans h2.1, by have := h1.2; have := h2.2; simp only [candS]; omega⟩
def step30 (G L : List (List Int)) (i : Nat) (q : List Bool × List (List Int)) : List Bool × List (List Int) :=
  if q.1.getD i false = true then q else
    let r := candS G L (gt L i) (L.length - i) i (q.1, [])
    (r.1, q.2 ++ [r.2])
def st30 (G L : List (List Int)) : Nat → List Bool × List (List Int)
  | 0 => (List.replicate L.length false, [])
  | i + 1 => step30 G L i (st30 G L i)
theorem st30_len (G L : List (List Int)) : ∀ i, (st30 G L i).1.length = L.length ∧ (st30 G L i).2.length ≤ i
  | 0 => by simp [st30]
  | i + 1 => by
    have ih := st30_len G L i
    simp only [st30, step30]
    split
    · omega
    · have := (candS_len G L (gt L i) (L.length - i) i ((st30 G L i).1, [])).1
      simp only [this, List.length_append, List.length_cons, List.length_nil]
      exact ⟨ih.1, by omega⟩
section
variable {a : Code} (h : loopOf 4 Try.f30 = some a) {G L : List (List Int)} {n : Nat} (hG : GrpN G n) (hG' : G.length ≤ 1000) (hL : L.length ≤ 64) (hs : ∀ x ∈ L, x.length = n)
include h hG hG' hL hs
def s30 (G L : List (List Int)) (v sz : Nat) (q : List Bool × List (List Int)) (i : Nat) : St :=
  ([(0, Iss G), (1, Iss L), (9, .ms 1 v 0 q.2.length sz), (10, .ms 2 0 0 L.length 1), (11, I i)], [.cells true 0 [], .cells true v (q.2.map Is), .cells true 0 (q.1.map B)])
theorem r30x {i v sz : Nat} {q : List Bool × List (List Int)} (hi : i < L.length) (hq : q.1.length = L.length) (hq' : q.2.length ≤ i) (hsz : sz = 1 ∨ sz = 0 ∧ q.2.length = 0) :
    ∃ v' sz', roundA Try.cfg 30 iter (call Try.cfg) 4 a (s30 G L v sz q i) = some (.normal, s30 G L v' sz' (step30 G L i q) (i + 1)) ∧ (sz' = 1 ∨ sz' = 0 ∧ (step30 G L i q).2.length = 0) := by
  obtain ⟨seen, os⟩ := q
  simp only at hq hq' hsz
  have hsi : seen[i]? = some (seen.getD i false) := by simp [show i < seen.length by omega]
  cases hb : seen.getD i false with
  | true =>
    rw [hb] at hsi
    have e : step30 G L i (seen, os) = (seen, os) := by simp only [step30, hb]; simp
    rw [e]
    refine ⟨v, sz, ?_, hsz⟩
    cases h
    simp -implicitDefEqProofs (maxSteps := 1000000) (disch := omega) only [push_cast, ↓dstAt_zero, ↓dstAt_succ, ↓arun_skip, ↓arun_region, ↓arun_seq, ↓arun_cond, ↓arun_block, ↓arun_loop, ↓arun_exit, ↓arun_ret, aops_nil, aops_cons, aops_cons_guard, ↓putA_some, ↓putA_none, ↓aop_move, ↓aop_assign, ↓aop_pick, ↓aop_alloc, ↓aop_box, ↓aop_build, ↓aop_buildSlice, ↓aop_load, ↓aop_store, ↓aop_nilCheck, ↓aop_binOp, ↓aop_unOp, ↓aop_convert, ↓aop_makeSlice, ↓aop_fieldAddr, ↓aop_field, ↓aop_indexAddr, ↓aop_index, ↓aop_lookup, ↓aop_mapUpdate, ↓aop_insert, ↓aop_extract, ↓aop_callB, ↓aop_callF, ↓aop_callT, ↓aop_makeFunc, ↓aop_makeMap, ↓aop_slice, ↓aevs_nil, ↓aevs_cons, ↓evP_nil, ↓evP_cons, ↓aevO_none, ↓aevO_some, ↓reduceIte, reduceCtorEq, Nat.reduceEqDiff, Nat.reduceAdd, Nat.reduceLT, Nat.reduceSub, Nat.reduceMul, Nat.reduceLeDiff, if_true, if_false, if_pos, if_neg, s30, Iss, hsi]
    try rfl
  | false =>
    rw [hb] at hsi
    cases h6 : loopOf 6 Try.f30 with
    | none => cases h6
    | some a6 =>
    obtain ⟨w', z', g1, g2⟩ := l30k hG hG' hL hs hi h6 (n' := os.length) (v := v) (sz := sz) (os := os) (L.length - i) i 0 0 seen [] (by omega) hq (by simp) (Or.inr ⟨rfl, rfl⟩)
    have e : step30 G L i (seen, os) = ((candS G L (gt L i) (L.length - i) i (seen, [])).1, os ++ [(candS G L (gt L i) (L.length - i) i (seen, [])).2]) := by simp only [step30, hb]; simp
    rw [e]
    have hcl := candS_len G L (gt L i) (L.length - i) i (seen, [])
    generalize candS G L (gt L i) (L.length - i) i (seen, []) = r at *
    obtain ⟨seen', o⟩ := r
    simp only at g1 g2 hcl
    refine ⟨v + 1, 1, ?_, Or.inl rfl⟩
    have e1 : (o.map I).take (o.length * z') = o.map I := by
      rcases g2 with rfl | ⟨rfl, h0⟩
      · exact List.take_of_length_le (by simp)
      · rw [List.length_eq_zero_iff.1 h0]; simp
    have e2 : o.length * z' ≤ o.length := by
      rcases g2 with rfl | ⟨rfl, h0⟩ <;> omega
    have e3 : (os.map Is).take (os.length * sz) = os.map Is := by
      rcases hsz with rfl | ⟨rfl, h0⟩
      · exact List.take_of_length_le (by simp)
      · rw [List.length_eq_zero_iff.1 h0]; simp
    have e4 : os.length * sz ≤ os.length := by
      rcases hsz with rfl | ⟨rfl, h0⟩ <;> omega
    have e5 : sz = 0 ∨ sz = 1 := by omega
    have e6 : os.map Is ++ [.sl false o.length (o.map I)] = (os ++ [o]).map Is := by rw [List.map_append]; rfl
    have e7 : (os ++ [o]).length = os.length + 1 := by simp
    cases h
    cases h6
    simp only [s30k, Iss, Is, List.map_nil, List.length_nil] at g1
    simp -implicitDefEqProofs (maxSteps := 1000000) (disch := omega) only [push_cast, ↓dstAt_zero, ↓dstAt_succ, ↓arun_skip, ↓arun_region, ↓arun_seq, ↓arun_cond, ↓arun_block, ↓arun_loop, ↓arun_exit, ↓arun_ret, aops_nil, aops_cons, aops_cons_guard, ↓putA_some, ↓putA_none, ↓aop_move, ↓aop_assign, ↓aop_pick, ↓aop_alloc, ↓aop_box, ↓aop_build, ↓aop_buildSlice, ↓aop_load, ↓aop_store, ↓aop_nilCheck, ↓aop_binOp, ↓aop_unOp, ↓aop_convert, ↓aop_makeSlice, ↓aop_fieldAddr, ↓aop_field, ↓aop_indexAddr, ↓aop_index, ↓aop_lookup, ↓aop_mapUpdate, ↓aop_insert, ↓aop_extract, ↓aop_callB, ↓aop_callF, ↓aop_callT, ↓aop_makeFunc, ↓aop_makeMap, ↓aop_slice, ↓aevs_nil, ↓aevs_cons, ↓evP_nil, ↓evP_cons, ↓aevO_none, ↓aevO_some, ↓reduceIte, reduceCtorEq, Nat.reduceEqDiff, Nat.reduceAdd, Nat.reduceLT, Nat.reduceSub, Nat.reduceMul, Nat.reduceLeDiff, if_true, if_false, if_pos, if_neg, s30, Iss, hsi, g1, e1, e2, e3, e4, e5]
    simp only [e6, underL_Is, Bool.and_self, if_true, obind_some, e7]
    try rfl
theorem r30y {v sz : Nat} {q : List Bool × List (List Int)} : roundA Try.cfg 30 iter (call Try.cfg) 4 a (s30 G L v sz q L.length) = some (.exit 4, [(9, .ms 1 v 0 q.2.length sz)], [.cells true 0 [], .cells true v (q.2.map Is), .cells true 0 (q.1.map B)]) := by
  cases h
  simp -implicitDefEqProofs (maxSteps := 1000000) (disch := omega) only [push_cast, ↓dstAt_zero, ↓dstAt_succ, ↓arun_skip, ↓arun_region, ↓arun_seq, ↓arun_cond, ↓arun_block, ↓arun_loop, ↓arun_exit, ↓arun_ret, aops_nil, aops_cons, aops_cons_guard, ↓putA_some, ↓putA_none, ↓aop_move, ↓aop_assign, ↓aop_pick, ↓aop_alloc, ↓aop_box, ↓aop_build, ↓aop_buildSlice, ↓aop_load, ↓aop_store, ↓aop_nilCheck, ↓aop_binOp, ↓aop_unOp, ↓aop_convert, ↓aop_makeSlice, ↓aop_fieldAddr, ↓aop_field, ↓aop_indexAddr, ↓aop_index, ↓aop_lookup, ↓aop_mapUpdate, ↓aop_insert, ↓aop_extract, ↓aop_callB, ↓aop_callF, ↓aop_callT, ↓aop_makeFunc, ↓aop_makeMap, ↓aop_slice, ↓aevs_nil, ↓aevs_cons, ↓evP_nil, ↓evP_cons, ↓aevO_none, ↓aevO_some, ↓reduceIte, reduceCtorEq, Nat.reduceEqDiff, Nat.reduceAdd, Nat.reduceLT, Nat.reduceSub, Nat.reduceMul, Nat.reduceLeDiff, if_true, if_false, if_pos, if_neg, s30, Iss, Int.lt_irrefl]
theorem l30 : ∀ (d i v sz : Nat), i + d = L.length → (sz = 1 ∨ sz = 0 ∧ (st30 G L i).2.length = 0) → ∃ v' sz', iter (roundA Try.cfg 30 iter (call Try.cfg) 4 a) (s30 G L v sz (st30 G L i) i) = some (.exit 4, [(9, .ms 1 v' 0 (st30 G L L.length).2.length sz')], [.cells true 0 [], .cells true v' ((st30 G L L.length).2.map Is), .cells true 0 ((st30 G L L.length).1.map B)]) ∧ (sz' = 1 ∨ sz' = 0 ∧ (st30 G L L.length).2.length = 0)
  | 0, i, v, sz, hd, hsz => by
    have e : i = L.length := by omega
    subst e
    exact ⟨v, sz, iter_last (r30y h hG hG' hL hs) (by simp), hsz⟩
  | d + 1, i, v, sz, hd, hsz => by
    have hl := st30_len G L i
    obtain ⟨v1, sz1, g1, g2⟩ := r30x h hG hG' hL hs (i := i) (v := v) (sz := sz) (q := st30 G L i) (by omega) hl.1 hl.2 hsz
    obtain ⟨v', sz', g3, g4⟩ := l30 d (i + 1) v1 sz1 (by omega) g2
    exact ⟨v', sz', iter_normal g1 g3, g4⟩
end
/-- What Orbits returns. -/
def orbL (G L : List (List Int)) (O : List (List Int)) : List (List Int) × Int :=
  if isG G && (List.range' 0 L.length).all (fun j => monV (gt L j)) then
    if (List.range' 0 L.length).all (fun i => decide ((gt L i).length = (gt G 0).length)) then
      if 64 < L.length then ([], 2) else (O, 0)
    else ([], 4)
  else ([], 1)
theorem len_of_all {G L : List (List Int)} (h : (List.range' 0 L.length).all (fun i => decide ((gt L i).length = (gt G 0).length)) = true) : ∀ x ∈ L, x.length = (gt G 0).length := by
  intro x hx
  obtain ⟨j, hj⟩ := List.mem_iff_getElem?.1 hx
  have hjl := lt_of_get hj
  rw [gt_some hjl] at hj
  cases hj
  have := List.all_eq_true.1 h j (by simp [List.mem_range']; omega)
  exact of_decide_eq_true this
theorem call30 {G L : List (List Int)} (hG : G.length ≤ 720) (hGs : ∀ x ∈ G, x.length ≤ 1000) (hL : L.length ≤ 1000) (hs : ∀ x ∈ L, x.length ≤ 1000) : call Try.cfg 30 [.sl false G.length (G.map Is), .sl false L.length (L.map Is)] [] = some (.tu [.sl false (orbL G L (st30 G L L.length).2).1.length ((orbL G L (st30 G L L.length).2).1.map Is), .v (.int .i64 (orbL G L (st30 G L L.length).2).2)], []) := by
  refine call_step ?_
  have h12 := call12 (L := G) hG hGs
  cases h0 : loopOf 0 Try.f30 with
  | none => cases h0
  | some a0 =>
  cases h2 : loopOf 2 Try.f30 with
  | none => cases h2
  | some a2 =>
  cases h4 : loopOf 4 Try.f30 with
  | none => cases h4
  | some a4 =>
  have g0 := l30a h0 hL hs (G := G) L.length 0 (isG G) (by omega)
  cases hA : (isG G && (List.range' 0 L.length).all fun j => monV (gt L j)) with
  | false =>
    rw [hA] at g0
    have e : orbL G L (st30 G L L.length).2 = ([], 1) := by simp only [orbL, hA]; simp
    rw [e]
    cases h0
    simp only [s30a, Iss, Int.natCast_zero] at g0
    simp -implicitDefEqProofs (maxSteps := 1000000) (disch := omega) only [stepA, bodyA, Try.f30, push_cast, ↓dstAt_zero, ↓dstAt_succ, ↓arun_skip, ↓arun_region, ↓arun_seq, ↓arun_cond, ↓arun_block, ↓arun_loop, ↓arun_exit, ↓arun_ret, aops_nil, aops_cons, aops_cons_guard, ↓putA_some, ↓putA_none, ↓aop_move, ↓aop_assign, ↓aop_pick, ↓aop_alloc, ↓aop_box, ↓aop_build, ↓aop_buildSlice, ↓aop_load, ↓aop_store, ↓aop_nilCheck, ↓aop_binOp, ↓aop_unOp, ↓aop_convert, ↓aop_makeSlice, ↓aop_fieldAddr, ↓aop_field, ↓aop_indexAddr, ↓aop_index, ↓aop_lookup, ↓aop_mapUpdate, ↓aop_insert, ↓aop_extract, ↓aop_callB, ↓aop_callF, ↓aop_callT, ↓aop_makeFunc, ↓aop_makeMap, ↓aop_slice, ↓aevs_nil, ↓aevs_cons, ↓evP_nil, ↓evP_cons, ↓aevO_none, ↓aevO_some, ↓reduceIte, reduceCtorEq, Nat.reduceEqDiff, Nat.reduceAdd, Nat.reduceLT, Nat.reduceSub, Nat.reduceMul, Nat.reduceLeDiff, if_true, if_false, if_pos, if_neg, h12, g0]
  | true =>
    rw [hA] at g0
    obtain ⟨hg, hp⟩ := isG_grp (Bool.and_eq_true_iff.1 hA).1
    have g2 := l30b h2 hL hs hp (hGs _ (List.mem_of_getElem? (gt_some hp)))
    cases hC : (List.range' 0 L.length).all (fun i => decide ((gt L i).length = (gt G 0).length)) with
    | false =>
      rw [hC, if_neg (by simp)] at g2
      have e : orbL G L (st30 G L L.length).2 = ([], 4) := by simp only [orbL, hA, hC]; simp
      rw [e]
      cases h0
      cases h2
      simp only [s30a, s30b, Iss, Int.natCast_zero] at g0 g2
      simp -implicitDefEqProofs (maxSteps := 1000000) (disch := omega) only [stepA, bodyA, Try.f30, push_cast, ↓dstAt_zero, ↓dstAt_succ, ↓arun_skip, ↓arun_region, ↓arun_seq, ↓arun_cond, ↓arun_block, ↓arun_loop, ↓arun_exit, ↓arun_ret, aops_nil, aops_cons, aops_cons_guard, ↓putA_some, ↓putA_none, ↓aop_move, ↓aop_assign, ↓aop_pick, ↓aop_alloc, ↓aop_box, ↓aop_build, ↓aop_buildSlice, ↓aop_load, ↓aop_store, ↓aop_nilCheck, ↓aop_binOp, ↓aop_unOp, ↓aop_convert, ↓aop_makeSlice, ↓aop_fieldAddr, ↓aop_field, ↓aop_indexAddr, ↓aop_index, ↓aop_lookup, ↓aop_mapUpdate, ↓aop_insert, ↓aop_extract, ↓aop_callB, ↓aop_callF, ↓aop_callT, ↓aop_makeFunc, ↓aop_makeMap, ↓aop_slice, ↓aevs_nil, ↓aevs_cons, ↓evP_nil, ↓evP_cons, ↓aevO_none, ↓aevO_some, ↓reduceIte, reduceCtorEq, Nat.reduceEqDiff, Nat.reduceAdd, Nat.reduceLT, Nat.reduceSub, Nat.reduceMul, Nat.reduceLeDiff, if_true, if_false, if_pos, if_neg, h12, g0, g2]
    | true =>
      rw [hC, if_pos rfl] at g2
      by_cases hB : 64 < L.length
      · have e : orbL G L (st30 G L L.length).2 = ([], 2) := by simp only [orbL, hA, hC, if_true, hB]
        rw [e]
        cases h0
        cases h2
        simp only [s30a, s30b, Iss, Int.natCast_zero] at g0 g2
        simp -implicitDefEqProofs (maxSteps := 1000000) (disch := omega) only [stepA, bodyA, Try.f30, push_cast, ↓dstAt_zero, ↓dstAt_succ, ↓arun_skip, ↓arun_region, ↓arun_seq, ↓arun_cond, ↓arun_block, ↓arun_loop, ↓arun_exit, ↓arun_ret, aops_nil, aops_cons, aops_cons_guard, ↓putA_some, ↓putA_none, ↓aop_move, ↓aop_assign, ↓aop_pick, ↓aop_alloc, ↓aop_box, ↓aop_build, ↓aop_buildSlice, ↓aop_load, ↓aop_store, ↓aop_nilCheck, ↓aop_binOp, ↓aop_unOp, ↓aop_convert, ↓aop_makeSlice, ↓aop_fieldAddr, ↓aop_field, ↓aop_indexAddr, ↓aop_index, ↓aop_lookup, ↓aop_mapUpdate, ↓aop_insert, ↓aop_extract, ↓aop_callB, ↓aop_callF, ↓aop_callT, ↓aop_makeFunc, ↓aop_makeMap, ↓aop_slice, ↓aevs_nil, ↓aevs_cons, ↓evP_nil, ↓evP_cons, ↓aevO_none, ↓aevO_some, ↓reduceIte, reduceCtorEq, Nat.reduceEqDiff, Nat.reduceAdd, Nat.reduceLT, Nat.reduceSub, Nat.reduceMul, Nat.reduceLeDiff, if_true, if_false, if_pos, if_neg, h12, g0, g2]
      · have e : orbL G L (st30 G L L.length).2 = ((st30 G L L.length).2, 0) := by simp only [orbL, hA, hC, if_true, hB, if_false]
        rw [e]
        have hsl := len_of_all hC
        obtain ⟨v', sz', g4, g5⟩ := l30 h4 hg (by omega) (by omega) hsl L.length 0 0 0 (by omega) (Or.inr ⟨rfl, rfl⟩)
        have hl := st30_len G L L.length
        have e0 : st30 G L 0 = (List.replicate L.length false, []) := rfl
        rw [e0] at g4
        generalize st30 G L L.length = q at *
        obtain ⟨seen, os⟩ := q
        simp only at g4 g5 hl
        have e3 : (os.map Is).take (os.length * sz') = os.map Is := by
          rcases g5 with rfl | ⟨rfl, h0⟩
          · exact List.take_of_length_le (by simp)
          · rw [List.length_eq_zero_iff.1 h0]; simp
        have e4 : os.length * sz' ≤ os.length := by
          rcases g5 with rfl | ⟨rfl, h0⟩ <;> omega
        cases h0
        cases h2
        cases h4
        simp only [s30a, s30b, s30, Iss, Int.natCast_zero, List.length_nil, List.map_nil] at g0 g2 g4
        simp -implicitDefEqProofs (maxSteps := 1000000) (disch := omega) only [stepA, bodyA, Try.f30, push_cast, ↓dstAt_zero, ↓dstAt_succ, ↓arun_skip, ↓arun_region, ↓arun_seq, ↓arun_cond, ↓arun_block, ↓arun_loop, ↓arun_exit, ↓arun_ret, aops_nil, aops_cons, aops_cons_guard, ↓putA_some, ↓putA_none, ↓aop_move, ↓aop_assign, ↓aop_pick, ↓aop_alloc, ↓aop_box, ↓aop_build, ↓aop_buildSlice, ↓aop_load, ↓aop_store, ↓aop_nilCheck, ↓aop_binOp, ↓aop_unOp, ↓aop_convert, ↓aop_makeSlice, ↓aop_fieldAddr, ↓aop_field, ↓aop_indexAddr, ↓aop_index, ↓aop_lookup, ↓aop_mapUpdate, ↓aop_insert, ↓aop_extract, ↓aop_callB, ↓aop_callF, ↓aop_callT, ↓aop_makeFunc, ↓aop_makeMap, ↓aop_slice, ↓aevs_nil, ↓aevs_cons, ↓evP_nil, ↓evP_cons, ↓aevO_none, ↓aevO_some, ↓reduceIte, reduceCtorEq, Nat.reduceEqDiff, Nat.reduceAdd, Nat.reduceLT, Nat.reduceSub, Nat.reduceMul, Nat.reduceLeDiff, if_true, if_false, if_pos, if_neg, h12, g0, g2, g4, e3, e4]
        try rfl
end Go.Proofs

/- group.Orbits: the function. -/
set_option linter.unusedVariables false
set_option linter.unusedSimpArgs false
set_option linter.unusedSectionVars false
namespace Go.Proofs
open Go.AI
set_option maxRecDepth 20000
set_option maxHeartbeats 4000000
def step29 (G L : List (List Int)) (i : Nat) (q : List (List Int × Nat) × List (List Int)) : List (List Int × Nat) × List (List Int) :=
  match lkE q.1 (gt L i) with
  | some c => (q.1, q.2.set c (gi q.2 c ++ [(i : Int)]))
  | none => (upG G (gt L i) q.2.length q.1 G.length, q.2 ++ [[(i : Int)]])
def st29 (G L : List (List Int)) : Nat → List (List Int × Nat) × List (List Int)
  | 0 => ([], [])
  | i + 1 => step29 G L i (st29 G L i)
/-- What the map and the orbits are always like. -/
structure Ok29 (n i : Nat) (q : List (List Int × Nat) × List (List Int)) : Prop where
  len : ∀ p ∈ q.1, p.1.length = n
  le : q.2.length ≤ i
  ins : ∀ x ∈ q.2, x.length ≤ i
  lt : ∀ x c, lkE q.1 x = some c → c < q.2.length
theorem ok29_step {G L : List (List Int)} {n i : Nat} {q : List (List Int × Nat) × List (List Int)} (hs : ∀ x ∈ L, x.length = n) (hi : i < L.length) (h : Ok29 n i q) : Ok29 n (i + 1) (step29 G L i q) := by
  have hlen := hs _ (List.mem_of_getElem? (gt_some hi))
  unfold step29
  cases hk : lkE q.1 (gt L i) with
  | some c =>
    have hc := h.lt _ _ hk
    refine ⟨h.len, ?_, fun x hx => ?_, fun x d hd => ?_⟩
    · have := h.le; simp; omega
    · rcases List.mem_or_eq_of_mem_set hx with hx | rfl
      · have := h.ins x hx; omega
      · have := h.ins (gi q.2 c) (List.mem_of_getElem? (show q.2[c]? = some (gi q.2 c) by simp [gi, hc]))
        simp; omega
    · have := h.lt x d hd
      simpa using this
  | none =>
    refine ⟨upG_len hlen _ h.len _, ?_, fun x hx => ?_, fun x d hd => ?_⟩
    · have := h.le; simp; omega
    · rcases List.mem_append.1 hx with hx | hx
      · have := h.ins x hx; omega
      · rw [List.mem_singleton.1 hx]; simp
    · rw [lkE_upG] at hd
      split at hd
      · cases hd; simp
      · have := h.lt x d hd
        simp; omega
theorem ok29 {G L : List (List Int)} {n : Nat} (hs : ∀ x ∈ L, x.length = n) : ∀ i, i ≤ L.length → Ok29 n i (st29 G L i)
  | 0, _ => ⟨(fun p hp => by cases hp), Nat.le_refl _, (fun x hx => by cases hx), fun x c h => by cases h⟩
  | i + 1, hi => ok29_step hs (by omega) (ok29 hs i (by omega))
section
variable {a : Code} (h : loopOf 4 Try.f29 = some a) {G L : List (List Int)} {n : Nat} (hG : GrpN G n) (hG' : G.length ≤ 1000) (hL : L.length ≤ 64) (hs : ∀ x ∈ L, x.length = n)
include h hG hG' hL hs
theorem r29z {X : AV} {v k sz : Nat} {H : Heap} : roundA Try.cfg 29 iter (call Try.cfg) 4 a (s29 G X L.length v k sz L.length H) = some (.exit 4, [(13, .ms 2 v 0 k sz)], H) := by
  cases h
  simp -implicitDefEqProofs (maxSteps := 1000000) (disch := omega) only [push_cast, ↓dstAt_zero, ↓dstAt_succ, ↓arun_skip, ↓arun_region, ↓arun_seq, ↓arun_cond, ↓arun_block, ↓arun_loop, ↓arun_exit, ↓arun_ret, aops_nil, aops_cons, aops_cons_guard, ↓putA_some, ↓putA_none, ↓aop_move, ↓aop_assign, ↓aop_pick, ↓aop_alloc, ↓aop_box, ↓aop_build, ↓aop_buildSlice, ↓aop_load, ↓aop_store, ↓aop_nilCheck, ↓aop_binOp, ↓aop_unOp, ↓aop_convert, ↓aop_makeSlice, ↓aop_fieldAddr, ↓aop_field, ↓aop_indexAddr, ↓aop_index, ↓aop_lookup, ↓aop_mapUpdate, ↓aop_insert, ↓aop_extract, ↓aop_callB, ↓aop_callF, ↓aop_callT, ↓aop_makeFunc, ↓aop_makeMap, ↓aop_slice, ↓aevs_nil, ↓aevs_cons, ↓evP_nil, ↓evP_cons, ↓aevO_none, ↓aevO_some, ↓reduceIte, reduceCtorEq, Nat.reduceEqDiff, Nat.reduceAdd, Nat.reduceLT, Nat.reduceSub, Nat.reduceMul, Nat.reduceLeDiff, if_true, if_false, if_pos, if_neg, s29, Iss, Int.lt_irrefl]
theorem l29 : ∀ (d i v sz : Nat) (H : Heap) (bf vf : Nat → Nat), i + d = L.length → (sz = 1 ∨ sz = 0 ∧ (st29 G L i).2.length = 0) → Orb H v (st29 G L i).1 (st29 G L i).2 bf vf →
    ∃ H' v' sz' bf' vf', iter (roundA Try.cfg 29 iter (call Try.cfg) 4 a) (s29 G (.sl false L.length (exC L L.length)) L.length v (st29 G L i).2.length sz i H) = some (.exit 4, [(13, .ms 2 v' 0 (st29 G L L.length).2.length sz')], H') ∧ Orb H' v' (st29 G L L.length).1 (st29 G L L.length).2 bf' vf' ∧ (sz' = 1 ∨ sz' = 0 ∧ (st29 G L L.length).2.length = 0)
  | 0, i, v, sz, H, bf, vf, hd, hsz, hO => by
    have e : i = L.length := by omega
    subst e
    exact ⟨H, v, sz, bf, vf, iter_last (r29z h hG hG' hL hs) (by simp), hO, hsz⟩
  | d + 1, i, v, sz, H, bf, vf, hd, hsz, hO => by
    have ok := ok29 (G := G) hs i (by omega)
    have hstep : st29 G L (i + 1) = step29 G L i (st29 G L i) := rfl
    generalize hq : st29 G L i = q at *
    obtain ⟨ps, os⟩ := q
    simp only at hO ok hsz ⊢
    have hps : ∀ p ∈ ps, p.1.length = n := ok.len
    have hol : os.length ≤ i := ok.le
    have hin : ∀ x ∈ os, x.length ≤ 64 := fun x hx => by have := ok.ins x hx; omega
    cases hk : lkE ps (gt L i) with
    | some c =>
      have hc : c < os.length := ok.lt _ _ hk
      have hsz1 : sz = 1 := by omega
      subst hsz1
      obtain ⟨H1, vf1, g1, g2⟩ := r29f h hG hG' hL hs hO hps (show i < L.length by omega) hol hin hc hk
      have e : st29 G L (i + 1) = (ps, os.set c (gi os c ++ [(i : Int)])) := by rw [hstep]; simp only [step29, hk]
      obtain ⟨H', v', sz', bf', vf', g3, g4, g5⟩ := l29 d (i + 1) v 1 H1 bf vf1 (by omega) (Or.inl rfl) (by rw [e]; exact g2)
      refine ⟨H', v', sz', bf', vf', iter_normal g1 ?_, g4, g5⟩
      rw [e] at g3
      simpa using g3
    | none =>
      obtain ⟨H1, v1, bf1, vf1, g1, g2⟩ := r29n h hG hG' hL hs hO hps (show i < L.length by omega) hol hin hsz hk
      have e : st29 G L (i + 1) = (upG G (gt L i) os.length ps G.length, os ++ [[(i : Int)]]) := by rw [hstep]; simp only [step29, hk]
      obtain ⟨H', v', sz', bf', vf', g3, g4, g5⟩ := l29 d (i + 1) v1 1 H1 bf1 vf1 (by omega) (Or.inl rfl) (by rw [e]; exact g2)
      refine ⟨H', v', sz', bf', vf', iter_normal g1 ?_, g4, g5⟩
      rw [e] at g3
      simpa using g3
end
theorem mapC_each {α : Type} (f : AV → Option (AV × List Nat)) (g h : α → AV) (b : α → List Nat) : ∀ l : List α, (∀ x ∈ l, f (g x) = some (h x, b x)) → mapC f (l.map g) = some (l.map h, l.flatMap b)
  | [], _ => rfl
  | x :: r, hl => by
    simp only [List.map_cons, mapC, hl x (by simp), obind_some, mapC_each f g h b r (fun y hy => hl y (by simp [hy])), List.flatMap_cons]
theorem range_gi (os : List (List Int)) : (List.range os.length).map (fun c => Is (gi os c)) = os.map Is := by
  apply List.ext_getElem?
  intro d
  by_cases hd : d < os.length
  · simp [hd, gi]
  · simp [hd]
theorem close_O {H : Heap} {v : Nat} {ps : List (List Int × Nat)} {os : List (List Int)} {bf vf : Nat → Nat} (hO : Orb H v ps os bf vf) (k : Nat) : mapC (closeA (k + 2) H) (cellsO os bf vf) = some (os.map Is, (List.range os.length).flatMap fun c => [bf c]) := by
  unfold cellsO
  rw [← range_gi]
  refine mapC_each _ _ _ _ _ fun c hc => ?_
  have hc : c < os.length := by simpa using hc
  obtain ⟨_, hb⟩ := hO.blk c hc
  rw [closeA_ms_gen, hb, closeRow_cells, if_pos rfl, if_pos (by simp)]
  have e : ((gi os c).map I).take ((gi os c).length * 1) = (gi os c).map I := List.take_of_length_le (by simp)
  simp only [List.drop_zero, e, rowA, goodL_I, if_true, obind_some]
  rfl
theorem goodL_O {os : List (List Int)} {bf vf : Nat → Nat} (h : os.length ≠ 0) : goodL (cellsO os bf vf) = false := by
  obtain ⟨x, r, rfl⟩ := List.exists_cons_of_ne_nil (l := os) (fun e => h (by rw [e]; rfl))
  simp only [cellsO, List.length_cons, List.range_succ_eq_map, List.map_cons, goodL, AV.good, Bool.false_and]
theorem call29 {G L : List (List Int)} (hG : G.length ≤ 720) (hGs : ∀ x ∈ G, x.length ≤ 1000) (hL : L.length ≤ 1000) (hs : ∀ x ∈ L, x.length ≤ 1000) : call Try.cfg 29 [.sl false G.length (G.map Is), .sl false L.length (L.map Is)] [] = some (.tu [.sl false (orbL G L (st29 G L L.length).2).1.length ((orbL G L (st29 G L L.length).2).1.map Is), .v (.int .i64 (orbL G L (st29 G L L.length).2).2)], []) := by
  refine call_step ?_
  have h11 := call11 (L := G) (by omega) hGs
  cases h0 : loopOf 0 Try.f29 with
  | none => cases h0
  | some a0 =>
  cases h2 : loopOf 2 Try.f29 with
  | none => cases h2
  | some a2 =>
  cases h4 : loopOf 4 Try.f29 with
  | none => cases h4
  | some a4 =>
  cases hg : isG G with
  | false =>
    have e : orbL G L (st29 G L L.length).2 = ([], 1) := by simp only [orbL, hg]; simp
    rw [e]
    rw [hg] at h11
    simp -implicitDefEqProofs (maxSteps := 1000000) (disch := omega) only [stepA, bodyA, Try.f29, push_cast, ↓dstAt_zero, ↓dstAt_succ, ↓arun_skip, ↓arun_region, ↓arun_seq, ↓arun_cond, ↓arun_block, ↓arun_loop, ↓arun_exit, ↓arun_ret, aops_nil, aops_cons, aops_cons_guard, ↓putA_some, ↓putA_none, ↓aop_move, ↓aop_assign, ↓aop_pick, ↓aop_alloc, ↓aop_box, ↓aop_build, ↓aop_buildSlice, ↓aop_load, ↓aop_store, ↓aop_nilCheck, ↓aop_binOp, ↓aop_unOp, ↓aop_convert, ↓aop_makeSlice, ↓aop_fieldAddr, ↓aop_field, ↓aop_indexAddr, ↓aop_index, ↓aop_lookup, ↓aop_mapUpdate, ↓aop_insert, ↓aop_extract, ↓aop_callB, ↓aop_callF, ↓aop_callT, ↓aop_makeFunc, ↓aop_makeMap, ↓aop_slice, ↓aevs_nil, ↓aevs_cons, ↓evP_nil, ↓evP_cons, ↓aevO_none, ↓aevO_some, ↓reduceIte, reduceCtorEq, Nat.reduceEqDiff, Nat.reduceAdd, Nat.reduceLT, Nat.reduceSub, Nat.reduceMul, Nat.reduceLeDiff, if_true, if_false, if_pos, if_neg, h11]
  | true =>
    rw [hg] at h11
    obtain ⟨hgr, hp⟩ := isG_grp hg
    obtain ⟨v1, sz1, cs1, g0, g0'⟩ := l29a h0 hL hs (G := G) L.length 0 0 0 (by omega) (Or.inr ⟨rfl, rfl⟩)
    cases hA : (List.range' 0 L.length).all (fun j => monV (gt L j)) with
    | false =>
      rw [hA, if_neg (by simp)] at g0
      have e : orbL G L (st29 G L L.length).2 = ([], 1) := by simp only [orbL, hg, hA]; simp
      rw [e]
      cases h0
      have e0 : exC L 0 = [] := by simp [exC]
      simp only [s29a, Iss, Int.natCast_zero, e0] at g0
      simp -implicitDefEqProofs (maxSteps := 1000000) (disch := omega) only [stepA, bodyA, Try.f29, push_cast, ↓dstAt_zero, ↓dstAt_succ, ↓arun_skip, ↓arun_region, ↓arun_seq, ↓arun_cond, ↓arun_block, ↓arun_loop, ↓arun_exit, ↓arun_ret, aops_nil, aops_cons, aops_cons_guard, ↓putA_some, ↓putA_none, ↓aop_move, ↓aop_assign, ↓aop_pick, ↓aop_alloc, ↓aop_box, ↓aop_build, ↓aop_buildSlice, ↓aop_load, ↓aop_store, ↓aop_nilCheck, ↓aop_binOp, ↓aop_unOp, ↓aop_convert, ↓aop_makeSlice, ↓aop_fieldAddr, ↓aop_field, ↓aop_indexAddr, ↓aop_index, ↓aop_lookup, ↓aop_mapUpdate, ↓aop_insert, ↓aop_extract, ↓aop_callB, ↓aop_callF, ↓aop_callT, ↓aop_makeFunc, ↓aop_makeMap, ↓aop_slice, ↓aevs_nil, ↓aevs_cons, ↓evP_nil, ↓evP_cons, ↓aevO_none, ↓aevO_some, ↓reduceIte, reduceCtorEq, Nat.reduceEqDiff, Nat.reduceAdd, Nat.reduceLT, Nat.reduceSub, Nat.reduceMul, Nat.reduceLeDiff, if_true, if_false, if_pos, if_neg, h11, g0]
    | true =>
      rw [hA, if_pos rfl] at g0
      obtain ⟨ecs, esz⟩ := g0' hA
      subst ecs
      have e1 := exC_length L L.length (Nat.le_refl _)
      have e2 : (exC L L.length).take (L.length * sz1) = exC L L.length := by
        rcases esz with rfl | ⟨rfl, h0⟩
        · exact List.take_of_length_le (by omega)
        · have e5 : exC L L.length = [] := List.length_eq_zero_iff.1 (by omega)
          rw [e5]; simp
      have e3 : L.length * sz1 ≤ (exC L L.length).length := by
        rcases esz with rfl | ⟨rfl, h0⟩ <;> omega
      have e4 := exC_good L L.length
      have e0 : exC L 0 = [] := by simp [exC]
      have g2 := l29b h2 hL hs hp (by omega) (X := .sl false L.length (exC L L.length)) (b1 := .cells false v1 (exC L L.length))
      cases hC : (List.range' 0 L.length).all (fun i => decide ((gt L i).length = (gt G 0).length)) with
      | false =>
        rw [hC, if_neg (by simp)] at g2
        have e : orbL G L (st29 G L L.length).2 = ([], 4) := by simp only [orbL, hg, hA, hC]; simp
        rw [e]
        cases h0
        cases h2
        simp only [s29a, s29b, Iss, Int.natCast_zero, e0] at g0 g2
        generalize exC L L.length = cs at *
        simp -implicitDefEqProofs (maxSteps := 1000000) (disch := omega) only [stepA, bodyA, Try.f29, push_cast, ↓dstAt_zero, ↓dstAt_succ, ↓arun_skip, ↓arun_region, ↓arun_seq, ↓arun_cond, ↓arun_block, ↓arun_loop, ↓arun_exit, ↓arun_ret, aops_nil, aops_cons, aops_cons_guard, ↓putA_some, ↓putA_none, ↓aop_move, ↓aop_assign, ↓aop_pick, ↓aop_alloc, ↓aop_box, ↓aop_build, ↓aop_buildSlice, ↓aop_load, ↓aop_store, ↓aop_nilCheck, ↓aop_binOp, ↓aop_unOp, ↓aop_convert, ↓aop_makeSlice, ↓aop_fieldAddr, ↓aop_field, ↓aop_indexAddr, ↓aop_index, ↓aop_lookup, ↓aop_mapUpdate, ↓aop_insert, ↓aop_extract, ↓aop_callB, ↓aop_callF, ↓aop_callT, ↓aop_makeFunc, ↓aop_makeMap, ↓aop_slice, ↓aevs_nil, ↓aevs_cons, ↓evP_nil, ↓evP_cons, ↓aevO_none, ↓aevO_some, ↓reduceIte, reduceCtorEq, Nat.reduceEqDiff, Nat.reduceAdd, Nat.reduceLT, Nat.reduceSub, Nat.reduceMul, Nat.reduceLeDiff, if_true, if_false, if_pos, if_neg, h11, g0, e2, e3, e4, g2]
      | true =>
        rw [hC, if_pos rfl] at g2
        by_cases hB : 64 < L.length
        · have e : orbL G L (st29 G L L.length).2 = ([], 2) := by simp only [orbL, hg, hA, hC, Bool.and_self, if_true, hB]
          rw [e]
          cases h0
          cases h2
          simp only [s29a, s29b, Iss, Int.natCast_zero, e0] at g0 g2
          generalize exC L L.length = cs at *
          simp -implicitDefEqProofs (maxSteps := 1000000) (disch := omega) only [stepA, bodyA, Try.f29, push_cast, ↓dstAt_zero, ↓dstAt_succ, ↓arun_skip, ↓arun_region, ↓arun_seq, ↓arun_cond, ↓arun_block, ↓arun_loop, ↓arun_exit, ↓arun_ret, aops_nil, aops_cons, aops_cons_guard, ↓putA_some, ↓putA_none, ↓aop_move, ↓aop_assign, ↓aop_pick, ↓aop_alloc, ↓aop_box, ↓aop_build, ↓aop_buildSlice, ↓aop_load, ↓aop_store, ↓aop_nilCheck, ↓aop_binOp, ↓aop_unOp, ↓aop_convert, ↓aop_makeSlice, ↓aop_fieldAddr, ↓aop_field, ↓aop_indexAddr, ↓aop_index, ↓aop_lookup, ↓aop_mapUpdate, ↓aop_insert, ↓aop_extract, ↓aop_callB, ↓aop_callF, ↓aop_callT, ↓aop_makeFunc, ↓aop_makeMap, ↓aop_slice, ↓aevs_nil, ↓aevs_cons, ↓evP_nil, ↓evP_cons, ↓aevO_none, ↓aevO_some, ↓reduceIte, reduceCtorEq, Nat.reduceEqDiff, Nat.reduceAdd, Nat.reduceLT, Nat.reduceSub, Nat.reduceMul, Nat.reduceLeDiff, if_true, if_false, if_pos, if_neg, h11, g0, e2, e3, e4, g2]
        · have e : orbL G L (st29 G L L.length).2 = ((st29 G L L.length).2, 0) := by simp only [orbL, hg, hA, hC, Bool.and_self, if_true, hB, if_false]
          rw [e]
          have hsl := len_of_all hC
          have hO0 : Orb [.cells true 0 [], .cells false v1 (exC L L.length), .cells true 0 [], .map []] 0 [] [] (fun _ => 0) (fun _ => 0) := ⟨rfl, rfl, fun c hc => by simp at hc, fun c c' hc => by simp at hc⟩
          obtain ⟨H', v', sz', bf', vf', g4, g5, g6⟩ := l29 h4 hgr (by omega) (by omega) hsl L.length 0 0 0 _ _ _ (by omega) (Or.inr ⟨rfl, rfl⟩) hO0
          have ok := ok29 (G := G) hsl L.length (Nat.le_refl _)
          have k1 := close_O g5 36
          have k2 := g5.out
          have k3 := cellsO_length (st29 G L L.length).2 bf' vf'
          have k4 : (cellsO (st29 G L L.length).2 bf' vf').take ((st29 G L L.length).2.length * sz') = cellsO (st29 G L L.length).2 bf' vf' := by
            rcases g6 with rfl | ⟨rfl, h0⟩
            · exact List.take_of_length_le (by omega)
            · rw [h0] at k3
              rw [List.length_eq_zero_iff.1 k3]; simp
          have k5 : (st29 G L L.length).2.length * sz' ≤ (cellsO (st29 G L L.length).2 bf' vf').length := by
            rcases g6 with rfl | ⟨rfl, h0⟩ <;> omega
          have k6 : rowA 38 H' (cellsO (st29 G L L.length).2 bf' vf') = some ((st29 G L L.length).2.map Is, (List.range (st29 G L L.length).2.length).flatMap fun c => [bf' c]) := by
            unfold rowA
            by_cases h0 : (st29 G L L.length).2.length = 0
            · rw [List.length_eq_zero_iff.1 h0]; rfl
            · rw [goodL_O h0]
              exact k1
          have es0 : (st29 G L 0) = ([], []) := rfl
          rw [es0] at g4
          clear ok
          generalize st29 G L L.length = q at *
          obtain ⟨ps, os⟩ := q
          simp only at g4 k1 k2 k3 k4 k5 k6
          generalize cellsO os bf' vf' = O at *
          obtain ⟨bs, k7⟩ : ∃ bs, closeA depthA H' (.tu [.ms 2 v' 0 os.length sz', .v (.int .i64 0)]) = some (.tu [.sl false os.length (os.map Is), .v (.int .i64 0)], bs) := ⟨_, by
            rw [closeA_tu]
            simp only [goodL_cons, good_ms, Bool.false_and, Bool.false_eq_true, if_false, mapC_cons', closeA39_ms, k2, closeRow_cells, if_true, Nat.zero_add, k5, List.drop_zero, k4, k6, obind_some, closeA39_v, mapC_nil']
            rfl⟩
          cases h0
          cases h2
          cases h4
          simp only [s29a, s29b, s29, Iss, Int.natCast_zero, List.length_nil, e0] at g0 g2 g4
          generalize exC L L.length = cs at *
          simp -implicitDefEqProofs (maxSteps := 1000000) (disch := omega) only [stepA, bodyA, Try.f29, push_cast, ↓dstAt_zero, ↓dstAt_succ, ↓arun_skip, ↓arun_region, ↓arun_seq, ↓arun_cond, ↓arun_block, ↓arun_loop, ↓arun_exit, ↓arun_ret, aops_nil, aops_cons, aops_cons_guard, ↓putA_some, ↓putA_none, ↓aop_move, ↓aop_assign, ↓aop_pick, ↓aop_alloc, ↓aop_box, ↓aop_build, ↓aop_buildSlice, ↓aop_load, ↓aop_store, ↓aop_nilCheck, ↓aop_binOp, ↓aop_unOp, ↓aop_convert, ↓aop_makeSlice, ↓aop_fieldAddr, ↓aop_field, ↓aop_indexAddr, ↓aop_index, ↓aop_lookup, ↓aop_mapUpdate, ↓aop_insert, ↓aop_extract, ↓aop_callB, ↓aop_callF, ↓aop_callT, ↓aop_makeFunc, ↓aop_makeMap, ↓aop_slice, ↓aevs_nil, ↓aevs_cons, ↓evP_nil, ↓evP_cons, ↓aevO_none, ↓aevO_some, ↓reduceIte, reduceCtorEq, Nat.reduceEqDiff, Nat.reduceAdd, Nat.reduceLT, Nat.reduceSub, Nat.reduceMul, Nat.reduceLeDiff, if_true, if_false, if_pos, if_neg, h11, g0, e2, e3, e4, g2, g4, mapNewA, ↓k7]
end Go.Proofs

/- Plain laws: both Orbits find the orbits that are specified. -/
set_option linter.unusedVariables false
namespace Go.Proofs
open Go.AI
theorem orbs_length (G L : List (List Int)) (m i : Nat) : (orbs G L m i).length = (reps G L i).length := by simp [orbs]
section
variable {G L : List (List Int)} {n : Nat} (hG : GrpN G n) (hL : ∀ x ∈ L, x.length = n)
include hG hL
theorem rep_or {i : Nat} (hi : i < L.length) : (isRep G L i = true ∧ ∀ j, j < i → relG G (gt L j) (gt L i) = false) ∨ (isRep G L i = false ∧ ∃ r ∈ reps G L i, relG G (gt L r) (gt L i) = true) := by
  cases hr : isRep G L i with
  | true => exact Or.inl ⟨rfl, fun j hj => by simpa using List.all_eq_true.1 hr j (by simpa using hj)⟩
  | false =>
    right
    simp only [isRep, List.all_eq_false, List.mem_range, Bool.not_eq_eq_eq_not, Bool.not_false] at hr
    obtain ⟨j, hj, h⟩ := hr
    exact ⟨rfl, rep_of hG hL hi j hj (by simpa using h)⟩
theorem cls_first {i : Nat} (hi : i < L.length) (h : ∀ j, j < i → relG G (gt L j) (gt L i) = false) : cls G L i i = [] := by
  unfold cls
  rw [List.map_eq_nil_iff, List.filter_eq_nil_iff]
  intro k hk hr
  have hk : k < i := by simpa using hk
  have := rel_symm hG (gtL_len hG hL hi) hr
  rw [h k hk] at this
  cases this
theorem st29_inv : ∀ i, i ≤ L.length → (st29 G L i).2 = orbs G L i i ∧ ∀ x, x.length = n → (∀ c, lkE (st29 G L i).1 x = some c → ∃ r, (reps G L i)[c]? = some r ∧ relG G (gt L r) x = true) ∧ (lkE (st29 G L i).1 x = none → ∀ r ∈ reps G L i, relG G (gt L r) x = false)
  | 0, _ => ⟨rfl, fun x _ => ⟨(fun c h => by cases h), fun _ r hr => by simp [reps] at hr⟩⟩
  | i + 1, hi => by
    obtain ⟨ih1, ih2⟩ := st29_inv i (by omega)
    have hlen := gtL_len hG hL (j := i) (by omega)
    obtain ⟨a1, a2⟩ := ih2 _ hlen
    have hst : st29 G L (i + 1) = step29 G L i (st29 G L i) := rfl
    rw [hst]
    generalize st29 G L i = q at *
    obtain ⟨ps, os⟩ := q
    simp only at ih1 ih2 a1 a2
    rcases rep_or hG hL (i := i) (by omega) with ⟨h1, h2⟩ | ⟨h1, r, h2, h3⟩
    · have hk : lkE ps (gt L i) = none := by
        cases hk : lkE ps (gt L i) with
        | none => rfl
        | some c =>
          obtain ⟨r, e1, e2⟩ := a1 c hk
          rw [h2 r (mem_reps.1 (List.mem_of_getElem? e1)).1] at e2
          cases e2
      have hrs : reps G L (i + 1) = reps G L i ++ [i] := by rw [reps_succ, h1]; rfl
      have ho : os.length = (reps G L i).length := by rw [ih1, orbs_length]
      simp only [step29, hk]
      refine ⟨?_, fun x hx => ⟨fun c hc => ?_, fun hc r hr => ?_⟩⟩
      · rw [ih1, orbs, orbs, hrs, List.map_append]
        congr 1
        · apply List.map_congr_left
          intro r hr
          rw [cls_succ, h2 r (mem_reps.1 hr).1]
          rfl
        · simp only [List.map_cons, List.map_nil]
          rw [cls_succ, rel_refl hG hlen, cls_first hG hL (by omega) h2]
          rfl
      · rw [lkE_upG, List.range_eq_range'] at hc
        by_cases hrx : relG G (gt L i) x = true
        · rw [show ((List.range' 0 G.length).any fun j => decide (mvP (gt G j) (gt L i) = x)) = relG G (gt L i) x from rfl, hrx] at hc
          cases hc
          refine ⟨i, ?_, hrx⟩
          rw [hrs, ho]; simp
        · rw [show ((List.range' 0 G.length).any fun j => decide (mvP (gt G j) (gt L i) = x)) = relG G (gt L i) x from rfl, if_neg hrx] at hc
          obtain ⟨r, e1, e2⟩ := (ih2 x hx).1 c hc
          refine ⟨r, ?_, e2⟩
          rw [hrs, List.getElem?_append_left (List.getElem?_eq_some_iff.1 e1).1]
          exact e1
      · rw [lkE_upG, List.range_eq_range', show ((List.range' 0 G.length).any fun j => decide (mvP (gt G j) (gt L i) = x)) = relG G (gt L i) x from rfl] at hc
        by_cases hrx : relG G (gt L i) x = true
        · rw [if_pos hrx] at hc; cases hc
        · rw [if_neg hrx] at hc
          rw [hrs] at hr
          rcases List.mem_append.1 hr with hr | hr
          · exact (ih2 x hx).2 hc r hr
          · rw [List.mem_singleton.1 hr]
            simpa using hrx
    · have hrs : reps G L (i + 1) = reps G L i := by rw [reps_succ, h1]; rfl
      cases hk : lkE ps (gt L i) with
      | none =>
        have := a2 hk r h2
        rw [h3] at this; cases this
      | some c =>
        obtain ⟨s, e1, e2⟩ := a1 c hk
        simp only [step29, hk]
        refine ⟨?_, fun x hx => by rw [hrs]; exact ih2 x hx⟩
        rw [ih1, orbs, orbs, hrs]
        apply List.ext_getElem?
        intro d
        by_cases hd : d = c
        · subst hd
          rw [List.getElem?_set_self (by rw [List.length_map]; exact (List.getElem?_eq_some_iff.1 e1).1)]
          simp only [gi, List.getElem?_map, e1, Option.map_some, List.getD_eq_getElem?_getD, Option.getD_some]
          rw [cls_succ, e2]
          rfl
        · rw [List.getElem?_set_ne (Ne.symm hd), List.getElem?_map, List.getElem?_map]
          cases hd' : (reps G L i)[d]? with
          | none => rfl
          | some t =>
            simp only [Option.map_some]
            have : relG G (gt L t) (gt L i) = false := by
              cases ht : relG G (gt L t) (gt L i) with
              | false => rfl
              | true =>
                have he := reps_apart hG hL (i := i) (x := i) (by omega) (List.mem_of_getElem? hd') (List.mem_of_getElem? e1) (by omega) ht e2
                subst he
                have hp := reps_sorted G L i
                rw [List.pairwise_iff_getElem] at hp
                obtain ⟨l1, g1⟩ := List.getElem?_eq_some_iff.1 hd'
                obtain ⟨l2, g2⟩ := List.getElem?_eq_some_iff.1 e1
                rcases Nat.lt_or_gt_of_ne hd with hlt | hlt
                · have := hp d c l1 l2 hlt
                  omega
                · have := hp c d l2 l1 hlt
                  omega
            rw [cls_succ, this]
            rfl
end
theorem set_getD_b {l : List Bool} {k j : Nat} (hk : k < l.length) : (l.set k true).getD j false = (l.getD j false || decide (j = k)) := by
  by_cases h : j = k
  · subst h; simp [List.getD_eq_getElem?_getD, List.getElem?_set_self hk]
  · simp [List.getD_eq_getElem?_getD, List.getElem?_set_ne (Ne.symm h), h]
theorem candS_eq (G L : List (List Int)) (m : List Int) : ∀ (d k : Nat) (q : List Bool × List Int), k + d ≤ q.1.length → (∀ j, k ≤ j → j < k + d → relG G m (gt L j) = true → q.1.getD j false = false) →
    (candS G L m d k q).2 = q.2 ++ ((List.range' k d).filter fun j => relG G m (gt L j)).map (fun (j : Nat) => (j : Int)) ∧ ∀ j, (candS G L m d k q).1.getD j false = (q.1.getD j false || (decide (k ≤ j) && decide (j < k + d) && relG G m (gt L j)))
  | 0, k, q, hl, h => ⟨by simp [candS], fun j => by
      have e : (decide (k ≤ j) && decide (j < k + 0)) = false := by
        by_cases h1 : k ≤ j
        · have : ¬ j < k + 0 := by omega
          simp [this]
        · simp [h1]
      rw [e]; simp [candS]⟩
  | d + 1, k, q, hl, h => by
    have hlen := (cand_len (G := G) (L := L) (m := m) (k := k) (q := q)).1
    have hget : ∀ j, (cand G L m k q).1.getD j false = (q.1.getD j false || (decide (j = k) && relG G m (gt L k))) := fun j => by
      unfold cand
      cases hr : relG G m (gt L k) with
      | false => simp
      | true =>
        have := h k (Nat.le_refl _) (by omega) hr
        rw [if_pos ⟨this, rfl⟩]
        simp only
        rw [set_getD_b (by omega)]; simp
    obtain ⟨g1, g2⟩ := candS_eq G L m d (k + 1) (cand G L m k q) (by rw [hlen]; omega) (fun j h1 h2 h3 => by
      rw [hget, h j (by omega) (by omega) h3]
      have : ¬ j = k := by omega
      simp [this])
    refine ⟨?_, fun j => ?_⟩
    · show (candS G L m d (k + 1) (cand G L m k q)).2 = _
      rw [g1, List.range'_succ, List.filter_cons]
      unfold cand
      cases hr : relG G m (gt L k) with
      | false => simp
      | true =>
        have := h k (Nat.le_refl _) (by omega) hr
        rw [if_pos ⟨this, rfl⟩]
        simp
    · show (candS G L m d (k + 1) (cand G L m k q)).1.getD j false = _
      rw [g2, hget]
      by_cases e : j = k
      · subst e
        have : ¬ j + 1 ≤ j := by omega
        simp [this]
      · have e1 : decide (k + 1 ≤ j) = decide (k ≤ j) := decide_eq_decide.2 ⟨fun h => by omega, fun h => by omega⟩
        have e2 : decide (j < k + 1 + d) = decide (j < k + (d + 1)) := decide_eq_decide.2 ⟨fun h => by omega, fun h => by omega⟩
        rw [e1, e2]; simp [e]
section
variable {G L : List (List Int)} {n : Nat} (hG : GrpN G n) (hL : ∀ x ∈ L, x.length = n)
include hG hL
theorem st30_inv : ∀ i, i ≤ L.length → (st30 G L i).2 = orbs G L L.length i ∧ ∀ k, k < L.length → (st30 G L i).1.getD k false = (reps G L i).any fun r => relG G (gt L r) (gt L k)
  | 0, _ => ⟨rfl, fun k hk => by simp [st30, reps, hk]⟩
  | i + 1, hi => by
    obtain ⟨ih1, ih2⟩ := st30_inv i (by omega)
    have hl := (st30_len G L i).1
    have hst : st30 G L (i + 1) = step30 G L i (st30 G L i) := rfl
    have hlen := gtL_len hG hL (j := i) (by omega)
    rw [hst]
    generalize st30 G L i = q at *
    obtain ⟨seen, os⟩ := q
    simp only at ih1 ih2 hl
    rcases rep_or hG hL (i := i) (by omega) with ⟨h1, h2⟩ | ⟨h1, r, h2, h3⟩
    · have hrs : reps G L (i + 1) = reps G L i ++ [i] := by rw [reps_succ, h1]; rfl
      have hs : seen.getD i false = false := by
        rw [ih2 i (by omega), List.any_eq_false]
        intro r hr
        rw [h2 r (mem_reps.1 hr).1]; simp
      obtain ⟨c1, c2⟩ := candS_eq G L (gt L i) (L.length - i) i (seen, []) (by simp only; omega) (fun j h4 h5 h6 => by
        simp only
        rw [ih2 j (by omega), List.any_eq_false]
        intro r hr hrj
        have hri := (mem_reps.1 hr).1
        have := rel_trans hG (gtL_len hG hL (j := r) (by omega)) hrj (rel_symm hG hlen h6)
        rw [h2 r hri] at this
        cases this)
      have e : step30 G L i (seen, os) = ((candS G L (gt L i) (L.length - i) i (seen, [])).1, os ++ [(candS G L (gt L i) (L.length - i) i (seen, [])).2]) := by simp only [step30, hs]; simp
      rw [e]
      refine ⟨?_, fun k hk => ?_⟩
      · simp only
        rw [ih1, orbs, orbs, hrs, List.map_append, c1]
        congr 1
        simp only [List.map_cons, List.map_nil, List.nil_append, cls]
        congr 1
        congr 1
        have e2 : List.range L.length = List.range i ++ List.range' i (L.length - i) := by
          rw [List.range_eq_range', List.range_eq_range']
          have := List.range'_append (s := 0) (m := i) (n := L.length - i) (step := 1)
          simp only [Nat.zero_add, Nat.one_mul] at this
          rw [this]
          congr 1
          omega
        rw [e2, List.filter_append]
        have e3 : (List.range i).filter (fun k => relG G (gt L i) (gt L k)) = [] := by
          rw [List.filter_eq_nil_iff]
          intro k hk hr
          have hk : k < i := by simpa using hk
          have := rel_symm hG hlen hr
          rw [h2 k hk] at this
          cases this
        rw [e3, List.nil_append]
      · simp only
        rw [c2, ih2 k hk, hrs, List.any_append]
        simp only [List.any_cons, List.any_nil, Bool.or_false]
        by_cases hik : i ≤ k
        · have : k < i + (L.length - i) := by omega
          simp [hik, this]
        · have : relG G (gt L i) (gt L k) = false := by
            cases hr : relG G (gt L i) (gt L k) with
            | false => rfl
            | true =>
              have := rel_symm hG hlen hr
              rw [h2 k (by omega)] at this
              cases this
          simp [hik, this]
    · have hrs : reps G L (i + 1) = reps G L i := by rw [reps_succ, h1]; rfl
      have hs : seen.getD i false = true := by
        rw [ih2 i (by omega), List.any_eq_true]
        exact ⟨r, h2, h3⟩
      have e : step30 G L i (seen, os) = (seen, os) := by simp only [step30, hs, if_true]
      rw [e]
      refine ⟨?_, fun k hk => by rw [hrs]; exact ih2 k hk⟩
      simp only
      rw [ih1, orbs, orbs, hrs]
end
/-- Both find the same. -/
theorem orb_same {G L : List (List Int)} : orbL G L (st29 G L L.length).2 = orbL G L (st30 G L L.length).2 := by
  unfold orbL
  split
  · rename_i h
    split
    · rename_i h'
      split
      · rfl
      · obtain ⟨hg, hp⟩ := isG_grp (Bool.and_eq_true_iff.1 h).1
        have hs := len_of_all h'
        rw [(st29_inv hg hs L.length (Nat.le_refl _)).1, (st30_inv hg hs L.length (Nat.le_refl _)).1]
    · rfl
  · rfl
end Go.Proofs

/- SmallLists. -/
set_option linter.unusedVariables false
set_option linter.unusedSimpArgs false
set_option linter.unusedSectionVars false
namespace Go.Proofs
open Go.AI
set_option maxRecDepth 20000
def smallL (L : List (List Int)) (k m : Nat) : Bool := decide (L.length ≤ k) && (List.range' 0 L.length).all fun i => decide ((gt L i).length ≤ m)
theorem smallL_iff {L : List (List Int)} {k m : Nat} : smallL L k m = true ↔ L.length ≤ k ∧ ∀ x ∈ L, x.length ≤ m := by
  simp only [smallL, Bool.and_eq_true, decide_eq_true_eq, List.all_eq_true, List.mem_range', Nat.one_mul]
  constructor
  · rintro ⟨h1, h2⟩
    refine ⟨h1, fun x hx => ?_⟩
    obtain ⟨j, hj⟩ := List.mem_iff_getElem?.1 hx
    have hjl := lt_of_get hj
    rw [gt_some hjl] at hj
    cases hj
    exact h2 j ⟨j, hjl, by omega⟩
  · rintro ⟨h1, h2⟩
    refine ⟨h1, ?_⟩
    rintro x ⟨i, h3, rfl⟩
    exact h2 _ (List.mem_of_getElem? (gt_some (by omega)))
section
variable {a : Code} (h : loopOf 0 Try.f7 = some a) {L : List (List Int)} {m : Nat} (hL : L.length ≤ 1000) (hs : ∀ x ∈ L, x.length ≤ 9223372036854775807) (hm : m ≤ 1000)
include h hL hs hm
def s7 (L : List (List Int)) (m i : Nat) : St := ([(0, Iss L), (2, I m), (7, I i)], [])
theorem r7 {i : Nat} (hi : i < L.length) : roundA Try.cfg 7 iter (call Try.cfg) 0 a (s7 L m i) = some (if decide ((gt L i).length ≤ m) = true then (.normal, s7 L m (i + 1)) else (.ret, [(6, .v (.bool false))], [])) := by
  have hx := gt_some hi
  have hl := hs _ (List.mem_of_getElem? hx)
  cases h
  generalize gt L i = x at *
  by_cases hle : x.length ≤ m
  · rw [if_pos (decide_eq_true hle)]
    simp -implicitDefEqProofs (maxSteps := 1000000) (disch := omega) only [push_cast, ↓dstAt_zero, ↓dstAt_succ, ↓arun_skip, ↓arun_region, ↓arun_seq, ↓arun_cond, ↓arun_block, ↓arun_loop, ↓arun_exit, ↓arun_ret, aops_nil, aops_cons, aops_cons_guard, ↓putA_some, ↓putA_none, ↓aop_move, ↓aop_assign, ↓aop_pick, ↓aop_alloc, ↓aop_box, ↓aop_build, ↓aop_buildSlice, ↓aop_load, ↓aop_store, ↓aop_nilCheck, ↓aop_binOp, ↓aop_unOp, ↓aop_convert, ↓aop_makeSlice, ↓aop_fieldAddr, ↓aop_field, ↓aop_indexAddr, ↓aop_index, ↓aop_lookup, ↓aop_mapUpdate, ↓aop_insert, ↓aop_extract, ↓aop_callB, ↓aop_callF, ↓aop_callT, ↓aop_makeFunc, ↓aop_makeMap, ↓aop_slice, ↓aevs_nil, ↓aevs_cons, ↓evP_nil, ↓evP_cons, ↓aevO_none, ↓aevO_some, ↓reduceIte, reduceCtorEq, Nat.reduceEqDiff, Nat.reduceAdd, Nat.reduceLT, Nat.reduceSub, Nat.reduceMul, Nat.reduceLeDiff, if_true, if_false, if_pos, if_neg, s7, Iss, hx]
  · rw [if_neg (by simpa using hle)]
    simp -implicitDefEqProofs (maxSteps := 1000000) (disch := omega) only [push_cast, ↓dstAt_zero, ↓dstAt_succ, ↓arun_skip, ↓arun_region, ↓arun_seq, ↓arun_cond, ↓arun_block, ↓arun_loop, ↓arun_exit, ↓arun_ret, aops_nil, aops_cons, aops_cons_guard, ↓putA_some, ↓putA_none, ↓aop_move, ↓aop_assign, ↓aop_pick, ↓aop_alloc, ↓aop_box, ↓aop_build, ↓aop_buildSlice, ↓aop_load, ↓aop_store, ↓aop_nilCheck, ↓aop_binOp, ↓aop_unOp, ↓aop_convert, ↓aop_makeSlice, ↓aop_fieldAddr, ↓aop_field, ↓aop_indexAddr, ↓aop_index, ↓aop_lookup, ↓aop_mapUpdate, ↓aop_insert, ↓aop_extract, ↓aop_callB, ↓aop_callF, ↓aop_callT, ↓aop_makeFunc, ↓aop_makeMap, ↓aop_slice, ↓aevs_nil, ↓aevs_cons, ↓evP_nil, ↓evP_cons, ↓aevO_none, ↓aevO_some, ↓reduceIte, reduceCtorEq, Nat.reduceEqDiff, Nat.reduceAdd, Nat.reduceLT, Nat.reduceSub, Nat.reduceMul, Nat.reduceLeDiff, if_true, if_false, if_pos, if_neg, s7, Iss, hx]
theorem r7e : roundA Try.cfg 7 iter (call Try.cfg) 0 a (s7 L m L.length) = some (.exit 0, [], []) := by
  cases h
  simp -implicitDefEqProofs (maxSteps := 1000000) (disch := omega) only [push_cast, ↓dstAt_zero, ↓dstAt_succ, ↓arun_skip, ↓arun_region, ↓arun_seq, ↓arun_cond, ↓arun_block, ↓arun_loop, ↓arun_exit, ↓arun_ret, aops_nil, aops_cons, aops_cons_guard, ↓putA_some, ↓putA_none, ↓aop_move, ↓aop_assign, ↓aop_pick, ↓aop_alloc, ↓aop_box, ↓aop_build, ↓aop_buildSlice, ↓aop_load, ↓aop_store, ↓aop_nilCheck, ↓aop_binOp, ↓aop_unOp, ↓aop_convert, ↓aop_makeSlice, ↓aop_fieldAddr, ↓aop_field, ↓aop_indexAddr, ↓aop_index, ↓aop_lookup, ↓aop_mapUpdate, ↓aop_insert, ↓aop_extract, ↓aop_callB, ↓aop_callF, ↓aop_callT, ↓aop_makeFunc, ↓aop_makeMap, ↓aop_slice, ↓aevs_nil, ↓aevs_cons, ↓evP_nil, ↓evP_cons, ↓aevO_none, ↓aevO_some, ↓reduceIte, reduceCtorEq, Nat.reduceEqDiff, Nat.reduceAdd, Nat.reduceLT, Nat.reduceSub, Nat.reduceMul, Nat.reduceLeDiff, if_true, if_false, if_pos, if_neg, s7, Iss, Int.lt_irrefl]
end
theorem call7 {L : List (List Int)} {k m : Nat} (hL : L.length ≤ 9223372036854775807) (hs : ∀ x ∈ L, x.length ≤ 9223372036854775807) (hm : m ≤ 1000) (hk : k ≤ 1000) : call Try.cfg 7 [.sl false L.length (L.map Is), .v (.int .i64 k), .v (.int .i64 m)] [] = some (.v (.bool (smallL L k m)), []) := by
  refine call_step ?_
  by_cases hle : L.length ≤ k
  · cases h0 : loopOf 0 Try.f7 with
    | none => cases h0
    | some a =>
      have hH := iter_all (S := fun i => s7 L m i) (q := fun i => decide ((gt L i).length ≤ m)) (n := L.length) (fun i hi hq => by have := r7 h0 (by omega) hs hm hi; rw [if_pos hq] at this; exact this)
        (fun i hi hq => by have := r7 h0 (by omega) hs hm hi; rw [if_neg (by rw [hq]; simp)] at this; exact this) (r7e h0 (by omega) hs hm) (by simp) (by simp) L.length 0 (by omega)
      have e : smallL L k m = (List.range' 0 L.length).all fun i => decide ((gt L i).length ≤ m) := by simp [smallL, hle]
      rw [e]
      cases h0
      simp only [s7, Iss, Int.natCast_zero] at hH
      cases hq : (List.range' 0 L.length).all fun i => decide ((gt L i).length ≤ m) with
      | true =>
        rw [hq, if_pos rfl] at hH
        simp -implicitDefEqProofs (maxSteps := 1000000) (disch := omega) only [stepA, bodyA, Try.f7, push_cast, ↓dstAt_zero, ↓dstAt_succ, ↓arun_skip, ↓arun_region, ↓arun_seq, ↓arun_cond, ↓arun_block, ↓arun_loop, ↓arun_exit, ↓arun_ret, aops_nil, aops_cons, aops_cons_guard, ↓putA_some, ↓putA_none, ↓aop_move, ↓aop_assign, ↓aop_pick, ↓aop_alloc, ↓aop_box, ↓aop_build, ↓aop_buildSlice, ↓aop_load, ↓aop_store, ↓aop_nilCheck, ↓aop_binOp, ↓aop_unOp, ↓aop_convert, ↓aop_makeSlice, ↓aop_fieldAddr, ↓aop_field, ↓aop_indexAddr, ↓aop_index, ↓aop_lookup, ↓aop_mapUpdate, ↓aop_insert, ↓aop_extract, ↓aop_callB, ↓aop_callF, ↓aop_callT, ↓aop_makeFunc, ↓aop_makeMap, ↓aop_slice, ↓aevs_nil, ↓aevs_cons, ↓evP_nil, ↓evP_cons, ↓aevO_none, ↓aevO_some, ↓reduceIte, reduceCtorEq, Nat.reduceEqDiff, Nat.reduceAdd, Nat.reduceLT, Nat.reduceSub, Nat.reduceMul, Nat.reduceLeDiff, if_true, if_false, if_pos, if_neg, hH]
      | false =>
        rw [hq, if_neg (by simp)] at hH
        simp -implicitDefEqProofs (maxSteps := 1000000) (disch := omega) only [stepA, bodyA, Try.f7, push_cast, ↓dstAt_zero, ↓dstAt_succ, ↓arun_skip, ↓arun_region, ↓arun_seq, ↓arun_cond, ↓arun_block, ↓arun_loop, ↓arun_exit, ↓arun_ret, aops_nil, aops_cons, aops_cons_guard, ↓putA_some, ↓putA_none, ↓aop_move, ↓aop_assign, ↓aop_pick, ↓aop_alloc, ↓aop_box, ↓aop_build, ↓aop_buildSlice, ↓aop_load, ↓aop_store, ↓aop_nilCheck, ↓aop_binOp, ↓aop_unOp, ↓aop_convert, ↓aop_makeSlice, ↓aop_fieldAddr, ↓aop_field, ↓aop_indexAddr, ↓aop_index, ↓aop_lookup, ↓aop_mapUpdate, ↓aop_insert, ↓aop_extract, ↓aop_callB, ↓aop_callF, ↓aop_callT, ↓aop_makeFunc, ↓aop_makeMap, ↓aop_slice, ↓aevs_nil, ↓aevs_cons, ↓evP_nil, ↓evP_cons, ↓aevO_none, ↓aevO_some, ↓reduceIte, reduceCtorEq, Nat.reduceEqDiff, Nat.reduceAdd, Nat.reduceLT, Nat.reduceSub, Nat.reduceMul, Nat.reduceLeDiff, if_true, if_false, if_pos, if_neg, hH]
  · have e : smallL L k m = false := by simp [smallL, hle]
    rw [e]
    simp -implicitDefEqProofs (maxSteps := 1000000) (disch := omega) only [stepA, bodyA, Try.f7, push_cast, ↓dstAt_zero, ↓dstAt_succ, ↓arun_skip, ↓arun_region, ↓arun_seq, ↓arun_cond, ↓arun_block, ↓arun_loop, ↓arun_exit, ↓arun_ret, aops_nil, aops_cons, aops_cons_guard, ↓putA_some, ↓putA_none, ↓aop_move, ↓aop_assign, ↓aop_pick, ↓aop_alloc, ↓aop_box, ↓aop_build, ↓aop_buildSlice, ↓aop_load, ↓aop_store, ↓aop_nilCheck, ↓aop_binOp, ↓aop_unOp, ↓aop_convert, ↓aop_makeSlice, ↓aop_fieldAddr, ↓aop_field, ↓aop_indexAddr, ↓aop_index, ↓aop_lookup, ↓aop_mapUpdate, ↓aop_insert, ↓aop_extract, ↓aop_callB, ↓aop_callF, ↓aop_callT, ↓aop_makeFunc, ↓aop_makeMap, ↓aop_slice, ↓aevs_nil, ↓aevs_cons, ↓evP_nil, ↓evP_cons, ↓aevO_none, ↓aevO_some, ↓reduceIte, reduceCtorEq, Nat.reduceEqDiff, Nat.reduceAdd, Nat.reduceLT, Nat.reduceSub, Nat.reduceMul, Nat.reduceLeDiff, if_true, if_false, if_pos, if_neg]
end Go.Proofs

/- Closure: the loops' rounds. -/
set_option linter.unusedVariables false
set_option linter.unusedSimpArgs false
set_option linter.unusedSectionVars false
namespace Go.Proofs
open Go.AI
set_option maxRecDepth 20000
set_option maxHeartbeats 2000000
theorem tkIs (k : Nat) (l : List (List Int)) : (l.map Is).take k = (l.take k).map Is := (List.map_take ..).symm
theorem drIs (k : Nat) (l : List (List Int)) : (l.map Is).drop k = (l.drop k).map Is := (List.map_drop ..).symm
theorem apIs (l m : List (List Int)) : l.map Is ++ m.map Is = (l ++ m).map Is := (List.map_append ..).symm
def s36 (G L T : List (List Int)) (v m : Nat) : St := ([(1, Iss G), (5, .sl false L.length (L.map Is)), (6, .ms 1 v 0 m 1)], [.cells true 0 [], .cells true v (T.map Is)])
def s36i (G L T : List (List Int)) (v m : Nat) (a : List Int) (i : Nat) : St := ([(1, Iss G), (5, .sl false L.length (L.map Is)), (6, .ms 1 v 0 m 1), (7, Is a), (8, I i)], [.cells true 0 [], .cells true v (T.map Is)])
section
variable {n : Nat} {G L T : List (List Int)} {v m i : Nat} {a : List Int} (hn : n ≤ 6) (hG : ∀ g ∈ G, PermN n g) (hGl : G.length ≤ 1000) (ha : PermN n a) (hL : L.length ≤ 720) (hLp : ∀ x ∈ L, PermN n x) (hm : m ≤ T.length) (hm' : m ≤ 2000)
include hn hG hGl ha hL hLp hm hm'
theorem r36a {c : Code} (h : loopOf 2 Try.f36 = some c) (hi : i < G.length) (hf : decide (L[placeL L (mulP (gt G i) a)]? = some (mulP (gt G i) a)) = true) : roundA Try.cfg 36 iter (call Try.cfg) 2 c (s36i G L T v m a i) = some (.normal, s36i G L T v m a (i + 1)) := by
  have hx := gt_some hi
  have hg := hG _ (List.mem_of_getElem? hx)
  have hgv := valid_len hg.1
  have h41 := call41u (A := gt G i) (C := a) hgv (by rw [ha.2, hg.2]) (fun j hj => by rw [hg.2, ← ha.2]; exact valid_range ha.1 (by rw [ha.2, ← hg.2]; exact hj))
  have hlen := mulP_length (gt G i) a
  have h40 := call40 (L := L) (b := mulP (gt G i) a) (by omega) (fun x hx => by have := valid_len (hLp x hx).1; omega) (by omega)
  rw [hf, hlen] at h40
  cases h
  generalize placeL L (mulP (gt G i) a) = k at *
  generalize mulP (gt G i) a = b at *
  generalize gt G i = x at *
  simp -implicitDefEqProofs (maxSteps := 1000000) (disch := omega) only [push_cast, ↓dstAt_zero, ↓dstAt_succ, ↓arun_skip, ↓arun_region, ↓arun_seq, ↓arun_cond, ↓arun_block, ↓arun_loop, ↓arun_exit, ↓arun_ret, aops_nil, aops_cons, aops_cons_guard, ↓putA_some, ↓putA_none, ↓aop_move, ↓aop_assign, ↓aop_pick, ↓aop_alloc, ↓aop_box, ↓aop_build, ↓aop_buildSlice, ↓aop_load, ↓aop_store, ↓aop_nilCheck, ↓aop_binOp, ↓aop_unOp, ↓aop_convert, ↓aop_makeSlice, ↓aop_fieldAddr, ↓aop_field, ↓aop_indexAddr, ↓aop_index, ↓aop_lookup, ↓aop_mapUpdate, ↓aop_insert, ↓aop_extract, ↓aop_callB, ↓aop_callF, ↓aop_callT, ↓aop_makeFunc, ↓aop_makeMap, ↓aop_slice, ↓aevs_nil, ↓aevs_cons, ↓evP_nil, ↓evP_cons, ↓aevO_none, ↓aevO_some, ↓reduceIte, reduceCtorEq, Nat.reduceEqDiff, Nat.reduceAdd, Nat.reduceLT, Nat.reduceSub, Nat.reduceMul, Nat.reduceLeDiff, if_true, if_false, if_pos, if_neg, s36i, Iss, hx, h41, h40]
  try rfl
theorem r36b {c : Code} (h : loopOf 2 Try.f36 = some c) (hi : i < G.length) (hf : decide (L[placeL L (mulP (gt G i) a)]? = some (mulP (gt G i) a)) = false) : roundA Try.cfg 36 iter (call Try.cfg) 2 c (s36i G L T v m a i) = some (.normal, s36i G (insP L (mulP (gt G i) a)) (T.take m ++ [mulP (gt G i) a]) (v + 1) (m + 1) a (i + 1)) := by
  have hx := gt_some hi
  have hg := hG _ (List.mem_of_getElem? hx)
  have hgv := valid_len hg.1
  have h41 := call41u (A := gt G i) (C := a) hgv (by rw [ha.2, hg.2]) (fun j hj => by rw [hg.2, ← ha.2]; exact valid_range ha.1 (by rw [ha.2, ← hg.2]; exact hj))
  have hlen := mulP_length (gt G i) a
  have h40 := call40 (L := L) (b := mulP (gt G i) a) (by omega) (fun x hx => by have := valid_len (hLp x hx).1; omega) (by omega)
  rw [hf, hlen] at h40
  have hk := placeL_le L (mulP (gt G i) a)
  have hil := insP_length L (mulP (gt G i) a)
  have hins : insP L (mulP (gt G i) a) = L.take (placeL L (mulP (gt G i) a)) ++ [mulP (gt G i) a] ++ L.drop (placeL L (mulP (gt G i) a)) := rfl
  have e1 : min (placeL L (mulP (gt G i) a)) L.length = placeL L (mulP (gt G i) a) := by omega
  have e2 : min m T.length = m := by omega
  have e3 : placeL L (mulP (gt G i) a) + 1 + (L.length - placeL L (mulP (gt G i) a)) = L.length + 1 := by omega
  have hbi : AV.sl false (gt G i).length ((mulP (gt G i) a).map I) = Is (mulP (gt G i) a) := by rw [← hlen]; rfl
  cases h
  generalize placeL L (mulP (gt G i) a) = k at *
  generalize insP L (mulP (gt G i) a) = L' at *
  generalize mulP (gt G i) a = b at *
  generalize gt G i = x at *
  simp -implicitDefEqProofs (maxSteps := 1000000) (disch := omega) only [push_cast, ↓dstAt_zero, ↓dstAt_succ, ↓arun_skip, ↓arun_region, ↓arun_seq, ↓arun_cond, ↓arun_block, ↓arun_loop, ↓arun_exit, ↓arun_ret, aops_nil, aops_cons, aops_cons_guard, ↓putA_some, ↓putA_none, ↓aop_move, ↓aop_assign, ↓aop_pick, ↓aop_alloc, ↓aop_box, ↓aop_build, ↓aop_buildSlice, ↓aop_load, ↓aop_store, ↓aop_nilCheck, ↓aop_binOp, ↓aop_unOp, ↓aop_convert, ↓aop_makeSlice, ↓aop_fieldAddr, ↓aop_field, ↓aop_indexAddr, ↓aop_index, ↓aop_lookup, ↓aop_mapUpdate, ↓aop_insert, ↓aop_extract, ↓aop_callB, ↓aop_callF, ↓aop_callT, ↓aop_makeFunc, ↓aop_makeMap, ↓aop_slice, ↓aevs_nil, ↓aevs_cons, ↓evP_nil, ↓evP_cons, ↓aevO_none, ↓aevO_some, ↓reduceIte, reduceCtorEq, Nat.reduceEqDiff, Nat.reduceAdd, Nat.reduceLT, Nat.reduceSub, Nat.reduceMul, Nat.reduceLeDiff, if_true, if_false, if_pos, if_neg, s36i, Iss, hx, h41, h40, tkIs, drIs, apIs, e1, e2, e3]
  have f1 : List.take k (List.take k L) = List.take k L := by rw [List.take_take, Nat.min_self]
  have f2 : List.take (k + 1) (List.map Is (List.take k L) ++ [Is b]) = (List.take k L ++ [b]).map Is := by
    rw [List.map_append]
    exact List.take_of_length_le (by simp; omega)
  have f3 : List.take (L.length - k) (List.drop k L) = List.drop k L := List.take_of_length_le (by simp)
  have f4 : List.take (L.length + 1) (List.map Is L') = List.map Is L' := List.take_of_length_le (by simp; omega)
  have f5 : List.map Is (List.take m T) ++ [Is b] = List.map Is (List.take m T ++ [b]) := by rw [List.map_append]; rfl
  simp only [f1, hbi, f2, f3, apIs, ← hins, f4, f5, goodL_Is, if_true, obind_some, markA_cons, markA_nil, List.getElem?_cons_zero, List.getElem?_cons_succ, freezeAt_cells, List.set_cons_zero, List.set_cons_succ, truncA_eq, List.all_cons, List.all_nil, List.take_succ_cons, List.take_zero, under_v, under_sl, under_ms, under_cells, underL_nil, underL_Is, Bool.and_true, Bool.and_self, hil]
  rfl
theorem r36c {c : Code} (h : loopOf 2 Try.f36 = some c) : roundA Try.cfg 36 iter (call Try.cfg) 2 c (s36i G L T v m a G.length) = some (.exit 2, s36 G L T v m) := by
  cases h
  simp -implicitDefEqProofs (maxSteps := 1000000) (disch := omega) only [push_cast, ↓dstAt_zero, ↓dstAt_succ, ↓arun_skip, ↓arun_region, ↓arun_seq, ↓arun_cond, ↓arun_block, ↓arun_loop, ↓arun_exit, ↓arun_ret, aops_nil, aops_cons, aops_cons_guard, ↓putA_some, ↓putA_none, ↓aop_move, ↓aop_assign, ↓aop_pick, ↓aop_alloc, ↓aop_box, ↓aop_build, ↓aop_buildSlice, ↓aop_load, ↓aop_store, ↓aop_nilCheck, ↓aop_binOp, ↓aop_unOp, ↓aop_convert, ↓aop_makeSlice, ↓aop_fieldAddr, ↓aop_field, ↓aop_indexAddr, ↓aop_index, ↓aop_lookup, ↓aop_mapUpdate, ↓aop_insert, ↓aop_extract, ↓aop_callB, ↓aop_callF, ↓aop_callT, ↓aop_makeFunc, ↓aop_makeMap, ↓aop_slice, ↓aevs_nil, ↓aevs_cons, ↓evP_nil, ↓evP_cons, ↓aevO_none, ↓aevO_some, ↓reduceIte, reduceCtorEq, Nat.reduceEqDiff, Nat.reduceAdd, Nat.reduceLT, Nat.reduceSub, Nat.reduceMul, Nat.reduceLeDiff, if_true, if_false, if_pos, if_neg, s36i, s36, Iss, Int.lt_irrefl]
end
end Go.Proofs

/- Closure: what it returns. -/
set_option linter.unusedVariables false
set_option linter.unusedSimpArgs false
set_option linter.unusedSectionVars false
namespace Go.Proofs
open Go.AI
set_option maxRecDepth 20000
set_option maxHeartbeats 2000000
/-- What is known at the outer loop's head: `td` is still to be looked at. -/
structure Inv36 (G : List (List Int)) (n : Nat) (L td : List (List Int)) : Prop where
  asc : Asc L
  reach : ∀ x ∈ L, Reach G n x
  one : idP n ∈ L
  sub : ∀ x ∈ td, x ∈ L
  closed : ∀ x ∈ L, x ∉ td → ∀ g ∈ G, mulP g x ∈ L
/-- At the inner loop's head. -/
structure InvI36 (G : List (List Int)) (n : Nat) (L td : List (List Int)) (a : List Int) (i : Nat) : Prop where
  asc : Asc L
  reach : ∀ x ∈ L, Reach G n x
  one : idP n ∈ L
  sub : ∀ x ∈ td, x ∈ L
  ina : a ∈ L
  closed : ∀ x ∈ L, x ∉ td → x ≠ a → ∀ g ∈ G, mulP g x ∈ L
  done : ∀ j, j < i → mulP (gt G j) a ∈ L
section
variable {n : Nat} {G : List (List Int)} (hn : n ≤ 6) (hG : ∀ g ∈ G, PermN n g) (hGl : G.length ≤ 1000)
include hn hG hGl
theorem inv_len {L : List (List Int)} (hA : Asc L) (hr : ∀ x ∈ L, Reach G n x) : L.length ≤ 720 := perm_count hn hA.nodup fun x hx => reach_perm hn hG (hr x hx)
theorem l36i {c : Code} (h : loopOf 2 Try.f36 = some c) {a : List Int} : ∀ (k i : Nat) (L T : List (List Int)) (v m : Nat), i + k = G.length → m ≤ T.length → 2 * (720 - L.length) + m ≤ 2000 → InvI36 G n L (T.take m) a i →
    ∃ L' T' v' m', iter (roundA Try.cfg 36 iter (call Try.cfg) 2 c) (s36i G L T v m a i) = some (.exit 2, s36 G L' T' v' m') ∧ m' ≤ T'.length ∧ 2 * (720 - L'.length) + m' ≤ 2 * (720 - L.length) + m ∧ Inv36 G n L' (T'.take m')
  | 0, i, L, T, v, m, hk, hm, hM, hI => by
    have hL := inv_len hn hG hGl hI.asc hI.reach
    have e : i = G.length := by omega
    refine ⟨L, T, v, m, ?_, hm, Nat.le_refl _, ⟨hI.asc, hI.reach, hI.one, hI.sub, fun x hx hnx g hg => ?_⟩⟩
    · rw [e]
      exact iter_last (r36c hn hG hGl (reach_perm hn hG (hI.reach a hI.ina)) hL (fun x hx => reach_perm hn hG (hI.reach x hx)) hm (by omega) h) (by simp)
    · by_cases exa : x = a
      · obtain ⟨j, hj⟩ := List.mem_iff_getElem?.1 hg
        have hjl := lt_of_get hj
        rw [gt_some hjl] at hj
        cases hj
        rw [exa]
        exact hI.done j (by omega)
      · exact hI.closed x hx hnx exa g hg
  | k + 1, i, L, T, v, m, hk, hm, hM, hI => by
    have hL := inv_len hn hG hGl hI.asc hI.reach
    have ha := reach_perm hn hG (hI.reach a hI.ina)
    have hLp := fun x (hx : x ∈ L) => reach_perm hn hG (hI.reach x hx)
    have hi : i < G.length := by omega
    have hgi : gt G i ∈ G := List.mem_of_getElem? (gt_some hi)
    cases hf : decide (L[placeL L (mulP (gt G i) a)]? = some (mulP (gt G i) a)) with
    | true =>
      have hmem := (place_mem hI.asc).1 (of_decide_eq_true hf)
      obtain ⟨L', T', v', m', g1, g2, g3, g4⟩ := l36i h k (i + 1) L T v m (by omega) hm hM ⟨hI.asc, hI.reach, hI.one, hI.sub, hI.ina, hI.closed, fun j hj => by
        by_cases e : j = i
        · rw [e]; exact hmem
        · exact hI.done j (by omega)⟩
      exact ⟨L', T', v', m', iter_normal (r36a hn hG hGl ha hL hLp hm (by omega) h hi hf) g1, g2, g3, g4⟩
    | false =>
      have hnm : mulP (gt G i) a ∉ L := fun e => of_decide_eq_false hf ((place_mem hI.asc).2 e)
      have hr : ∀ x ∈ insP L (mulP (gt G i) a), Reach G n x := fun x hx => by
        rcases mem_insP.1 hx with hx | rfl
        · exact hI.reach x hx
        · exact .step (hI.reach a hI.ina) hgi
      have hA := insP_asc hI.asc hnm
      have hl := insP_length L (mulP (gt G i) a)
      have hL' := inv_len hn hG hGl hA hr
      have ht : ∀ x, x ∈ List.take (m + 1) (T.take m ++ [mulP (gt G i) a]) ↔ x ∈ T.take m ∨ x = mulP (gt G i) a := fun x => by
        rw [List.take_of_length_le (by simp; omega)]
        simp
      obtain ⟨L', T', v', m', g1, g2, g3, g4⟩ := l36i h k (i + 1) (insP L (mulP (gt G i) a)) (T.take m ++ [mulP (gt G i) a]) (v + 1) (m + 1) (by omega) (by simp; omega) (by omega)
        ⟨hA, hr, mem_insP.2 (Or.inl hI.one), fun x hx => by
          rcases (ht x).1 hx with hx | rfl
          · exact mem_insP.2 (Or.inl (hI.sub x hx))
          · exact mem_insP.2 (Or.inr rfl), mem_insP.2 (Or.inl hI.ina), fun x hx hnx hxa g hg => by
          rcases mem_insP.1 hx with hx | rfl
          · exact mem_insP.2 (Or.inl (hI.closed x hx (fun e => hnx ((ht x).2 (Or.inl e))) hxa g hg))
          · exact absurd ((ht _).2 (Or.inr rfl)) hnx, fun j hj => by
          by_cases e : j = i
          · rw [e]; exact mem_insP.2 (Or.inr rfl)
          · exact mem_insP.2 (Or.inl (hI.done j (by omega)))⟩
      exact ⟨L', T', v', m', iter_normal (r36b hn hG hGl ha hL hLp hm (by omega) h hi hf) g1, g2, by omega, g4⟩
section
variable {c : Code} (h : loopOf 0 Try.f36 = some c) {L T L' T' : List (List Int)} {v v' m m' : Nat} {a : List Int}
include h
theorem o36a (hm : m + 1 ≤ T.length) (hm' : m ≤ 2000) (hL : L.length ≤ 720) (hx : T[m]? = some a) (gi : ∀ c2, loopOf 2 Try.f36 = some c2 → iter (roundA Try.cfg 36 iter (call Try.cfg) 2 c2) (s36i G L T v m a 0) = some (.exit 2, s36 G L' T' v' m')) :
    roundA Try.cfg 36 iter (call Try.cfg) 0 c (s36 G L T v (m + 1)) = some (.normal, s36 G L' T' v' m') := by
  cases h2 : loopOf 2 Try.f36 with
  | none => cases h2
  | some c2 =>
    have g1 := gi c2 h2
    cases h
    cases h2
    simp only [s36, s36i, Iss, Is, Int.natCast_zero] at g1
    have e1 : min (m + 1) T.length = m + 1 := by omega
    have e2 : (List.map Is (List.take (m + 1) T))[m]? = some (Is a) := by simp [List.getElem?_take, hx]
    simp -implicitDefEqProofs (maxSteps := 1000000) (disch := omega) only [push_cast, ↓dstAt_zero, ↓dstAt_succ, ↓arun_skip, ↓arun_region, ↓arun_seq, ↓arun_cond, ↓arun_block, ↓arun_loop, ↓arun_exit, ↓arun_ret, aops_nil, aops_cons, aops_cons_guard, ↓putA_some, ↓putA_none, ↓aop_move, ↓aop_assign, ↓aop_pick, ↓aop_alloc, ↓aop_box, ↓aop_build, ↓aop_buildSlice, ↓aop_load, ↓aop_store, ↓aop_nilCheck, ↓aop_binOp, ↓aop_unOp, ↓aop_convert, ↓aop_makeSlice, ↓aop_fieldAddr, ↓aop_field, ↓aop_indexAddr, ↓aop_index, ↓aop_lookup, ↓aop_mapUpdate, ↓aop_insert, ↓aop_extract, ↓aop_callB, ↓aop_callF, ↓aop_callT, ↓aop_makeFunc, ↓aop_makeMap, ↓aop_slice, ↓aevs_nil, ↓aevs_cons, ↓evP_nil, ↓evP_cons, ↓aevO_none, ↓aevO_some, ↓reduceIte, reduceCtorEq, Nat.reduceEqDiff, Nat.reduceAdd, Nat.reduceLT, Nat.reduceSub, Nat.reduceMul, Nat.reduceLeDiff, if_true, if_false, if_pos, if_neg, s36, s36i, Iss, hx, g1, tn1, Int.add_sub_cancel, tkIs]
theorem o36b : roundA Try.cfg 36 iter (call Try.cfg) 0 c (s36 G L T v 0) = some (.exit 0, [(5, .sl false L.length (L.map Is))], [.cells true 0 [], .cells true v (T.map Is)]) := by
  cases h
  simp -implicitDefEqProofs (maxSteps := 1000000) (disch := omega) only [push_cast, ↓dstAt_zero, ↓dstAt_succ, ↓arun_skip, ↓arun_region, ↓arun_seq, ↓arun_cond, ↓arun_block, ↓arun_loop, ↓arun_exit, ↓arun_ret, aops_nil, aops_cons, aops_cons_guard, ↓putA_some, ↓putA_none, ↓aop_move, ↓aop_assign, ↓aop_pick, ↓aop_alloc, ↓aop_box, ↓aop_build, ↓aop_buildSlice, ↓aop_load, ↓aop_store, ↓aop_nilCheck, ↓aop_binOp, ↓aop_unOp, ↓aop_convert, ↓aop_makeSlice, ↓aop_fieldAddr, ↓aop_field, ↓aop_indexAddr, ↓aop_index, ↓aop_lookup, ↓aop_mapUpdate, ↓aop_insert, ↓aop_extract, ↓aop_callB, ↓aop_callF, ↓aop_callT, ↓aop_makeFunc, ↓aop_makeMap, ↓aop_slice, ↓aevs_nil, ↓aevs_cons, ↓evP_nil, ↓evP_cons, ↓aevO_none, ↓aevO_some, ↓reduceIte, reduceCtorEq, Nat.reduceEqDiff, Nat.reduceAdd, Nat.reduceLT, Nat.reduceSub, Nat.reduceMul, Nat.reduceLeDiff, if_true, if_false, if_pos, if_neg, s36, Iss, Int.natCast_zero, Int.lt_irrefl]
end
end
end Go.Proofs

/- Closure: the function. -/
set_option linter.unusedVariables false
set_option linter.unusedSimpArgs false
set_option linter.unusedSectionVars false
namespace Go.Proofs
open Go.AI
set_option maxRecDepth 20000
set_option maxHeartbeats 2000000
theorem assign_lit (H : Heap) (x : AV) : assignA H (.sl true 1 [x]) = some (.sl true 1 [x], H) := rfl
section
variable {n : Nat} {G : List (List Int)} (hn : n ≤ 6) (hG : ∀ g ∈ G, PermN n g) (hGl : G.length ≤ 1000)
include hn hG hGl
theorem l36 {c : Code} (h : loopOf 0 Try.f36 = some c) : ∀ (M : Nat) (L T : List (List Int)) (v m : Nat), 2 * (720 - L.length) + m ≤ M → M ≤ 2000 → m ≤ T.length → Inv36 G n L (T.take m) →
    ∃ (L' T' : List (List Int)) (v' : Nat), iter (roundA Try.cfg 36 iter (call Try.cfg) 0 c) (s36 G L T v m) = some (.exit 0, [(5, .sl false L'.length (L'.map Is))], [.cells true 0 [], .cells true v' (T'.map Is)]) ∧ Inv36 G n L' []
  | M, L, T, v, 0, hM, hM', hm, hI => ⟨L, T, v, iter_last (o36b hn hG hGl h) (by simp), by simpa using hI⟩
  | 0, L, T, v, m + 1, hM, hM', hm, hI => by omega
  | M + 1, L, T, v, m + 1, hM, hM', hm, hI => by
    cases h2 : loopOf 2 Try.f36 with
    | none => cases h2
    | some c2 =>
      have hx : T[m]? = some T[m] := List.getElem?_eq_getElem (by omega)
      generalize T[m] = a at hx
      have ht : ∀ x, x ∈ T.take (m + 1) ↔ x ∈ T.take m ∨ x = a := fun x => by
        rw [List.take_add_one, hx]; simp
      have hL := inv_len hn hG hGl hI.asc hI.reach
      obtain ⟨L1, T1, v1, m1, g1, g2, g3, g4⟩ := l36i hn hG hGl h2 (a := a) G.length 0 L T v m (by omega) (by omega) (by omega)
        ⟨hI.asc, hI.reach, hI.one, fun x hx => hI.sub x ((ht x).2 (Or.inl hx)), hI.sub a ((ht a).2 (Or.inr rfl)), fun x hx hnx hxa g hg => hI.closed x hx (fun e => by
          rcases (ht x).1 e with e | e
          · exact hnx e
          · exact hxa e) g hg, fun j hj => by omega⟩
      obtain ⟨L', T', v', g5, g6⟩ := l36 h M L1 T1 v1 m1 (by omega) (by omega) g2 g4
      refine ⟨L', T', v', iter_normal (o36a hn hG hGl h hm (by omega) hL hx (fun c3 h3 => ?_)) g5, g6⟩
      rw [h2] at h3
      cases h3
      exact g1
theorem inv_all {L : List (List Int)} (hI : Inv36 G n L []) (x : List Int) : x ∈ L ↔ Reach G n x := by
  constructor
  · exact hI.reach x
  · intro h
    induction h with
    | one => exact hI.one
    | step _ hg ih => exact hI.closed _ ih (by simp) _ hg
/-- What Closure returns. -/
theorem call36 : ∃ L, call Try.cfg 36 [.v (.int .i64 n), .sl false G.length (G.map Is)] [] = some (.sl false L.length (L.map Is), []) ∧ Asc L ∧ ∀ x, x ∈ L ↔ Reach G n x := by
  cases h0 : loopOf 0 Try.f36 with
  | none => cases h0
  | some c =>
    have hl := idP_length n
    obtain ⟨L, T, v, g1, g2⟩ := l36 hn hG hGl h0 1439 [idP n] [idP n] 0 1 (by simp) (by omega) (by simp)
      ⟨fun i j h1 h2 => by simp at h2; omega, fun x hx => by simp at hx; rw [hx]; exact .one, by simp, fun x hx => by simpa using hx, fun x hx hnx => absurd (by simpa using hx) hnx⟩
    refine ⟨L, call_step ?_, g2.asc, inv_all hn hG hGl g2⟩
    have h38 := call38u (n := n) (by omega)
    have hL := inv_len hn hG hGl g2.asc g2.reach
    have e1 : List.take L.length (List.map Is L) = List.map Is L := List.take_of_length_le (by simp)
    cases h0
    simp only [s36, Iss, List.length_cons, List.length_nil, List.map_cons, List.map_nil, Is, hl, Nat.zero_add] at g1
    simp -implicitDefEqProofs (maxSteps := 1000000) (disch := omega) only [stepA, bodyA, Try.f36, push_cast, ↓dstAt_zero, ↓dstAt_succ, ↓arun_skip, ↓arun_region, ↓arun_seq, ↓arun_cond, ↓arun_block, ↓arun_loop, ↓arun_exit, ↓arun_ret, aops_nil, aops_cons, aops_cons_guard, ↓putA_some, ↓putA_none, ↓aop_move, ↓aop_assign, ↓aop_pick, ↓aop_alloc, ↓aop_box, ↓aop_build, ↓aop_buildSlice, ↓aop_load, ↓aop_store, ↓aop_nilCheck, ↓aop_binOp, ↓aop_unOp, ↓aop_convert, ↓aop_makeSlice, ↓aop_fieldAddr, ↓aop_field, ↓aop_indexAddr, ↓aop_index, ↓aop_lookup, ↓aop_mapUpdate, ↓aop_insert, ↓aop_extract, ↓aop_callB, ↓aop_callF, ↓aop_callT, ↓aop_makeFunc, ↓aop_makeMap, ↓aop_slice, ↓aevs_nil, ↓aevs_cons, ↓evP_nil, ↓evP_cons, ↓aevO_none, ↓aevO_some, ↓reduceIte, reduceCtorEq, Nat.reduceEqDiff, Nat.reduceAdd, Nat.reduceLT, Nat.reduceSub, Nat.reduceMul, Nat.reduceLeDiff, if_true, if_false, if_pos, if_neg, h38, g1, repl_one, List.replicate_one, ↓assign_lit]
end
end Go.Proofs

/- few, Lists, ref.Valid. -/
set_option linter.unusedVariables false
set_option linter.unusedSimpArgs false
set_option linter.unusedSectionVars false
namespace Go.Proofs
open Go.AI
set_option maxRecDepth 20000
section
variable {a : Code} (h : loopOf 0 Try.f14 = some a) {L : List (List Int)} (hL : L.length ≤ 1000000)
include h hL
def st14 (L : List (List Int)) (i : Nat) : St := ([(0, Iss L), (3, I i)], [])
theorem r14a {i : Nat} (hi : i < L.length) (hq : decide ((L.getD i []).length ≤ 20) = true) : roundA Try.cfg 14 iter (call Try.cfg) 0 a (st14 L i) = some (.normal, st14 L (i + 1)) := by
  cases h
  have hx : L[i]? = some (L.getD i []) := by simp [hi]
  have he := of_decide_eq_true hq
  generalize L.getD i [] = x at *
  simp -implicitDefEqProofs (disch := omega) only [push_cast, ↓dstAt_zero, ↓dstAt_succ, ↓arun_skip, ↓arun_region, ↓arun_seq, ↓arun_cond, ↓arun_block, ↓arun_loop, ↓arun_exit, ↓arun_ret, aops_nil, aops_cons, aops_cons_guard, ↓putA_some, ↓putA_none, ↓aop_move, ↓aop_assign, ↓aop_pick, ↓aop_alloc, ↓aop_box, ↓aop_build, ↓aop_buildSlice, ↓aop_load, ↓aop_store, ↓aop_nilCheck, ↓aop_binOp, ↓aop_unOp, ↓aop_convert, ↓aop_makeSlice, ↓aop_fieldAddr, ↓aop_field, ↓aop_indexAddr, ↓aop_index, ↓aop_lookup, ↓aop_mapUpdate, ↓aop_insert, ↓aop_extract, ↓aop_callB, ↓aop_callF, ↓aop_callT, ↓aop_makeFunc, ↓aop_makeMap, ↓aop_slice, ↓aevs_nil, ↓aevs_cons, ↓evP_nil, ↓evP_cons, ↓aevO_none, ↓aevO_some, ↓reduceIte, reduceCtorEq, Nat.reduceEqDiff, Nat.reduceAdd, Nat.reduceLT, Nat.reduceSub, Nat.reduceMul, Nat.reduceLeDiff, if_true, if_false, if_pos, if_neg, st14, Iss, hx]
  try rfl
theorem r14b {i : Nat} (hi : i < L.length) (hq : decide ((L.getD i []).length ≤ 20) = false) : roundA Try.cfg 14 iter (call Try.cfg) 0 a (st14 L i) = some (.ret, [(2, B false)], []) := by
  cases h
  have hx : L[i]? = some (L.getD i []) := by simp [hi]
  have he := of_decide_eq_false hq
  generalize L.getD i [] = x at *
  simp -implicitDefEqProofs (disch := omega) only [push_cast, ↓dstAt_zero, ↓dstAt_succ, ↓arun_skip, ↓arun_region, ↓arun_seq, ↓arun_cond, ↓arun_block, ↓arun_loop, ↓arun_exit, ↓arun_ret, aops_nil, aops_cons, aops_cons_guard, ↓putA_some, ↓putA_none, ↓aop_move, ↓aop_assign, ↓aop_pick, ↓aop_alloc, ↓aop_box, ↓aop_build, ↓aop_buildSlice, ↓aop_load, ↓aop_store, ↓aop_nilCheck, ↓aop_binOp, ↓aop_unOp, ↓aop_convert, ↓aop_makeSlice, ↓aop_fieldAddr, ↓aop_field, ↓aop_indexAddr, ↓aop_index, ↓aop_lookup, ↓aop_mapUpdate, ↓aop_insert, ↓aop_extract, ↓aop_callB, ↓aop_callF, ↓aop_callT, ↓aop_makeFunc, ↓aop_makeMap, ↓aop_slice, ↓aevs_nil, ↓aevs_cons, ↓evP_nil, ↓evP_cons, ↓aevO_none, ↓aevO_some, ↓reduceIte, reduceCtorEq, Nat.reduceEqDiff, Nat.reduceAdd, Nat.reduceLT, Nat.reduceSub, Nat.reduceMul, Nat.reduceLeDiff, if_true, if_false, if_pos, if_neg, st14, Iss, hx]
theorem r14c : roundA Try.cfg 14 iter (call Try.cfg) 0 a (st14 L L.length) = some (.exit 0, [], []) := by
  cases h
  simp -implicitDefEqProofs (disch := omega) only [push_cast, ↓dstAt_zero, ↓dstAt_succ, ↓arun_skip, ↓arun_region, ↓arun_seq, ↓arun_cond, ↓arun_block, ↓arun_loop, ↓arun_exit, ↓arun_ret, aops_nil, aops_cons, aops_cons_guard, ↓putA_some, ↓putA_none, ↓aop_move, ↓aop_assign, ↓aop_pick, ↓aop_alloc, ↓aop_box, ↓aop_build, ↓aop_buildSlice, ↓aop_load, ↓aop_store, ↓aop_nilCheck, ↓aop_binOp, ↓aop_unOp, ↓aop_convert, ↓aop_makeSlice, ↓aop_fieldAddr, ↓aop_field, ↓aop_indexAddr, ↓aop_index, ↓aop_lookup, ↓aop_mapUpdate, ↓aop_insert, ↓aop_extract, ↓aop_callB, ↓aop_callF, ↓aop_callT, ↓aop_makeFunc, ↓aop_makeMap, ↓aop_slice, ↓aevs_nil, ↓aevs_cons, ↓evP_nil, ↓evP_cons, ↓aevO_none, ↓aevO_some, ↓reduceIte, reduceCtorEq, Nat.reduceEqDiff, Nat.reduceAdd, Nat.reduceLT, Nat.reduceSub, Nat.reduceMul, Nat.reduceLeDiff, if_true, if_false, if_pos, if_neg, st14, Iss]
end
def fewL (L : List (List Int)) : Bool := (List.range' 0 L.length).all fun i => decide ((L.getD i []).length ≤ 20)
theorem call14 {L : List (List Int)} (hL : L.length ≤ 1000000) : call Try.cfg 14 [.sl false L.length (L.map Is)] [] = some (B (fewL L), []) := by
  refine call_step ?_
  cases hlo : loopOf 0 Try.f14 with
  | none => cases hlo
  | some a =>
    have hH := iter_all (S := fun i => st14 L i) (q := fun i => decide ((L.getD i []).length ≤ 20)) (fun i hi hq => r14a hlo hL hi hq) (fun i hi hq => r14b hlo hL hi hq) (r14c hlo hL) (by simp) (by simp) L.length 0 (by omega)
    cases hlo
    rw [show ((List.range' 0 L.length).all fun i => decide ((L.getD i []).length ≤ 20)) = fewL L from rfl] at hH
    simp only [st14, Iss, Int.natCast_zero] at hH
    cases hd : fewL L with
    | true =>
      rw [hd, if_pos rfl] at hH
      simp -implicitDefEqProofs (disch := omega) only [stepA, bodyA, Try.cfgO, Try.sh14, Try.func14, Try.f14, push_cast, ↓dstAt_zero, ↓dstAt_succ, ↓arun_skip, ↓arun_region, ↓arun_seq, ↓arun_cond, ↓arun_block, ↓arun_loop, ↓arun_exit, ↓arun_ret, aops_nil, aops_cons, aops_cons_guard, ↓putA_some, ↓putA_none, ↓aop_move, ↓aop_assign, ↓aop_pick, ↓aop_alloc, ↓aop_box, ↓aop_build, ↓aop_buildSlice, ↓aop_load, ↓aop_store, ↓aop_nilCheck, ↓aop_binOp, ↓aop_unOp, ↓aop_convert, ↓aop_makeSlice, ↓aop_fieldAddr, ↓aop_field, ↓aop_indexAddr, ↓aop_index, ↓aop_lookup, ↓aop_mapUpdate, ↓aop_insert, ↓aop_extract, ↓aop_callB, ↓aop_callF, ↓aop_callT, ↓aop_makeFunc, ↓aop_makeMap, ↓aop_slice, ↓aevs_nil, ↓aevs_cons, ↓evP_nil, ↓evP_cons, ↓aevO_none, ↓aevO_some, ↓reduceIte, reduceCtorEq, Nat.reduceEqDiff, Nat.reduceAdd, Nat.reduceLT, Nat.reduceSub, Nat.reduceMul, Nat.reduceLeDiff, if_true, if_false, if_pos, if_neg, hH]
    | false =>
      rw [hd, if_neg (by simp)] at hH
      simp -implicitDefEqProofs (disch := omega) only [stepA, bodyA, Try.cfgO, Try.sh14, Try.func14, Try.f14, push_cast, ↓dstAt_zero, ↓dstAt_succ, ↓arun_skip, ↓arun_region, ↓arun_seq, ↓arun_cond, ↓arun_block, ↓arun_loop, ↓arun_exit, ↓arun_ret, aops_nil, aops_cons, aops_cons_guard, ↓putA_some, ↓putA_none, ↓aop_move, ↓aop_assign, ↓aop_pick, ↓aop_alloc, ↓aop_box, ↓aop_build, ↓aop_buildSlice, ↓aop_load, ↓aop_store, ↓aop_nilCheck, ↓aop_binOp, ↓aop_unOp, ↓aop_convert, ↓aop_makeSlice, ↓aop_fieldAddr, ↓aop_field, ↓aop_indexAddr, ↓aop_index, ↓aop_lookup, ↓aop_mapUpdate, ↓aop_insert, ↓aop_extract, ↓aop_callB, ↓aop_callF, ↓aop_callT, ↓aop_makeFunc, ↓aop_makeMap, ↓aop_slice, ↓aevs_nil, ↓aevs_cons, ↓evP_nil, ↓evP_cons, ↓aevO_none, ↓aevO_some, ↓reduceIte, reduceCtorEq, Nat.reduceEqDiff, Nat.reduceAdd, Nat.reduceLT, Nat.reduceSub, Nat.reduceMul, Nat.reduceLeDiff, if_true, if_false, if_pos, if_neg, hH]
theorem call20u {A C : List Int} (hA : A.length ≤ 1000000) (hC : C.length ≤ 1000000) : call Try.cfg 20 [.sl false A.length (A.map I), .sl false C.length (C.map I)] [] = some (.v (.bool (decide (A = C))), []) := call20 hA hC
section
variable {a : Code} (h : loopOf 0 Try.f13 = some a) {A C : List (List Int)} (hA : A.length ≤ 1000000) (hC : C.length = A.length) (hs : ∀ x ∈ A, x.length ≤ 1000000) (hs' : ∀ x ∈ C, x.length ≤ 1000000)
include h hA hC hs hs'
def st13 (A C : List (List Int)) (i : Nat) : St := ([(0, Iss A), (1, Iss C), (5, I i)], [])
theorem r13 {i : Nat} (hi : i < A.length) {r : Bool} (hq : decide (A.getD i [] = C.getD i []) = r) : roundA Try.cfg 13 iter (call Try.cfg) 0 a (st13 A C i) = if r then some (.normal, st13 A C (i + 1)) else some (.ret, [(4, B false)], []) := by
  cases h
  have hx : A[i]? = some (A.getD i []) := by simp [hi]
  have hy : C[i]? = some (C.getD i []) := by simp [hi, hC]
  have h1 := hs _ (List.mem_of_getElem? hx)
  have h2 := hs' _ (List.mem_of_getElem? hy)
  generalize A.getD i [] = x at *
  generalize C.getD i [] = y at *
  cases r with
  | true =>
    simp -implicitDefEqProofs (disch := omega) only [push_cast, ↓dstAt_zero, ↓dstAt_succ, ↓arun_skip, ↓arun_region, ↓arun_seq, ↓arun_cond, ↓arun_block, ↓arun_loop, ↓arun_exit, ↓arun_ret, aops_nil, aops_cons, aops_cons_guard, ↓putA_some, ↓putA_none, ↓aop_move, ↓aop_assign, ↓aop_pick, ↓aop_alloc, ↓aop_box, ↓aop_build, ↓aop_buildSlice, ↓aop_load, ↓aop_store, ↓aop_nilCheck, ↓aop_binOp, ↓aop_unOp, ↓aop_convert, ↓aop_makeSlice, ↓aop_fieldAddr, ↓aop_field, ↓aop_indexAddr, ↓aop_index, ↓aop_lookup, ↓aop_mapUpdate, ↓aop_insert, ↓aop_extract, ↓aop_callB, ↓aop_callF, ↓aop_callT, ↓aop_makeFunc, ↓aop_makeMap, ↓aop_slice, ↓aevs_nil, ↓aevs_cons, ↓evP_nil, ↓evP_cons, ↓aevO_none, ↓aevO_some, ↓reduceIte, reduceCtorEq, Nat.reduceEqDiff, Nat.reduceAdd, Nat.reduceLT, Nat.reduceSub, Nat.reduceMul, Nat.reduceLeDiff, if_true, if_false, if_pos, if_neg, Try.sh20, st13, Iss, hx, hy, call20u, hq]
    try rfl
  | false => simp -implicitDefEqProofs (disch := omega) only [push_cast, ↓dstAt_zero, ↓dstAt_succ, ↓arun_skip, ↓arun_region, ↓arun_seq, ↓arun_cond, ↓arun_block, ↓arun_loop, ↓arun_exit, ↓arun_ret, aops_nil, aops_cons, aops_cons_guard, ↓putA_some, ↓putA_none, ↓aop_move, ↓aop_assign, ↓aop_pick, ↓aop_alloc, ↓aop_box, ↓aop_build, ↓aop_buildSlice, ↓aop_load, ↓aop_store, ↓aop_nilCheck, ↓aop_binOp, ↓aop_unOp, ↓aop_convert, ↓aop_makeSlice, ↓aop_fieldAddr, ↓aop_field, ↓aop_indexAddr, ↓aop_index, ↓aop_lookup, ↓aop_mapUpdate, ↓aop_insert, ↓aop_extract, ↓aop_callB, ↓aop_callF, ↓aop_callT, ↓aop_makeFunc, ↓aop_makeMap, ↓aop_slice, ↓aevs_nil, ↓aevs_cons, ↓evP_nil, ↓evP_cons, ↓aevO_none, ↓aevO_some, ↓reduceIte, reduceCtorEq, Nat.reduceEqDiff, Nat.reduceAdd, Nat.reduceLT, Nat.reduceSub, Nat.reduceMul, Nat.reduceLeDiff, if_true, if_false, if_pos, if_neg, Try.sh20, st13, Iss, hx, hy, call20u, hq]
theorem r13c : roundA Try.cfg 13 iter (call Try.cfg) 0 a (st13 A C A.length) = some (.exit 0, [], []) := by
  cases h
  simp -implicitDefEqProofs (disch := omega) only [push_cast, ↓dstAt_zero, ↓dstAt_succ, ↓arun_skip, ↓arun_region, ↓arun_seq, ↓arun_cond, ↓arun_block, ↓arun_loop, ↓arun_exit, ↓arun_ret, aops_nil, aops_cons, aops_cons_guard, ↓putA_some, ↓putA_none, ↓aop_move, ↓aop_assign, ↓aop_pick, ↓aop_alloc, ↓aop_box, ↓aop_build, ↓aop_buildSlice, ↓aop_load, ↓aop_store, ↓aop_nilCheck, ↓aop_binOp, ↓aop_unOp, ↓aop_convert, ↓aop_makeSlice, ↓aop_fieldAddr, ↓aop_field, ↓aop_indexAddr, ↓aop_index, ↓aop_lookup, ↓aop_mapUpdate, ↓aop_insert, ↓aop_extract, ↓aop_callB, ↓aop_callF, ↓aop_callT, ↓aop_makeFunc, ↓aop_makeMap, ↓aop_slice, ↓aevs_nil, ↓aevs_cons, ↓evP_nil, ↓evP_cons, ↓aevO_none, ↓aevO_some, ↓reduceIte, reduceCtorEq, Nat.reduceEqDiff, Nat.reduceAdd, Nat.reduceLT, Nat.reduceSub, Nat.reduceMul, Nat.reduceLeDiff, if_true, if_false, if_pos, if_neg, st13, Iss]
end
theorem call13 {A C : List (List Int)} (hA : A.length ≤ 1000000) (hC : C.length ≤ 1000000) (hs : ∀ x ∈ A, x.length ≤ 1000000) (hs' : ∀ x ∈ C, x.length ≤ 1000000) :
    call Try.cfg 13 [.sl false A.length (A.map Is), .sl false C.length (C.map Is)] [] = some (.v (.bool (decide (A = C))), []) := by
  refine call_step ?_
  by_cases hl : C.length = A.length
  · cases hlo : loopOf 0 Try.f13 with
    | none => cases hlo
    | some a =>
      have hH := iter_all (S := fun i => st13 A C i) (q := fun i => decide (A.getD i [] = C.getD i [])) (fun i hi hq => r13 hlo hA hl hs hs' hi hq) (fun i hi hq => r13 hlo hA hl hs hs' hi hq) (r13c hlo hA hl hs hs') (by simp) (by simp) A.length 0 (by omega)
      cases hlo
      rw [all_eq [] hl.symm] at hH
      simp only [st13, Iss, Int.natCast_zero] at hH
      cases hd : decide (A = C) with
      | true =>
        rw [hd, if_pos rfl] at hH
        simp -implicitDefEqProofs (disch := omega) only [stepA, bodyA, Try.cfgO, Try.sh13, Try.func13, Try.f13, push_cast, ↓dstAt_zero, ↓dstAt_succ, ↓arun_skip, ↓arun_region, ↓arun_seq, ↓arun_cond, ↓arun_block, ↓arun_loop, ↓arun_exit, ↓arun_ret, aops_nil, aops_cons, aops_cons_guard, ↓putA_some, ↓putA_none, ↓aop_move, ↓aop_assign, ↓aop_pick, ↓aop_alloc, ↓aop_box, ↓aop_build, ↓aop_buildSlice, ↓aop_load, ↓aop_store, ↓aop_nilCheck, ↓aop_binOp, ↓aop_unOp, ↓aop_convert, ↓aop_makeSlice, ↓aop_fieldAddr, ↓aop_field, ↓aop_indexAddr, ↓aop_index, ↓aop_lookup, ↓aop_mapUpdate, ↓aop_insert, ↓aop_extract, ↓aop_callB, ↓aop_callF, ↓aop_callT, ↓aop_makeFunc, ↓aop_makeMap, ↓aop_slice, ↓aevs_nil, ↓aevs_cons, ↓evP_nil, ↓evP_cons, ↓aevO_none, ↓aevO_some, ↓reduceIte, reduceCtorEq, Nat.reduceEqDiff, Nat.reduceAdd, Nat.reduceLT, Nat.reduceSub, Nat.reduceMul, Nat.reduceLeDiff, if_true, if_false, if_pos, if_neg, hH]
      | false =>
        rw [hd, if_neg (by simp)] at hH
        simp -implicitDefEqProofs (disch := omega) only [stepA, bodyA, Try.cfgO, Try.sh13, Try.func13, Try.f13, push_cast, ↓dstAt_zero, ↓dstAt_succ, ↓arun_skip, ↓arun_region, ↓arun_seq, ↓arun_cond, ↓arun_block, ↓arun_loop, ↓arun_exit, ↓arun_ret, aops_nil, aops_cons, aops_cons_guard, ↓putA_some, ↓putA_none, ↓aop_move, ↓aop_assign, ↓aop_pick, ↓aop_alloc, ↓aop_box, ↓aop_build, ↓aop_buildSlice, ↓aop_load, ↓aop_store, ↓aop_nilCheck, ↓aop_binOp, ↓aop_unOp, ↓aop_convert, ↓aop_makeSlice, ↓aop_fieldAddr, ↓aop_field, ↓aop_indexAddr, ↓aop_index, ↓aop_lookup, ↓aop_mapUpdate, ↓aop_insert, ↓aop_extract, ↓aop_callB, ↓aop_callF, ↓aop_callT, ↓aop_makeFunc, ↓aop_makeMap, ↓aop_slice, ↓aevs_nil, ↓aevs_cons, ↓evP_nil, ↓evP_cons, ↓aevO_none, ↓aevO_some, ↓reduceIte, reduceCtorEq, Nat.reduceEqDiff, Nat.reduceAdd, Nat.reduceLT, Nat.reduceSub, Nat.reduceMul, Nat.reduceLeDiff, if_true, if_false, if_pos, if_neg, hH]
  · have hd : decide (A = C) = false := decide_eq_false (fun e => hl (by rw [e]))
    rw [hd]
    simp -implicitDefEqProofs (disch := omega) only [stepA, bodyA, Try.cfgO, Try.sh13, Try.func13, Try.f13, push_cast, ↓dstAt_zero, ↓dstAt_succ, ↓arun_skip, ↓arun_region, ↓arun_seq, ↓arun_cond, ↓arun_block, ↓arun_loop, ↓arun_exit, ↓arun_ret, aops_nil, aops_cons, aops_cons_guard, ↓putA_some, ↓putA_none, ↓aop_move, ↓aop_assign, ↓aop_pick, ↓aop_alloc, ↓aop_box, ↓aop_build, ↓aop_buildSlice, ↓aop_load, ↓aop_store, ↓aop_nilCheck, ↓aop_binOp, ↓aop_unOp, ↓aop_convert, ↓aop_makeSlice, ↓aop_fieldAddr, ↓aop_field, ↓aop_indexAddr, ↓aop_index, ↓aop_lookup, ↓aop_mapUpdate, ↓aop_insert, ↓aop_extract, ↓aop_callB, ↓aop_callF, ↓aop_callT, ↓aop_makeFunc, ↓aop_makeMap, ↓aop_slice, ↓aevs_nil, ↓aevs_cons, ↓evP_nil, ↓evP_cons, ↓aevO_none, ↓aevO_some, ↓reduceIte, reduceCtorEq, Nat.reduceEqDiff, Nat.reduceAdd, Nat.reduceLT, Nat.reduceSub, Nat.reduceMul, Nat.reduceLeDiff, if_true, if_false, if_pos, if_neg, ]
end Go.Proofs

/- The abstract interpreter: from a call's answer to a law's row. Conditions: the call's answer; the law's arguments read as trees. -/
set_option linter.unusedVariables false
namespace Go.AI
open Go.ChangeShapes Go.WideShapes Go.ChangeAt Go.RowKit
def K0 (W : World) : Kx := ⟨fun _ => False, fun _ => False, W⟩
def κ0 (W : World) : Kap := kap (K0 W) [] (fun _ => none) W
/-- What a call that answers `true` does in the program. -/
theorem true_sound {c : Cfg} (hF : Fit c) {f : FuncId} {args : List AV} (h : call c f args [] = some (.v (.bool true), [])) {W : World} {cargs : List Value} (hv : VRs (κ0 W) args cargs) :
    Calls c.P f cargs.toArray W fun e W' => e = .returned (.bool true) ∧ Ext (K0 W) W' := by
  have hI : Inv (K0 W) [] (fun _ => none) W := noP_inv (fun b hb => hb.elim) ⟨rfl, rfl, rfl, Nat.le_refl _, fun _ _ _ => rfl, fun _ => rfl⟩
  exact ((call_sound hF f args [] _ _ h).2.2 (K0 W) (fun _ => none) W cargs hI hv).mono fun e W' ⟨u, p', h1, h2, h3, h4⟩ => by
    cases h4.v_eq
    exact ⟨h1, h2.ext⟩
theorem Ext.below {W W' : World} (h : Ext (K0 W) W') : Below W.heap.size W W' := ⟨h.os, h.tape, h.output, h.size, fun k hk => h.block k hk (fun h => h)⟩
theorem trodAll_stays {H : Type} {enc : TypeId × Value → H} {P : Program} (hl : laidOutB P = true) {W W' : World} {sp : Nat → Bool} (hb : Below W.heap.size W W') : ∀ {ts : List TypeId} {vs : List Value} {ds : List (DataW H)} {ps : List MemPlace},
    (∀ t ∈ ts, P.readableRec t = true ∧ t < P.types.size) → DataW.TrodAll enc P W 0 (fun _ => true) true ts vs ds ps → (∀ x ∈ ps, x.block < W.heap.size) → (∀ x ∈ ps, sp x.block = true) → DataW.TrodAll enc P W' 0 sp true ts vs ds ps
  | [], [], [], ps, _, h, _, _ => h
  | t :: ts, v :: vs, d :: ds, ps, hr, h, hlt, hs => by
    obtain ⟨p, q, h1, h2, rfl⟩ := h
    refine ⟨p, q, ?_, ?_, rfl⟩
    · exact WideElems.Trod_stays hl (hr t (by simp)).1 (hr t (by simp)).2 h1 (fun x hx => hb.same (hlt x (by simp [hx]))) (fun x hx => hs x (by simp [hx]))
    · exact trodAll_stays hl hb (fun t ht => hr t (by simp [ht])) h2 (fun x hx => hlt x (by simp [hx])) (fun x hx => hs x (by simp [hx]))
  | [], _ :: _, _, _, _, h, _, _ => h.elim
  | [], [], _ :: _, _, _, h, _, _ => h.elim
  | _ :: _, [], _, _, _, h, _, _ => h.elim
  | _ :: _, _ :: _, [], _, _, h, _, _ => h.elim
theorem law_post {H : Type} {enc : TypeId × Value → H} {P : Program} (hl : laidOutB P = true) {f : Func} {s : ChangeSpec} {apart fresh handsOn again : Bool} {W W' : World} {args : Array Value} {ds gs : List (DataW H)} {before : List MemPlace}
    (hW : DataW.Whole enc P f.params.toList s.vars apart W args.toList ds gs before) (hvars : s.vars = []) (h1 : (s.fn H (ds ++ gs)).results = [.lit (.bool true)]) (h2 : (s.fn H (ds ++ gs)).args = ds) (h3 : (s.fn H (ds ++ gs)).vars = [])
    {tb : TypeId} (ht : f.resultTypes = #[tb]) (hb : P.underlying tb = some .bool) (hr : ∀ t ∈ f.params.toList, P.readableRec t = true ∧ t < P.types.size) (hE : Ext (K0 W) W') :
    s.post enc P f apart fresh handsOn again W args (.bool true) W' := by
  have hW' := hW
  obtain ⟨p, q, hA, hV, rfl, hfz, hnd⟩ := hW
  rw [hvars] at hV
  obtain ⟨rfl, rfl⟩ := trodVars_none hV
  refine post_of_same (pa := p) (pv := []) hW' ?_ ?_ ?_ rfl (hE.below.frame _) hE.froz ?_
  · intro b sp hd
    rw [h1, ht]
    exact trodAll_mk1 (shut_bool hb true)
  · intro sp hsp
    rw [h2]
    exact trodAll_stays hl hE.below hr hA (fun x hx => hW'.lt x (by simpa using hx)) (fun x hx => hsp x (by simpa using hx))
  · intro sp hsp
    rw [h3, hvars]
    rfl
  · refine ok_one ht rfl ?_
    exact okWide_bool_mk hb true

/-! ### Arguments read as trees -/
section
variable {H : Type} {enc : TypeId × Value → H} {P : Program} {W : World}
/-- One cell that reads at a type. -/
abbrev Rd (enc : TypeId × Value → H) (P : Program) (W : World) (t : TypeId) (u : Value) : Prop := ∃ fuel z, DataW.trod enc P W 0 (fun _ => true) true fuel t [u] = some z
theorem cell_spot {a : Addr} {u : Value} (h : W.cell? a = some u) : a.spot = none := by
  unfold World.cell? at h
  split at h
  · split at h
    · cases h
    · rename_i hs; simpa using hs
  · cases h
theorem add_none {a : Addr} (h : a.spot = none) (i : Nat) : a.add i = ⟨a.block, a.off + i, none⟩ := by
  obtain ⟨b, o, s⟩ := a
  simp only at h
  subst h
  exact abs_add b o i
theorem rd_slice {α : Type} {en : α → AV} (hgood : ∀ x, (en x).good = true) {Q : α → Prop} {t e : TypeId} (ht : P.underlying t = some (.slice e)) (hc : P.cellsOf e = 1)
    (hel : ∀ u, Rd enc P W e u → ∃ x, Q x ∧ VR (κ0 W) (en x) u ∧ u.oneCell' = true) {u : Value} (h : Rd enc P W t u) :
    ∃ l : List α, (∀ x ∈ l, Q x) ∧ l.length ≤ maxLen ∧ VR (κ0 W) (.sl false l.length (l.map en)) u ∧ u.oneCell' = true := by
  obtain ⟨fuel, z, h⟩ := h
  have hg : ∀ l : List α, goodL (l.map en) = true := by
    intro l
    induction l with
    | nil => rfl
    | cons a r ih => simp only [List.map_cons, goodL, hgood, ih, Bool.and_self]
  rcases DataW.trod_slice ht h with ⟨h0, _⟩ | ⟨a, len, cap, elems, rest, n, _, h1, h2, h3, h4, h5, h6, h7, _⟩
  · cases h0
    refine ⟨[], (fun x hx => by cases hx), Nat.zero_le _, ?_, rfl⟩
    simp only [VR]
    exact ⟨none, 0, rfl, Nat.le_refl _, fun _ => rfl, fun h => absurd h (Nat.lt_irrefl _), rfl, [], .nil, rfl⟩
  · cases h1
    have each : ∀ i, i < len → ∃ c x, W.cell? (a.add i) = some c ∧ Q x ∧ VR (κ0 W) (en x) c ∧ c.oneCell' = true := by
      intro i hi
      have h8 := h7 i hi
      have h9 : elems[i]? = some elems[i] := by simp [h6, hi]
      rw [h9, hc, Nat.mul_one, Option.bind_eq_some_iff] at h8
      obtain ⟨cs, hcs, htr⟩ := h8
      simp only [World.cells?, Nat.zero_le, if_true] at hcs
      cases hq : W.cell? ((a.add i).add 0) with
      | none => simp [List.range_succ, hq] at hcs
      | some c =>
        have hcs' : cs = [c] := by simpa [List.range_succ, hq] using hcs.symm
        subst hcs'
        obtain ⟨x, hx1, hx2, hx3⟩ := hel c ⟨n, _, htr⟩
        exact ⟨c, x, by simpa [Addr.add] using hq, hx1, hx2, hx3⟩
    have build : ∀ m, m ≤ len → ∃ (l : List α) (us : List Value), l.length = m ∧ (∀ x ∈ l, Q x) ∧ VRs (κ0 W) (l.map en) us ∧ (∀ j y, us[j]? = some y → W.cell? (a.add j) = some y) ∧ ∀ y ∈ us, y.oneCell' = true := by
      intro m
      induction m with
      | zero => intro _; exact ⟨[], [], rfl, (fun x hx => by cases hx), .nil, (fun j y hj => by simp at hj), (fun y hy => by cases hy)⟩
      | succ m ih =>
        intro hm
        obtain ⟨l, us, g1, g2, g3, g4, g5⟩ := ih (by omega)
        obtain ⟨c, x, e1, e2, e3, e4⟩ := each m (by omega)
        have hul : us.length = m := by rw [g3.length, List.length_map, g1]
        refine ⟨l ++ [x], us ++ [c], by simp [g1], ?_, ?_, ?_, ?_⟩
        · intro y hy
          rcases List.mem_append.1 hy with hy | hy
          · exact g2 y hy
          · simp at hy; subst hy; exact e2
        · rw [List.map_append]
          exact g3.append (.cons e3 .nil)
        · intro j y hj
          rcases Nat.lt_or_ge j us.length with hlt | hge
          · rw [List.getElem?_append_left hlt] at hj
            exact g4 j y hj
          · rw [List.getElem?_append_right hge] at hj
            have hj0 : j - us.length = 0 := by
              have := (List.getElem?_eq_some_iff.1 hj).1
              simp at this
              omega
            rw [hj0] at hj
            have : j = m := by omega
            subst this
            simp at hj
            subst hj
            exact e1
        · intro y hy
          rcases List.mem_append.1 hy with hy | hy
          · exact g5 y hy
          · simp at hy; subst hy; exact e4
    obtain ⟨l, us, g1, g2, g3, g4, g5⟩ := build len (Nat.le_refl _)
    have hspot : us ≠ [] → a.spot = none := by
      intro hne
      obtain ⟨c, r, rfl⟩ := List.exists_cons_of_ne_nil hne
      have := cell_spot (g4 0 c rfl)
      simpa [Addr.add] using this
    have hul : us.length = len := by rw [g3.length, List.length_map, g1]
    refine ⟨l, g2, by omega, ?_, rfl⟩
    simp only [VR]
    refine ⟨some a, cap, by rw [g1], by omega, (fun h => by cases h), fun _ => rfl, hg l, us, g3, ?_, ?_⟩
    · rintro (h | h)
      · exact hspot (fun e => by rw [e] at hul; simp at hul; omega)
      · exact hspot h
    · refine ⟨fun j y hj => ?_, fun hne hA => ?_, g5⟩
      · have hne : us ≠ [] := by intro e; rw [e] at hj; simp at hj
        have := g4 j y hj
        rw [add_none (hspot hne)] at this
        exact this
      · rcases hA with hA | ⟨b, x, v, o, q1, _⟩
        · exact hA.elim
        · simp at q1
theorem rd_int {e : TypeId} {k : IntKind} (he : P.underlying e = some (.int k)) {u : Value} (h : Rd enc P W e u) : ∃ x : Int, (Lit.int k x).wf = true ∧ VR (κ0 W) (.v (.int k x)) u ∧ u.oneCell' = true := by
  obtain ⟨fuel, z, h⟩ := h
  obtain ⟨n, h1, h2, h3⟩ := DataW.trod_int he h
  cases h1
  exact ⟨n, h3, VR_v rfl, rfl⟩
theorem rd_bool {e : TypeId} (he : P.underlying e = some .bool) {u : Value} (h : Rd enc P W e u) : ∃ x : Bool, VR (κ0 W) (.v (.bool x)) u ∧ u.oneCell' = true := by
  obtain ⟨fuel, z, h⟩ := h
  obtain ⟨n, h1, h2⟩ := DataW.trod_bool he h
  cases h1
  exact ⟨n, VR_v rfl, rfl⟩
theorem rd_string {e : TypeId} (he : P.underlying e = some .string) {u : Value} (h : Rd enc P W e u) : ∃ x : ByteArray, x.size ≤ maxLen ∧ VR (κ0 W) (.v (.string x)) u ∧ u.oneCell' = true := by
  obtain ⟨fuel, z, h⟩ := h
  obtain ⟨n, h1, h2, h3⟩ := DataW.trod_string he h
  cases h1
  exact ⟨n, h3, VR_v rfl, rfl⟩
/-- An argument of one cell. -/
theorem rd_arg {r : Reach} {t : TypeId} {v : Value} {d : DataW H} {ps : List MemPlace} (h1 : ∀ fs, P.underlying t ≠ some (.struct fs)) (h2 : ∀ n e, P.underlying t ≠ some (.array n e)) (hv : v.cells.toList = [v]) (h : DataW.Trod enc P W 0 (fun _ => true) true t v d ps) : Rd enc P W t v := by
  obtain ⟨fuel, h⟩ := h
  rw [hv] at h
  exact ⟨fuel, _, h⟩
theorem arg_int {b : Nat} {t : TypeId} {v : Value} {d : DataW H} {ps : List MemPlace} (ht : P.underlying t = some (.int .i64)) (ho : Value.okWide P W .any b t v) (h : DataW.Trod enc P W 0 (fun _ => true) true t v d ps) :
    ∃ x : Int, (-9223372036854775808 ≤ x ∧ x < 9223372036854775808) ∧ VR (κ0 W) (.v (.int .i64 x)) v := by
  obtain ⟨n, rfl⟩ := okWide_int ht ho
  obtain ⟨fuel, h⟩ := h
  obtain ⟨x, h1, h2, _⟩ := rd_int (enc := enc) (W := W) ht ⟨fuel, _, h⟩
  refine ⟨x, ?_, h2⟩
  simp only [Lit.wf, IntKind.min, IntKind.max, IntKind.signed, IntKind.bits] at h1
  simp at h1
  omega
theorem arg_bool {b : Nat} {t : TypeId} {v : Value} {d : DataW H} {ps : List MemPlace} (ht : P.underlying t = some .bool) (ho : Value.okWide P W .any b t v) (h : DataW.Trod enc P W 0 (fun _ => true) true t v d ps) :
    ∃ x : Bool, VR (κ0 W) (.v (.bool x)) v := by
  obtain ⟨n, rfl⟩ := okWide_bool ht ho
  exact ⟨n, VR_v rfl⟩
def i64 (x : Int) : Prop := -9223372036854775808 ≤ x ∧ x < 9223372036854775808
theorem wf_i64 {x : Int} (h : (Lit.int .i64 x).wf = true) : i64 x := by
  simp only [Lit.wf, IntKind.min, IntKind.max, IntKind.signed, IntKind.bits] at h
  simp at h
  unfold i64
  omega
theorem rd_ints {t e : TypeId} (ht : P.underlying t = some (.slice e)) (hc : P.cellsOf e = 1) (he : P.underlying e = some (.int .i64)) {u : Value} (h : Rd enc P W t u) :
    ∃ l : List Int, ((∀ x ∈ l, i64 x) ∧ l.length ≤ maxLen) ∧ VR (κ0 W) (.sl false l.length (l.map fun n => .v (.int .i64 n))) u ∧ u.oneCell' = true := by
  obtain ⟨l, h1, h2, h3, h4⟩ := rd_slice (en := fun n => .v (.int .i64 n)) (Q := i64) (fun _ => rfl) ht hc (fun u hu => by
    obtain ⟨x, g1, g2, g3⟩ := rd_int he hu
    exact ⟨x, wf_i64 g1, g2, g3⟩) h
  exact ⟨l, ⟨h1, h2⟩, h3, h4⟩
theorem arg_slice {b : Nat} {t e : TypeId} {v : Value} {d : DataW H} {ps : List MemPlace} (ht : P.underlying t = some (.slice e)) (ho : Value.okWide P W .any b t v) (h : DataW.Trod enc P W 0 (fun _ => true) true t v d ps) : Rd enc P W t v := by
  obtain ⟨a, len, cap, rfl⟩ := okWide_slice ht ho
  obtain ⟨fuel, h⟩ := h
  exact ⟨fuel, _, h⟩
end
end Go.AI

/- GroupOrbits: the function answers true. -/
set_option linter.unusedVariables false
set_option linter.unusedSimpArgs false
set_option linter.unusedSectionVars false
namespace Go.Proofs
open Go.AI
set_option maxRecDepth 20000
set_option maxHeartbeats 4000000
theorem call8o : call Try.cfg 8 [] [] = some (.v (.bool true), []) := call_run 20 (by kernel_rfl)
theorem cand_ins (G L : List (List Int)) (m : List Int) : ∀ (d k : Nat) (q : List Bool × List Int), (candS G L m d k q).2.length ≤ q.2.length + d := fun d k q => (candS_len G L m d k q).2
theorem st30_ins (G L : List (List Int)) : ∀ i, ∀ x ∈ (st30 G L i).2, x.length ≤ L.length
  | 0, x, hx => by simp [st30] at hx
  | i + 1, x, hx => by
    simp only [st30, step30] at hx
    split at hx
    · exact st30_ins G L i x hx
    · rcases List.mem_append.1 hx with hx | hx
      · exact st30_ins G L i x hx
      · rw [List.mem_singleton.1 hx]
        have := cand_ins G L (gt L i) (L.length - i) i ((st30 G L i).1, [])
        simp at this
        omega
theorem orbL_len (G L O : List (List Int)) : (orbL G L O).1.length ≤ O.length ∧ ∀ x ∈ (orbL G L O).1, x ∈ O := by
  unfold orbL
  repeat' split
  all_goals simp
/-- The group of two permutations. -/
theorem call28 {n : Int} {A C : List Int} (hn : i64 n) (hA : A.length ≤ 1000) (hC : C.length ≤ 1000) (hrA : ∀ x ∈ A, i64 x) (hrC : ∀ x ∈ C, i64 x) :
    ∃ (k : Nat) (M : List (List Int)), call Try.cfg 28 [.v (.int .i64 n), .sl false A.length (A.map I), .sl false C.length (C.map I)] [] = some (.tu [.sl false M.length (M.map Is), .v (.int .i64 (k : Int))], []) ∧ M.length ≤ 720 ∧ ∀ x ∈ M, x.length ≤ 6 := by
  have h1 := Int.emod_nonneg n (show (4 : Int) ≠ 0 by omega)
  have h2 := Int.emod_lt_of_pos n (show (0 : Int) < 4 by omega)
  have h15 := call15u (n := n) (m := 4) (by omega) (by omega) hn.1 hn.2
  obtain ⟨k, hk⟩ : ∃ k : Nat, n % 4 + 1 = (k : Int) := ⟨(n % 4 + 1).toNat, by omega⟩
  have hk4 : k ≤ 6 := by omega
  have p1 := call16 (A := A) (n := k) hA hk4 hrA
  have p2 := call16 (A := C) (n := k) hC hk4 hrC
  have hG : ∀ g ∈ [permS A k, permS C k], PermN k g := fun g hg => by
    simp only [List.mem_cons, List.not_mem_nil, or_false] at hg
    rcases hg with rfl | rfl
    · exact ⟨permS_valid A hk4, permS_length A k⟩
    · exact ⟨permS_valid C hk4, permS_length C k⟩
  obtain ⟨M, h36, hasc, hmem⟩ := call36 hk4 hG (by simp)
  have hM : M.length ≤ 720 := perm_count hk4 hasc.nodup fun x hx => reach_perm hk4 hG ((hmem x).1 hx)
  have hMl : ∀ x ∈ M, x.length ≤ 6 := fun x hx => by
    have := reach_perm hk4 hG ((hmem x).1 hx)
    rw [this.2]; exact hk4
  refine ⟨k, M, call_step ?_, hM, hMl⟩
  have l1 := permS_length A k
  have l2 := permS_length C k
  simp only [Is, List.map_cons, List.map_nil, List.length_cons, List.length_nil, Nat.zero_add] at p1 p2 h36
  clear hG hmem hasc
  generalize permS A k = X at *
  generalize permS C k = Y at *
  simp -implicitDefEqProofs (maxSteps := 1000000) (disch := omega) only [stepA, bodyA, Try.f28, push_cast, ↓dstAt_zero, ↓dstAt_succ, ↓arun_skip, ↓arun_region, ↓arun_seq, ↓arun_cond, ↓arun_block, ↓arun_loop, ↓arun_exit, ↓arun_ret, aops_nil, aops_cons, aops_cons_guard, ↓putA_some, ↓putA_none, ↓aop_move, ↓aop_assign, ↓aop_pick, ↓aop_alloc, ↓aop_box, ↓aop_build, ↓aop_buildSlice, ↓aop_load, ↓aop_store, ↓aop_nilCheck, ↓aop_binOp, ↓aop_unOp, ↓aop_convert, ↓aop_makeSlice, ↓aop_fieldAddr, ↓aop_field, ↓aop_indexAddr, ↓aop_index, ↓aop_lookup, ↓aop_mapUpdate, ↓aop_insert, ↓aop_extract, ↓aop_callB, ↓aop_callF, ↓aop_callT, ↓aop_makeFunc, ↓aop_makeMap, ↓aop_slice, ↓aevs_nil, ↓aevs_cons, ↓evP_nil, ↓evP_cons, ↓aevO_none, ↓aevO_some, ↓reduceIte, reduceCtorEq, Nat.reduceEqDiff, Nat.reduceAdd, Nat.reduceLT, Nat.reduceSub, Nat.reduceMul, Nat.reduceLeDiff, if_true, if_false, if_pos, if_neg, h15, hk, p1, p2, h36]
  try rfl
theorem tn80 : Int.toNat 80 = 80 := rfl
section
variable {n : Int} {A C : List Int} {L R : List (List Int)} {use : Bool} (hn : i64 n) (hA : A.length ≤ maxLen) (hC : C.length ≤ maxLen) (hrA : ∀ x ∈ A, i64 x) (hrC : ∀ x ∈ C, i64 x) (hL : L.length ≤ maxLen) (hs : ∀ x ∈ L, x.length ≤ maxLen) (hR : R.length ≤ maxLen) (hsR : ∀ x ∈ R, x.length ≤ maxLen)
include hn hA hC hrA hrC hL hs hR hsR
theorem call6 : call Try.cfg 6 [.v (.int .i64 n), .sl false A.length (A.map I), .sl false C.length (C.map I), .sl false L.length (L.map Is), .sl false R.length (R.map Is), .v (.bool use)] [] = some (.v (.bool true), []) := by
  refine call_step ?_
  have h14 := call14 (L := [A, C]) (by simp)
  have h7 : call Try.cfg 7 [.sl false L.length (L.map Is), .v (.int .i64 80), .v (.int .i64 8)] [] = some (.v (.bool (smallL L 80 8)), []) := call7 (L := L) (k := 80) (m := 8) (by unfold maxLen at hL; omega) (fun x hx => by have := hs x hx; unfold maxLen at this; omega) (by omega) (by omega)
  have h7' : call Try.cfg 7 [.sl false R.length (R.map Is), .v (.int .i64 6), .v (.int .i64 8)] [] = some (.v (.bool (smallL R 6 8)), []) := call7 (L := R) (k := 6) (m := 8) (by unfold maxLen at hR; omega) (fun x hx => by have := hsR x hx; unfold maxLen at this; omega) (by omega) (by omega)
  have h8 := call8o
  simp only [List.map_cons, List.map_nil, List.length_cons, List.length_nil, Is, Nat.zero_add] at h14
  cases hf : fewL [A, C] with
  | false =>
    rw [hf] at h14
    simp -implicitDefEqProofs (maxSteps := 1000000) (disch := omega) only [stepA, bodyA, Try.f6, push_cast, ↓dstAt_zero, ↓dstAt_succ, ↓arun_skip, ↓arun_region, ↓arun_seq, ↓arun_cond, ↓arun_block, ↓arun_loop, ↓arun_exit, ↓arun_ret, aops_nil, aops_cons, aops_cons_guard, ↓putA_some, ↓putA_none, ↓aop_move, ↓aop_assign, ↓aop_pick, ↓aop_alloc, ↓aop_box, ↓aop_build, ↓aop_buildSlice, ↓aop_load, ↓aop_store, ↓aop_nilCheck, ↓aop_binOp, ↓aop_unOp, ↓aop_convert, ↓aop_makeSlice, ↓aop_fieldAddr, ↓aop_field, ↓aop_indexAddr, ↓aop_index, ↓aop_lookup, ↓aop_mapUpdate, ↓aop_insert, ↓aop_extract, ↓aop_callB, ↓aop_callF, ↓aop_callT, ↓aop_makeFunc, ↓aop_makeMap, ↓aop_slice, ↓aevs_nil, ↓aevs_cons, ↓evP_nil, ↓evP_cons, ↓aevO_none, ↓aevO_some, ↓reduceIte, reduceCtorEq, Nat.reduceEqDiff, Nat.reduceAdd, Nat.reduceLT, Nat.reduceSub, Nat.reduceMul, Nat.reduceLeDiff, if_true, if_false, if_pos, if_neg, h14, h8]
  | true =>
    rw [hf] at h14
    have hl : A.length ≤ 20 ∧ C.length ≤ 20 := by
      have e : fewL [A, C] = (decide (A.length ≤ 20) && (decide (C.length ≤ 20) && true)) := rfl
      rw [e] at hf
      simpa using hf
    cases hsm : smallL L 80 8 with
    | false =>
      rw [hsm] at h7
      simp -implicitDefEqProofs (maxSteps := 1000000) (disch := omega) only [stepA, bodyA, Try.f6, push_cast, ↓dstAt_zero, ↓dstAt_succ, ↓arun_skip, ↓arun_region, ↓arun_seq, ↓arun_cond, ↓arun_block, ↓arun_loop, ↓arun_exit, ↓arun_ret, aops_nil, aops_cons, aops_cons_guard, ↓putA_some, ↓putA_none, ↓aop_move, ↓aop_assign, ↓aop_pick, ↓aop_alloc, ↓aop_box, ↓aop_build, ↓aop_buildSlice, ↓aop_load, ↓aop_store, ↓aop_nilCheck, ↓aop_binOp, ↓aop_unOp, ↓aop_convert, ↓aop_makeSlice, ↓aop_fieldAddr, ↓aop_field, ↓aop_indexAddr, ↓aop_index, ↓aop_lookup, ↓aop_mapUpdate, ↓aop_insert, ↓aop_extract, ↓aop_callB, ↓aop_callF, ↓aop_callT, ↓aop_makeFunc, ↓aop_makeMap, ↓aop_slice, ↓aevs_nil, ↓aevs_cons, ↓evP_nil, ↓evP_cons, ↓aevO_none, ↓aevO_some, ↓reduceIte, reduceCtorEq, Nat.reduceEqDiff, Nat.reduceAdd, Nat.reduceLT, Nat.reduceSub, Nat.reduceMul, Nat.reduceLeDiff, if_true, if_false, if_pos, if_neg, h14, h7, h8]
    | true =>
      rw [hsm] at h7
      obtain ⟨h80, hs8⟩ := smallL_iff.1 hsm
      cases hsr : smallL R 6 8 with
      | false =>
        rw [hsr] at h7'
        by_cases c1 : 12 < L.length
        · by_cases c2 : L.length < 60
          · simp -implicitDefEqProofs (maxSteps := 1000000) (disch := omega) only [stepA, bodyA, Try.f6, push_cast, ↓dstAt_zero, ↓dstAt_succ, ↓arun_skip, ↓arun_region, ↓arun_seq, ↓arun_cond, ↓arun_block, ↓arun_loop, ↓arun_exit, ↓arun_ret, aops_nil, aops_cons, aops_cons_guard, ↓putA_some, ↓putA_none, ↓aop_move, ↓aop_assign, ↓aop_pick, ↓aop_alloc, ↓aop_box, ↓aop_build, ↓aop_buildSlice, ↓aop_load, ↓aop_store, ↓aop_nilCheck, ↓aop_binOp, ↓aop_unOp, ↓aop_convert, ↓aop_makeSlice, ↓aop_fieldAddr, ↓aop_field, ↓aop_indexAddr, ↓aop_index, ↓aop_lookup, ↓aop_mapUpdate, ↓aop_insert, ↓aop_extract, ↓aop_callB, ↓aop_callF, ↓aop_callT, ↓aop_makeFunc, ↓aop_makeMap, ↓aop_slice, ↓aevs_nil, ↓aevs_cons, ↓evP_nil, ↓evP_cons, ↓aevO_none, ↓aevO_some, ↓reduceIte, reduceCtorEq, Nat.reduceEqDiff, Nat.reduceAdd, Nat.reduceLT, Nat.reduceSub, Nat.reduceMul, Nat.reduceLeDiff, if_true, if_false, if_pos, if_neg, h14, h7, h7', h8]
          · simp -implicitDefEqProofs (maxSteps := 1000000) (disch := omega) only [stepA, bodyA, Try.f6, push_cast, ↓dstAt_zero, ↓dstAt_succ, ↓arun_skip, ↓arun_region, ↓arun_seq, ↓arun_cond, ↓arun_block, ↓arun_loop, ↓arun_exit, ↓arun_ret, aops_nil, aops_cons, aops_cons_guard, ↓putA_some, ↓putA_none, ↓aop_move, ↓aop_assign, ↓aop_pick, ↓aop_alloc, ↓aop_box, ↓aop_build, ↓aop_buildSlice, ↓aop_load, ↓aop_store, ↓aop_nilCheck, ↓aop_binOp, ↓aop_unOp, ↓aop_convert, ↓aop_makeSlice, ↓aop_fieldAddr, ↓aop_field, ↓aop_indexAddr, ↓aop_index, ↓aop_lookup, ↓aop_mapUpdate, ↓aop_insert, ↓aop_extract, ↓aop_callB, ↓aop_callF, ↓aop_callT, ↓aop_makeFunc, ↓aop_makeMap, ↓aop_slice, ↓aevs_nil, ↓aevs_cons, ↓evP_nil, ↓evP_cons, ↓aevO_none, ↓aevO_some, ↓reduceIte, reduceCtorEq, Nat.reduceEqDiff, Nat.reduceAdd, Nat.reduceLT, Nat.reduceSub, Nat.reduceMul, Nat.reduceLeDiff, if_true, if_false, if_pos, if_neg, h14, h7, h7', h8]
        · simp -implicitDefEqProofs (maxSteps := 1000000) (disch := omega) only [stepA, bodyA, Try.f6, push_cast, ↓dstAt_zero, ↓dstAt_succ, ↓arun_skip, ↓arun_region, ↓arun_seq, ↓arun_cond, ↓arun_block, ↓arun_loop, ↓arun_exit, ↓arun_ret, aops_nil, aops_cons, aops_cons_guard, ↓putA_some, ↓putA_none, ↓aop_move, ↓aop_assign, ↓aop_pick, ↓aop_alloc, ↓aop_box, ↓aop_build, ↓aop_buildSlice, ↓aop_load, ↓aop_store, ↓aop_nilCheck, ↓aop_binOp, ↓aop_unOp, ↓aop_convert, ↓aop_makeSlice, ↓aop_fieldAddr, ↓aop_field, ↓aop_indexAddr, ↓aop_index, ↓aop_lookup, ↓aop_mapUpdate, ↓aop_insert, ↓aop_extract, ↓aop_callB, ↓aop_callF, ↓aop_callT, ↓aop_makeFunc, ↓aop_makeMap, ↓aop_slice, ↓aevs_nil, ↓aevs_cons, ↓evP_nil, ↓evP_cons, ↓aevO_none, ↓aevO_some, ↓reduceIte, reduceCtorEq, Nat.reduceEqDiff, Nat.reduceAdd, Nat.reduceLT, Nat.reduceSub, Nat.reduceMul, Nat.reduceLeDiff, if_true, if_false, if_pos, if_neg, h14, h7, h7', h8]
      | true =>
        rw [hsr] at h7'
        obtain ⟨h6, hr8⟩ := smallL_iff.1 hsr
        obtain ⟨k, M, h28, hM, hM6⟩ := call28 hn (A := A) (C := C) (by omega) (by omega) hrA hrC
        have main : ∀ G : List (List Int), G.length ≤ 720 → (∀ x ∈ G, x.length ≤ 8) → ∃ (r1 : List (List Int)) (r2 : Int), call Try.cfg 29 [.sl false G.length (G.map Is), .sl false L.length (L.map Is)] [] = some (.tu [.sl false r1.length (r1.map Is), .v (.int .i64 r2)], []) ∧ call Try.cfg 30 [.sl false G.length (G.map Is), .sl false L.length (L.map Is)] [] = some (.tu [.sl false r1.length (r1.map Is), .v (.int .i64 r2)], []) ∧
            call Try.cfg 13 [.sl false r1.length (r1.map Is), .sl false r1.length (r1.map Is)] [] = some (.v (.bool true), []) := by
          intro G hG hGs
          have g1 := call29 (G := G) (L := L) hG (fun x hx => by have := hGs x hx; omega) (by omega) (fun x hx => by have := hs8 x hx; omega)
          have g2 := call30 (G := G) (L := L) hG (fun x hx => by have := hGs x hx; omega) (by omega) (fun x hx => by have := hs8 x hx; omega)
          rw [orb_same] at g1
          have l1 := orbL_len G L (st30 G L L.length).2
          have l2 := st30_len G L L.length
          have l3 := st30_ins G L L.length
          have l4 : ∀ x ∈ (orbL G L (st30 G L L.length).2).1, x.length ≤ 1000000 := fun x hx => by
            have := l3 x (l1.2 x hx)
            omega
          refine ⟨_, _, g1, g2, ?_⟩
          have := call13 (A := (orbL G L (st30 G L L.length).2).1) (C := (orbL G L (st30 G L L.length).2).1) (by omega) (by omega) l4 l4
          simpa using this
        clear hs hsR hL hR hsm hsr hf hn hrA hrC
        cases use with
        | false =>
          obtain ⟨r1, r2, m1, m2, m3⟩ := main M hM (fun x hx => by have := hM6 x hx; omega)
          by_cases c1 : 12 < L.length
          · by_cases c2 : L.length < 60
            · simp -implicitDefEqProofs (maxSteps := 1000000) (disch := omega) only [stepA, bodyA, Try.f6, push_cast, ↓dstAt_zero, ↓dstAt_succ, ↓arun_skip, ↓arun_region, ↓arun_seq, ↓arun_cond, ↓arun_block, ↓arun_loop, ↓arun_exit, ↓arun_ret, aops_nil, aops_cons, aops_cons_guard, ↓putA_some, ↓putA_none, ↓aop_move, ↓aop_assign, ↓aop_pick, ↓aop_alloc, ↓aop_box, ↓aop_build, ↓aop_buildSlice, ↓aop_load, ↓aop_store, ↓aop_nilCheck, ↓aop_binOp, ↓aop_unOp, ↓aop_convert, ↓aop_makeSlice, ↓aop_fieldAddr, ↓aop_field, ↓aop_indexAddr, ↓aop_index, ↓aop_lookup, ↓aop_mapUpdate, ↓aop_insert, ↓aop_extract, ↓aop_callB, ↓aop_callF, ↓aop_callT, ↓aop_makeFunc, ↓aop_makeMap, ↓aop_slice, ↓aevs_nil, ↓aevs_cons, ↓evP_nil, ↓evP_cons, ↓aevO_none, ↓aevO_some, ↓reduceIte, reduceCtorEq, Nat.reduceEqDiff, Nat.reduceAdd, Nat.reduceLT, Nat.reduceSub, Nat.reduceMul, Nat.reduceLeDiff, if_true, if_false, if_pos, if_neg, h14, h7, h7', h8]
            · simp -implicitDefEqProofs (maxSteps := 1000000) (disch := omega) only [stepA, bodyA, Try.f6, push_cast, ↓dstAt_zero, ↓dstAt_succ, ↓arun_skip, ↓arun_region, ↓arun_seq, ↓arun_cond, ↓arun_block, ↓arun_loop, ↓arun_exit, ↓arun_ret, aops_nil, aops_cons, aops_cons_guard, ↓putA_some, ↓putA_none, ↓aop_move, ↓aop_assign, ↓aop_pick, ↓aop_alloc, ↓aop_box, ↓aop_build, ↓aop_buildSlice, ↓aop_load, ↓aop_store, ↓aop_nilCheck, ↓aop_binOp, ↓aop_unOp, ↓aop_convert, ↓aop_makeSlice, ↓aop_fieldAddr, ↓aop_field, ↓aop_indexAddr, ↓aop_index, ↓aop_lookup, ↓aop_mapUpdate, ↓aop_insert, ↓aop_extract, ↓aop_callB, ↓aop_callF, ↓aop_callT, ↓aop_makeFunc, ↓aop_makeMap, ↓aop_slice, ↓aevs_nil, ↓aevs_cons, ↓evP_nil, ↓evP_cons, ↓aevO_none, ↓aevO_some, ↓reduceIte, reduceCtorEq, Nat.reduceEqDiff, Nat.reduceAdd, Nat.reduceLT, Nat.reduceSub, Nat.reduceMul, Nat.reduceLeDiff, if_true, if_false, if_pos, if_neg, h14, h7, h7', h8, h28, m1, m2, m3]
          · simp -implicitDefEqProofs (maxSteps := 1000000) (disch := omega) only [stepA, bodyA, Try.f6, push_cast, ↓dstAt_zero, ↓dstAt_succ, ↓arun_skip, ↓arun_region, ↓arun_seq, ↓arun_cond, ↓arun_block, ↓arun_loop, ↓arun_exit, ↓arun_ret, aops_nil, aops_cons, aops_cons_guard, ↓putA_some, ↓putA_none, ↓aop_move, ↓aop_assign, ↓aop_pick, ↓aop_alloc, ↓aop_box, ↓aop_build, ↓aop_buildSlice, ↓aop_load, ↓aop_store, ↓aop_nilCheck, ↓aop_binOp, ↓aop_unOp, ↓aop_convert, ↓aop_makeSlice, ↓aop_fieldAddr, ↓aop_field, ↓aop_indexAddr, ↓aop_index, ↓aop_lookup, ↓aop_mapUpdate, ↓aop_insert, ↓aop_extract, ↓aop_callB, ↓aop_callF, ↓aop_callT, ↓aop_makeFunc, ↓aop_makeMap, ↓aop_slice, ↓aevs_nil, ↓aevs_cons, ↓evP_nil, ↓evP_cons, ↓aevO_none, ↓aevO_some, ↓reduceIte, reduceCtorEq, Nat.reduceEqDiff, Nat.reduceAdd, Nat.reduceLT, Nat.reduceSub, Nat.reduceMul, Nat.reduceLeDiff, if_true, if_false, if_pos, if_neg, h14, h7, h7', h8, h28, m1, m2, m3]
        | true =>
          obtain ⟨r1, r2, m1, m2, m3⟩ := main R (by omega) hr8
          by_cases c1 : 12 < L.length
          · by_cases c2 : L.length < 60
            · simp -implicitDefEqProofs (maxSteps := 1000000) (disch := omega) only [stepA, bodyA, Try.f6, push_cast, ↓dstAt_zero, ↓dstAt_succ, ↓arun_skip, ↓arun_region, ↓arun_seq, ↓arun_cond, ↓arun_block, ↓arun_loop, ↓arun_exit, ↓arun_ret, aops_nil, aops_cons, aops_cons_guard, ↓putA_some, ↓putA_none, ↓aop_move, ↓aop_assign, ↓aop_pick, ↓aop_alloc, ↓aop_box, ↓aop_build, ↓aop_buildSlice, ↓aop_load, ↓aop_store, ↓aop_nilCheck, ↓aop_binOp, ↓aop_unOp, ↓aop_convert, ↓aop_makeSlice, ↓aop_fieldAddr, ↓aop_field, ↓aop_indexAddr, ↓aop_index, ↓aop_lookup, ↓aop_mapUpdate, ↓aop_insert, ↓aop_extract, ↓aop_callB, ↓aop_callF, ↓aop_callT, ↓aop_makeFunc, ↓aop_makeMap, ↓aop_slice, ↓aevs_nil, ↓aevs_cons, ↓evP_nil, ↓evP_cons, ↓aevO_none, ↓aevO_some, ↓reduceIte, reduceCtorEq, Nat.reduceEqDiff, Nat.reduceAdd, Nat.reduceLT, Nat.reduceSub, Nat.reduceMul, Nat.reduceLeDiff, if_true, if_false, if_pos, if_neg, h14, h7, h7', h8]
            · simp -implicitDefEqProofs (maxSteps := 1000000) (disch := omega) only [stepA, bodyA, Try.f6, push_cast, ↓dstAt_zero, ↓dstAt_succ, ↓arun_skip, ↓arun_region, ↓arun_seq, ↓arun_cond, ↓arun_block, ↓arun_loop, ↓arun_exit, ↓arun_ret, aops_nil, aops_cons, aops_cons_guard, ↓putA_some, ↓putA_none, ↓aop_move, ↓aop_assign, ↓aop_pick, ↓aop_alloc, ↓aop_box, ↓aop_build, ↓aop_buildSlice, ↓aop_load, ↓aop_store, ↓aop_nilCheck, ↓aop_binOp, ↓aop_unOp, ↓aop_convert, ↓aop_makeSlice, ↓aop_fieldAddr, ↓aop_field, ↓aop_indexAddr, ↓aop_index, ↓aop_lookup, ↓aop_mapUpdate, ↓aop_insert, ↓aop_extract, ↓aop_callB, ↓aop_callF, ↓aop_callT, ↓aop_makeFunc, ↓aop_makeMap, ↓aop_slice, ↓aevs_nil, ↓aevs_cons, ↓evP_nil, ↓evP_cons, ↓aevO_none, ↓aevO_some, ↓reduceIte, reduceCtorEq, Nat.reduceEqDiff, Nat.reduceAdd, Nat.reduceLT, Nat.reduceSub, Nat.reduceMul, Nat.reduceLeDiff, if_true, if_false, if_pos, if_neg, h14, h7, h7', h8, h28, m1, m2, m3]
          · simp -implicitDefEqProofs (maxSteps := 1000000) (disch := omega) only [stepA, bodyA, Try.f6, push_cast, ↓dstAt_zero, ↓dstAt_succ, ↓arun_skip, ↓arun_region, ↓arun_seq, ↓arun_cond, ↓arun_block, ↓arun_loop, ↓arun_exit, ↓arun_ret, aops_nil, aops_cons, aops_cons_guard, ↓putA_some, ↓putA_none, ↓aop_move, ↓aop_assign, ↓aop_pick, ↓aop_alloc, ↓aop_box, ↓aop_build, ↓aop_buildSlice, ↓aop_load, ↓aop_store, ↓aop_nilCheck, ↓aop_binOp, ↓aop_unOp, ↓aop_convert, ↓aop_makeSlice, ↓aop_fieldAddr, ↓aop_field, ↓aop_indexAddr, ↓aop_index, ↓aop_lookup, ↓aop_mapUpdate, ↓aop_insert, ↓aop_extract, ↓aop_callB, ↓aop_callF, ↓aop_callT, ↓aop_makeFunc, ↓aop_makeMap, ↓aop_slice, ↓aevs_nil, ↓aevs_cons, ↓evP_nil, ↓evP_cons, ↓aevO_none, ↓aevO_some, ↓reduceIte, reduceCtorEq, Nat.reduceEqDiff, Nat.reduceAdd, Nat.reduceLT, Nat.reduceSub, Nat.reduceMul, Nat.reduceLeDiff, if_true, if_false, if_pos, if_neg, h14, h7, h7', h8, h28, m1, m2, m3]
end
end Go.Proofs

/- GroupOrbits answers true whatever the input, and each argument reads behind the call as it read before. No conditions. -/
set_option linter.unusedVariables false
namespace Go.Proofs.Ytdodfimekcoclaa
open Go.ChangeShapes Go.WideShapes Go.ChangeAt Go.RowKit Go.AI
theorem own6 : ownKnob Try.prog.godebug = none := by kernel_rfl
theorem laidOut6 : laidOutB Try.prog = true := by kernel_rfl
section
variable {H : Type} {enc : TypeId × Value → H} {P : Program} {w : World} {base : Nat} {spare : Nat → Bool} {held : Bool}
theorem trodAll_six {t0 t1 t2 t3 t4 t5 : TypeId} {args : Array Value} {ds : List (DataW H)} {ps : List MemPlace} (h : DataW.TrodAll enc P w base spare held [t0, t1, t2, t3, t4, t5] args.toList ds ps) :
    ∃ v0 v1 v2 v3 v4 v5 d0 d1 d2 d3 d4 d5 p0 p1 p2 p3 p4 p5, args = #[v0, v1, v2, v3, v4, v5] ∧ ds = [d0, d1, d2, d3, d4, d5] ∧ ps = p0 ++ p1 ++ p2 ++ p3 ++ p4 ++ p5 ∧ DataW.Trod enc P w base spare held t0 v0 d0 p0 ∧ DataW.Trod enc P w base spare held t1 v1 d1 p1 ∧ DataW.Trod enc P w base spare held t2 v2 d2 p2 ∧ DataW.Trod enc P w base spare held t3 v3 d3 p3 ∧ DataW.Trod enc P w base spare held t4 v4 d4 p4 ∧ DataW.Trod enc P w base spare held t5 v5 d5 p5 := by
  obtain ⟨v0, vs0, d0, ds0, p0, q0, hargs, rfl, rfl, h0, r0⟩ := trodAll_cons h
  obtain ⟨v1, vs1, d1, ds1, p1, q1, rfl, rfl, rfl, h1, r1⟩ := trodAll_cons r0
  obtain ⟨v2, vs2, d2, ds2, p2, q2, rfl, rfl, rfl, h2, r2⟩ := trodAll_cons r1
  obtain ⟨v3, vs3, d3, ds3, p3, q3, rfl, rfl, rfl, h3, r3⟩ := trodAll_cons r2
  obtain ⟨v4, vs4, d4, ds4, p4, q4, rfl, rfl, rfl, h4, r4⟩ := trodAll_cons r3
  obtain ⟨v5, vs5, d5, ds5, p5, q5, rfl, rfl, rfl, h5, r5⟩ := trodAll_cons r4
  obtain ⟨rfl, rfl, rfl⟩ := trodAll_nil r5
  exact ⟨v0, v1, v2, v3, v4, v5, d0, d1, d2, d3, d4, d5, p0, p1, p2, p3, p4, p5, by cases args; simp_all, rfl, by simp, h0, h1, h2, h3, h4, h5⟩
end
set_option maxRecDepth 100000 in
theorem orbits_lifted (os : Os) (started : os.Started) (H : Type) (enc : TypeId × Value → H) :
    ReturnsInHanded {} Try.checked os 6 .any (Rows.groupOrbitsSpec.pre6 enc Try.prog Try.f6 Rows.groupOrbitsRow.domain false) (Rows.groupOrbitsSpec.post enc Try.prog Try.f6 false true false false) := by
  refine returnsInHanded_of_change (C := Try.checked) own6 started (by kernel_rfl) Try.func6
    (ChangeSpec.witness6 (enc := enc) (C := Try.checked) false ⟨#[], #[.int .i64 0, .slice none 0 0, .slice none 0 0, .slice none 0 0, .slice none 0 0, .bool false], []⟩ 8 (by kernel_rfl) (by kernel_rfl) (by kernel_rfl) (by kernel_rfl)) ?_
  intro W base args ds gs before hval0 hW hcnd _
  have hval : ∀ (j : Nat) t v, Try.f6.params[j]? = some t → args[j]? = some v → Value.okWide Try.prog W .any base t v := hval0
  have hW' := hW
  obtain ⟨p, q, hA0, hV, rfl, hfz, hnd⟩ := hW
  have hA : DataW.TrodAll enc Try.prog W 0 (fun _ => true) true Try.f6.params.toList args.toList ds p := hA0
  rw [Try.params6] at hA hval
  obtain ⟨v0, v1, v2, v3, v4, v5, d0, d1, d2, d3, d4, d5, p0, p1, p2, p3, p4, p5, rfl, rfl, rfl, h0, h1, h2, h3, h4, h5⟩ := trodAll_six hA
  obtain ⟨rfl, rfl⟩ := trodVars_none hV
  obtain ⟨n, wn, vn⟩ := arg_int Try.underlying3 (hval 0 3 v0 rfl rfl) h0
  have r1 := arg_slice Try.underlying31 (hval 1 31 v1 rfl rfl) h1
  have r2 := arg_slice Try.underlying31 (hval 2 31 v2 rfl rfl) h2
  have r3 := arg_slice Try.underlying22 (hval 3 22 v3 rfl rfl) h3
  have r4 := arg_slice Try.underlying22 (hval 4 22 v4 rfl rfl) h4
  obtain ⟨A, ⟨ra, la⟩, va, _⟩ := rd_ints Try.underlying31 Try.cells3 Try.underlying3 r1
  obtain ⟨C, ⟨rc, lc⟩, vc, _⟩ := rd_ints Try.underlying31 Try.cells3 Try.underlying3 r2
  obtain ⟨L, hQ, hl, vl, _⟩ := rd_slice (en := Is) (Q := fun x => x.length ≤ maxLen) (fun _ => rfl) Try.underlying22 Try.cells31 (fun u hu => by
    obtain ⟨x, ⟨_, g1⟩, g2, g3⟩ := rd_ints Try.underlying31 Try.cells3 Try.underlying3 hu
    exact ⟨x, g1, g2, g3⟩) r3
  obtain ⟨R, hQ', hl', vl', _⟩ := rd_slice (en := Is) (Q := fun x => x.length ≤ maxLen) (fun _ => rfl) Try.underlying22 Try.cells31 (fun u hu => by
    obtain ⟨x, ⟨_, g1⟩, g2, g3⟩ := rd_ints Try.underlying31 Try.cells3 Try.underlying3 hu
    exact ⟨x, g1, g2, g3⟩) r4
  obtain ⟨use, vu⟩ := arg_bool Try.underlying4 (hval 5 4 v5 rfl rfl) h5
  refine (true_sound Try.fit (call6 (n := n) (A := A) (C := C) (L := L) (R := R) (use := use) wn la lc ra rc hl hQ hl' hQ') (cargs := [v0, v1, v2, v3, v4, v5]) (.cons vn (.cons va (.cons vc (.cons vl (.cons vl' (.cons vu .nil))))))).mono fun e W' ⟨he, hE⟩ => ?_
  exact ⟨_, he, law_post laidOut6 hW' rfl rfl rfl rfl rfl Try.underlying4 (of_decide_eq_true (by kernel_rfl)) hE⟩
theorem groupOrbits_holds : Rows.GroupOrbitsSaid :=
  OpenClaim.holds_of_wide 6 Try.f6 rfl rfl rfl rfl rfl rfl rfl ⟨rfl, rfl, rfl, rfl, rfl⟩ rfl rfl rfl rfl rfl (by kernel_rfl) Try.func6 (by kernel_rfl)
    (of_decide_eq_true (by kernel_rfl)) (by unfold Func.isWrapper; first | (rw [if_pos (by decide +kernel)]; kernel_rfl) | (rw [if_neg (by decide +kernel)]; exact ⟨rfl, rfl⟩))
    (fun os started H enc _ => orbits_lifted os started H enc)
end Go.Proofs.Ytdodfimekcoclaa
#print axioms Go.Proofs.Ytdodfimekcoclaa.groupOrbits_holds
