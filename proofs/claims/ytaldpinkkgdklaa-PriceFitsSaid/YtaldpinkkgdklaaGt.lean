/- What an exchange of links gains. Conditions: in each contract. -/
import Derived.Test.YtaldpinkkgdklaaGs
import Derived.Test.YtaldpinkkgdklaaVsZ
namespace Go.Proofs.Ytaldpinkkgdklaa
open Go.RowKit Go.VS
set_option linter.unusedSimpArgs false
set_option linter.unusedVariables false

/-- The difference if a link gets another one's column. -/
def lossV (c : List (List Int)) (r : List Pr) (i j : Nat) : Int := cAt c (toP r i).1 (toP r j).2 - cAt c (toP r i).1 (toP r i).2
def gainK (c : List (List Int)) (r : List Pr) : Nat → Int
  | 0 => 0
  | k + 1 => gainK c r k - lossV c r k ((k + 1) % r.length)

abbrev Exch := List (List Int) × List Pr
structure LossPre (x : Exch) (i j : Int) : Prop where
  tab : InTab 0 99 x.1
  links : ∀ k, k < x.2.length → InT x.1 (toP x.2 k)
  i0 : 0 ≤ i ∧ i < x.2.length
  j0 : 0 ≤ j ∧ j < x.2.length
theorem InTab.cAt {c : List (List Int)} (h : InTab 0 99 c) {x y : Pr} (hx : InT c x) (hy : InT c y) : 0 ≤ Go.Proofs.Ytaldpinkkgdklaa.cAt c x.1 y.2 ∧ Go.Proofs.Ytaldpinkkgdklaa.cAt c x.1 y.2 ≤ 99 :=
  h.at (by have := hx.r0; have := hx.r1; omega) (by have := hy.c0; have := hy.c1; omega)
theorem InTab.loss {c : List (List Int)} (h : InTab 0 99 c) {r : List Pr} (hr : ∀ k, k < r.length → InT c (toP r k)) {i j : Nat} (hi : i < r.length) (hj : j < r.length) : -99 ≤ lossV c r i j ∧ lossV c r i j ≤ 99 := by
  have h1 := h.cAt (hr i hi) (hr i hi)
  have h2 := h.cAt (hr i hi) (hr j hj)
  unfold lossV
  omega
theorem InTab.gain {c : List (List Int)} (h : InTab 0 99 c) {r : List Pr} (hr : ∀ k, k < r.length → InT c (toP r k)) : ∀ k, k ≤ r.length → -99 * (k : Int) ≤ gainK c r k ∧ gainK c r k ≤ 99 * k
  | 0, _ => by simp [gainK]
  | k + 1, hk => by
    have h1 := InTab.gain h hr k (by omega)
    have h2 := h.loss hr (i := k) (j := (k + 1) % r.length) (by omega) (Nat.mod_lt _ (by omega))
    simp only [gainK]
    omega

@[push_cast] def lossCon : Con := ⟨[.dat (.prod (.sl (.sl .int)) (.sl (.prod .int .int))), .dat .int, .dat .int], fun (x : Exch × Int × Int × Unit) => LossPre x.1 x.2.1 x.2.2.1, fun (x : Exch × Int × Int × Unit) => { res := [.val .int (lossV x.1.1 x.1.2 x.2.1.toNat x.2.2.1.toNat)] }⟩

theorem loss_spec : FnSpec Try.prog 84 lossCon := by
  refine FnSpec.of_tri' (E := know [] [] [] []) (know_ok all_nil all_nil all_nil) Try.func84 rfl rfl (by kernel_rfl) ?_
  intro C x hE hnl hfit hpre
  simp only [Try.ntmps84, Try.results84, maxLen, Nat.reduceSub, Nat.reducePow, Nat.reduceAdd, Int.cast_ofNat_Int, push_cast] at hnl hfit hpre ⊢
  obtain ⟨⟨(c : List (List Int)), (r : List Pr)⟩, (i : Int), (j : Int), _⟩ := x
  dsimp only at hfit hpre ⊢
  obtain ⟨h1, h2, h3, h4⟩ := hpre
  dsimp only at h1 h2 h3 h4
  obtain ⟨i, rfl⟩ := Int.eq_ofNat_of_zero_le h3.1
  obtain ⟨j, rfl⟩ := Int.eq_ofNat_of_zero_le h4.1
  have hi := h2 i (by omega)
  have hj := h2 j (by omega)
  have k1 := h1.cAt hi hi
  have k2 := h1.cAt hi hj
  obtain ⟨p1, p2, p3, p4⟩ := hi
  obtain ⟨q1, q2, q3, q4⟩ := hj
  unfold toP at p1 p2 p3 p4 q1 q2 q3 q4
  have k3 := h1.len (i := (r.getD i (0, 0)).1.toNat) (by omega)
  unfold cAt toP at k1 k2
  refine tri_seqk fun K hK => ?_
  refine tri_region hE rfl ?_
  simp +contextual only [hnl, ↓runK_nil, ↓runK_plain, ↓runK_guard, ↓runQ_nil, ↓runQ_plain, ↓runQ_guard, push_cast, exists_eq_left', Int.reduceEq, Int.reduceLT, Int.reduceLE, Int.reduceNeg, Nat.reduceLT, Nat.reduceLeDiff, Int.reduceToNat, Int.cast_ofNat_Int, Nat.reduceBEq, Nat.reduceMul, Nat.reduceEqDiff, reduceCtorEq, Nat.reduceAdd]
  refine And.intro ⟨_, _, rfl⟩ ?_
  (refine goK (by assumption) ?_; iterate 4 (try clear hK K))
  refine tri_seqk fun K hK => ?_
  refine tri_inv hE (fun D s => (D 12 = true → D 10 = true) ∧ (D 13 = true → D 11 = true) ∧ s.roots = (fun _ => none) ∧ s.env 3 = .one (.box 3) ∧ s.env 1 = .one (.val .int i) ∧ s.env 2 = .one (.val .int j) ∧ s.boxes 3 = some (.one (.val (.prod (.sl (.sl .int)) (.sl (.prod .int .int))) (c, r))) ∧
    (D 0 = true → s.env 9 = .one (.boxf 3 2 1 1)) ∧ (D 1 = true → s.env 10 = .one (.val (.sl (.prod .int .int)) r)) ∧ (D 2 = true → s.env 11 = .one (.val .int i)) ∧ (D 3 = true → s.env 12 = .one (.padr (.prod .int .int) (r.getD i (0, 0)))) ∧ (D 4 = true → s.env 13 = .one (.val (.prod .int .int) (r.getD i (0, 0)))) ∧
    (D 5 = true → s.env 14 = .one (.boxf 3 2 1 1)) ∧ (D 6 = true → s.env 15 = .one (.val (.sl (.prod .int .int)) r)) ∧ (D 7 = true → s.env 16 = .one (.val .int j)) ∧ (D 8 = true → s.env 17 = .one (.padr (.prod .int .int) (r.getD j (0, 0)))) ∧ (D 9 = true → s.env 18 = .one (.val (.prod .int .int) (r.getD j (0, 0)))) ∧
    (D 10 = true → s.env 7 = .one (.box 7) ∧ s.boxes 7 = some (if D 12 = true then .one (.val (.prod .int .int) (r.getD i (0, 0))) else .rcd [.val .int (0 : Int), .val .int (0 : Int)])) ∧
    (D 11 = true → s.env 8 = .one (.box 8) ∧ s.boxes 8 = some (if D 13 = true then .one (.val (.prod .int .int) (r.getD j (0, 0))) else .rcd [.val .int (0 : Int), .val .int (0 : Int)]))) rfl (by kernel_rfl) ?_ ?_ ?_
  · dsimp only
    simp only [push_cast, exists_eq_left', Int.reduceEq, Int.reduceLT, Int.reduceLE, Int.reduceNeg, Nat.reduceLT, Nat.reduceLeDiff, Int.reduceToNat, Int.cast_ofNat_Int, Nat.reduceBEq, Nat.reduceMul, Nat.reduceEqDiff, reduceCtorEq, Nat.reduceAdd]
    trivial
  · refine ⟨fun D s h0 hp hI => ?_, fun D s h0 hp hI => ?_, fun D s h0 hp hI => ?_, fun D s h0 hp hI => ?_, fun D s h0 hp hI => ?_, fun D s h0 hp hI => ?_, fun D s h0 hp hI => ?_, fun D s h0 hp hI => ?_, fun D s h0 hp hI => ?_, fun D s h0 hp hI => ?_, fun D s h0 hp hI => ?_, fun D s h0 hp hI => ?_, fun D s h0 hp hI => ?_, fun D s h0 hp hI => ?_, trivial⟩
    all_goals obtain ⟨o1, o2, e1, e2, e3, e4, e5, f0, f1, f2, f3, f4, f5, f6, f7, f8, f9, f10, f11⟩ := hI
    all_goals replace hp := List.all_eq_true.1 hp
    · simp +contextual only [hnl, h0, o1, o2, e1, e2, e3, e4, e5, f0, f1, f2, f3, f4, f5, f6, f7, f8, f9, f10, f11, setD, ↓runK_nil, ↓runK_plain, push_cast, exists_eq_left', Int.reduceEq, Int.reduceLT, Int.reduceLE, Int.reduceNeg, Nat.reduceLT, Nat.reduceLeDiff, Int.reduceToNat, Int.cast_ofNat_Int, Nat.reduceBEq, Nat.reduceMul, Nat.reduceEqDiff, reduceCtorEq, Nat.reduceAdd]
    · have d0 := hp 0 (by decide)
      simp +contextual only [d0, hnl, h0, o1, o2, e1, e2, e3, e4, e5, f0, f1, f2, f3, f4, f5, f6, f7, f8, f9, f10, f11, setD, ↓runK_nil, ↓runK_plain, push_cast, exists_eq_left', Int.reduceEq, Int.reduceLT, Int.reduceLE, Int.reduceNeg, Nat.reduceLT, Nat.reduceLeDiff, Int.reduceToNat, Int.cast_ofNat_Int, Nat.reduceBEq, Nat.reduceMul, Nat.reduceEqDiff, reduceCtorEq, Nat.reduceAdd]
    · simp +contextual only [hnl, h0, o1, o2, e1, e2, e3, e4, e5, f0, f1, f2, f3, f4, f5, f6, f7, f8, f9, f10, f11, setD, ↓runK_nil, ↓runK_plain, push_cast, exists_eq_left', Int.reduceEq, Int.reduceLT, Int.reduceLE, Int.reduceNeg, Nat.reduceLT, Nat.reduceLeDiff, Int.reduceToNat, Int.cast_ofNat_Int, Nat.reduceBEq, Nat.reduceMul, Nat.reduceEqDiff, reduceCtorEq, Nat.reduceAdd]
    · have d1 := hp 1 (by decide)
      have d2 := hp 2 (by decide)
      simp +contextual only [d1, d2, hnl, h0, o1, o2, e1, e2, e3, e4, e5, f0, f1, f2, f3, f4, f5, f6, f7, f8, f9, f10, f11, setD, ↓runK_nil, ↓runK_plain, push_cast, exists_eq_left', Int.reduceEq, Int.reduceLT, Int.reduceLE, Int.reduceNeg, Nat.reduceLT, Nat.reduceLeDiff, Int.reduceToNat, Int.cast_ofNat_Int, Nat.reduceBEq, Nat.reduceMul, Nat.reduceEqDiff, reduceCtorEq, Nat.reduceAdd]
      exact h3
    · have d3 := hp 3 (by decide)
      simp +contextual only [d3, hnl, h0, o1, o2, e1, e2, e3, e4, e5, f0, f1, f2, f3, f4, f5, f6, f7, f8, f9, f10, f11, setD, ↓runK_nil, ↓runK_plain, push_cast, exists_eq_left', Int.reduceEq, Int.reduceLT, Int.reduceLE, Int.reduceNeg, Nat.reduceLT, Nat.reduceLeDiff, Int.reduceToNat, Int.cast_ofNat_Int, Nat.reduceBEq, Nat.reduceMul, Nat.reduceEqDiff, reduceCtorEq, Nat.reduceAdd]
    · simp +contextual only [hnl, h0, o1, o2, e1, e2, e3, e4, e5, f0, f1, f2, f3, f4, f5, f6, f7, f8, f9, f10, f11, setD, ↓runK_nil, ↓runK_plain, push_cast, exists_eq_left', Int.reduceEq, Int.reduceLT, Int.reduceLE, Int.reduceNeg, Nat.reduceLT, Nat.reduceLeDiff, Int.reduceToNat, Int.cast_ofNat_Int, Nat.reduceBEq, Nat.reduceMul, Nat.reduceEqDiff, reduceCtorEq, Nat.reduceAdd]
    · have d5 := hp 5 (by decide)
      simp +contextual only [d5, hnl, h0, o1, o2, e1, e2, e3, e4, e5, f0, f1, f2, f3, f4, f5, f6, f7, f8, f9, f10, f11, setD, ↓runK_nil, ↓runK_plain, push_cast, exists_eq_left', Int.reduceEq, Int.reduceLT, Int.reduceLE, Int.reduceNeg, Nat.reduceLT, Nat.reduceLeDiff, Int.reduceToNat, Int.cast_ofNat_Int, Nat.reduceBEq, Nat.reduceMul, Nat.reduceEqDiff, reduceCtorEq, Nat.reduceAdd]
    · simp +contextual only [hnl, h0, o1, o2, e1, e2, e3, e4, e5, f0, f1, f2, f3, f4, f5, f6, f7, f8, f9, f10, f11, setD, ↓runK_nil, ↓runK_plain, push_cast, exists_eq_left', Int.reduceEq, Int.reduceLT, Int.reduceLE, Int.reduceNeg, Nat.reduceLT, Nat.reduceLeDiff, Int.reduceToNat, Int.cast_ofNat_Int, Nat.reduceBEq, Nat.reduceMul, Nat.reduceEqDiff, reduceCtorEq, Nat.reduceAdd]
    · have d6 := hp 6 (by decide)
      have d7 := hp 7 (by decide)
      simp +contextual only [d6, d7, hnl, h0, o1, o2, e1, e2, e3, e4, e5, f0, f1, f2, f3, f4, f5, f6, f7, f8, f9, f10, f11, setD, ↓runK_nil, ↓runK_plain, push_cast, exists_eq_left', Int.reduceEq, Int.reduceLT, Int.reduceLE, Int.reduceNeg, Nat.reduceLT, Nat.reduceLeDiff, Int.reduceToNat, Int.cast_ofNat_Int, Nat.reduceBEq, Nat.reduceMul, Nat.reduceEqDiff, reduceCtorEq, Nat.reduceAdd]
      exact h4
    · have d8 := hp 8 (by decide)
      simp +contextual only [d8, hnl, h0, o1, o2, e1, e2, e3, e4, e5, f0, f1, f2, f3, f4, f5, f6, f7, f8, f9, f10, f11, setD, ↓runK_nil, ↓runK_plain, push_cast, exists_eq_left', Int.reduceEq, Int.reduceLT, Int.reduceLE, Int.reduceNeg, Nat.reduceLT, Nat.reduceLeDiff, Int.reduceToNat, Int.cast_ofNat_Int, Nat.reduceBEq, Nat.reduceMul, Nat.reduceEqDiff, reduceCtorEq, Nat.reduceAdd]
    · have n12 : D 12 = false := by
        cases hD : D 12 with
        | false => rfl
        | true => rw [o1 hD] at h0; cases h0
      simp +contextual only [hnl, h0, n12, o1, o2, e1, e2, e3, e4, e5, f0, f1, f2, f3, f4, f5, f6, f7, f8, f9, f10, f11, setD, ↓runK_nil, ↓runK_plain, push_cast, exists_eq_left', Int.reduceEq, Int.reduceLT, Int.reduceLE, Int.reduceNeg, Nat.reduceLT, Nat.reduceLeDiff, Int.reduceToNat, Int.cast_ofNat_Int, Nat.reduceBEq, Nat.reduceMul, Nat.reduceEqDiff, reduceCtorEq, Nat.reduceAdd]
      intro _
      cases hz : D 13 <;> rfl
    · have n13 : D 13 = false := by
        cases hD : D 13 with
        | false => rfl
        | true => rw [o2 hD] at h0; cases h0
      simp +contextual only [hnl, h0, n13, o1, o2, e1, e2, e3, e4, e5, f0, f1, f2, f3, f4, f5, f6, f7, f8, f9, f10, f11, setD, ↓runK_nil, ↓runK_plain, push_cast, exists_eq_left', Int.reduceEq, Int.reduceLT, Int.reduceLE, Int.reduceNeg, Nat.reduceLT, Nat.reduceLeDiff, Int.reduceToNat, Int.cast_ofNat_Int, Nat.reduceBEq, Nat.reduceMul, Nat.reduceEqDiff, reduceCtorEq, Nat.reduceAdd]
      intro _
      cases hz : D 12 <;> rfl
    · have d10 := hp 10 (by decide)
      have d4 := hp 4 (by decide)
      simp +contextual only [d10, d4, hnl, h0, o1, o2, e1, e2, e3, e4, e5, f0, f1, f2, f3, f4, f5, f6, f7, f8, f9, f10, f11, setD, ↓runK_nil, ↓runK_plain, push_cast, exists_eq_left', Int.reduceEq, Int.reduceLT, Int.reduceLE, Int.reduceNeg, Nat.reduceLT, Nat.reduceLeDiff, Int.reduceToNat, Int.cast_ofNat_Int, Nat.reduceBEq, Nat.reduceMul, Nat.reduceEqDiff, reduceCtorEq, Nat.reduceAdd]
    · have d11 := hp 11 (by decide)
      have d9 := hp 9 (by decide)
      simp +contextual only [d11, d9, hnl, h0, o1, o2, e1, e2, e3, e4, e5, f0, f1, f2, f3, f4, f5, f6, f7, f8, f9, f10, f11, setD, ↓runK_nil, ↓runK_plain, push_cast, exists_eq_left', Int.reduceEq, Int.reduceLT, Int.reduceLE, Int.reduceNeg, Nat.reduceLT, Nat.reduceLeDiff, Int.reduceToNat, Int.cast_ofNat_Int, Nat.reduceBEq, Nat.reduceMul, Nat.reduceEqDiff, reduceCtorEq, Nat.reduceAdd]
  · intro D s hD ⟨_, _, e1, e2, e3, e4, e5, _, _, _, _, _, _, _, _, _, _, e7, e8⟩
    have d10 := e7 (hD 10 (by decide))
    have d11 := e8 (hD 11 (by decide))
    rw [if_pos (hD 12 (by decide))] at d10
    rw [if_pos (hD 13 (by decide))] at d11
    obtain ⟨g1, g2⟩ := d10
    obtain ⟨g3, g4⟩ := d11
    show K s
    (refine goK (by assumption) ?_; iterate 4 (try clear hK K))
    refine tri_weak (t := AS.of [(3, .one (.box 3)), (7, .one (.box 7)), (8, .one (.box 8))] [] [(3, .one (.val (.prod (.sl (.sl .int)) (.sl (.prod .int .int))) (c, r))), (7, .one (.val (.prod .int .int) (r.getD i (0, 0)))), (8, .one (.val (.prod .int .int) (r.getD j (0, 0))))]) ?_ ?_
    · refine weak_of ?_ ?_ ?_ <;> simp only [e1, e2, e3, e4, e5, g1, g2, g3, g4, push_cast, exists_eq_left', Int.reduceEq, Int.reduceLT, Int.reduceLE, Int.reduceNeg, Nat.reduceLT, Nat.reduceLeDiff, Int.reduceToNat, Int.cast_ofNat_Int, Nat.reduceBEq, Nat.reduceMul, Nat.reduceEqDiff, reduceCtorEq, Nat.reduceAdd]
      all_goals skip
    repeat' (first | (refine goK (by assumption) ?_; iterate 4 (try clear hK K)) | (refine tri_seqk fun K hK => ?_) | ((first | (refine tri_region hE rfl ?_) | ((first | (refine tri_drawP hE 1 rfl rfl (by kernel_rfl) ?_) | (refine tri_drawP hE 2 rfl rfl (by kernel_rfl) ?_) | (refine tri_drawP hE 3 rfl rfl (by kernel_rfl) ?_) | (refine tri_drawP hE 4 rfl rfl (by kernel_rfl) ?_)); simp only [List.length_cons, List.length_nil, Nat.reduceAdd, Nat.reduceSub, List.take_succ_cons, List.take_zero, List.drop_succ_cons, List.drop_zero])); simp +contextual only [hnl, ↓runK_nil, ↓runK_plain, ↓runK_guard, ↓runQ_nil, ↓runQ_plain, ↓runQ_guard, push_cast, exists_eq_left', Int.reduceEq, Int.reduceLT, Int.reduceLE, Int.reduceNeg, Nat.reduceLT, Nat.reduceLeDiff, Int.reduceToNat, Int.cast_ofNat_Int, Nat.reduceBEq, Nat.reduceMul, Nat.reduceEqDiff, reduceCtorEq, Nat.reduceAdd]) | (refine tri_block ?_) | (refine tri_skip ?_; simp only [thenQ, blockQ, if_true, if_false, Nat.reduceEqDiff, reduceCtorEq]) | (refine tri_exit ?_; simp only [thenQ, blockQ, if_true, if_false, Nat.reduceEqDiff, reduceCtorEq]) | (refine tri_cond (by simp only [push_cast, exists_eq_left', Int.reduceEq, Int.reduceLT, Int.reduceLE, Int.reduceNeg, Nat.reduceLT, Nat.reduceLeDiff, Int.reduceToNat, Int.cast_ofNat_Int, Nat.reduceBEq, Nat.reduceMul, Nat.reduceEqDiff, reduceCtorEq, Nat.reduceAdd]; rfl) (fun hb => ?_) (fun hb => ?_) <;> (try simp only [decide_eq_true_eq, decide_eq_false_iff_not, Bool.not_eq_true', Bool.not_eq_false', reduceCtorEq, Bool.true_eq_false, Bool.false_eq_true] at hb) <;> (try omega)) | (refine tri_unk (by simp only [push_cast, exists_eq_left', Int.reduceEq, Int.reduceLT, Int.reduceLE, Int.reduceNeg, Nat.reduceLT, Nat.reduceLeDiff, Int.reduceToNat, Int.cast_ofNat_Int, Nat.reduceBEq, Nat.reduceMul, Nat.reduceEqDiff, reduceCtorEq, Nat.reduceAdd]) ?_ ?_) | (refine tri_ret ?_; simp only [hnl, push_cast, exists_eq_left', Int.reduceEq, Int.reduceLT, Int.reduceLE, Int.reduceNeg, Nat.reduceLT, Nat.reduceLeDiff, Int.reduceToNat, Int.cast_ofNat_Int, Nat.reduceBEq, Nat.reduceMul, Nat.reduceEqDiff, reduceCtorEq, Nat.reduceAdd]) | (refine And.intro (by first | omega | (unfold InR; omega) | assumption | decide | exact ⟨_, _, rfl⟩) ?_) | (refine ⟨fun hc => ?_, fun hc => ?_⟩) | (intro hc; try omega))
    all_goals first | rfl | skip

theorem hasQ_spec : FnSpec Try.prog 86 hasPCon := by
  refine FnSpec.of_tri' (E := know [] [] [] []) (know_ok all_nil all_nil all_nil) Try.func86 rfl rfl (by kernel_rfl) ?_
  intro C x hE hnl hfit hpre
  simp only [Try.ntmps86, Try.results86, maxLen, Nat.reduceSub, Nat.reducePow, Nat.reduceAdd, Int.cast_ofNat_Int, push_cast] at hnl hfit hpre ⊢
  obtain ⟨(l : List Pr), (v : Pr), _⟩ := x
  dsimp only at hfit hpre ⊢
  repeat' (first | (refine goK (by assumption) ?_; iterate 4 (try clear hK K)) | (refine tri_seqk fun K hK => ?_) | ((first | (refine tri_region hE rfl ?_) | ((first | (refine tri_drawP hE 1 rfl rfl (by kernel_rfl) ?_) | (refine tri_drawP hE 2 rfl rfl (by kernel_rfl) ?_) | (refine tri_drawP hE 3 rfl rfl (by kernel_rfl) ?_) | (refine tri_drawP hE 4 rfl rfl (by kernel_rfl) ?_)); simp only [List.length_cons, List.length_nil, Nat.reduceAdd, Nat.reduceSub, List.take_succ_cons, List.take_zero, List.drop_succ_cons, List.drop_zero])); simp +contextual only [hnl, ↓runK_nil, ↓runK_plain, ↓runK_guard, ↓runQ_nil, ↓runQ_plain, ↓runQ_guard, push_cast, exists_eq_left', Int.reduceEq, Int.reduceLT, Int.reduceLE, Int.reduceNeg, Nat.reduceLT, Nat.reduceLeDiff, Int.reduceToNat, Int.cast_ofNat_Int, Nat.reduceBEq, Nat.reduceMul, Nat.reduceEqDiff, reduceCtorEq, Nat.reduceAdd]) | (refine tri_block ?_) | (refine tri_skip ?_; simp only [thenQ, blockQ, if_true, if_false, Nat.reduceEqDiff, reduceCtorEq]) | (refine tri_exit ?_; simp only [thenQ, blockQ, if_true, if_false, Nat.reduceEqDiff, reduceCtorEq]) | (refine tri_cond (by simp only [push_cast, exists_eq_left', Int.reduceEq, Int.reduceLT, Int.reduceLE, Int.reduceNeg, Nat.reduceLT, Nat.reduceLeDiff, Int.reduceToNat, Int.cast_ofNat_Int, Nat.reduceBEq, Nat.reduceMul, Nat.reduceEqDiff, reduceCtorEq, Nat.reduceAdd]; rfl) (fun hb => ?_) (fun hb => ?_) <;> (try simp only [decide_eq_true_eq, decide_eq_false_iff_not, Bool.not_eq_true', Bool.not_eq_false', reduceCtorEq, Bool.true_eq_false, Bool.false_eq_true] at hb) <;> (try omega)) | (refine tri_unk (by simp only [push_cast, exists_eq_left', Int.reduceEq, Int.reduceLT, Int.reduceLE, Int.reduceNeg, Nat.reduceLT, Nat.reduceLeDiff, Int.reduceToNat, Int.cast_ofNat_Int, Nat.reduceBEq, Nat.reduceMul, Nat.reduceEqDiff, reduceCtorEq, Nat.reduceAdd]) ?_ ?_) | (refine tri_ret ?_; simp only [hnl, push_cast, exists_eq_left', Int.reduceEq, Int.reduceLT, Int.reduceLE, Int.reduceNeg, Nat.reduceLT, Nat.reduceLeDiff, Int.reduceToNat, Int.cast_ofNat_Int, Nat.reduceBEq, Nat.reduceMul, Nat.reduceEqDiff, reduceCtorEq, Nat.reduceAdd]) | (refine And.intro (by first | omega | (unfold InR; omega) | assumption | decide | exact ⟨_, _, rfl⟩) ?_) | (refine ⟨fun hc => ?_, fun hc => ?_⟩) | (intro hc; try omega))
  refine tri_loopI (fun k : Nat => AS.of [(0, .one (.val (.sl (.prod .int .int)) l)), (3, .one (.box 3)), (5, .I k)] [] [(3, .one (.val (.prod .int .int) v))]) (fun k => k ≤ l.length ∧ v ∉ l.take k) (fun k => l.length - k) 0 ⟨Nat.zero_le _, by simp⟩ ?_ ?_
  · refine weak_of ?_ ?_ ?_ <;> simp only [push_cast, exists_eq_left', Int.reduceEq, Int.reduceLT, Int.reduceLE, Int.reduceNeg, Nat.reduceLT, Nat.reduceLeDiff, Int.reduceToNat, Int.cast_ofNat_Int, Nat.reduceBEq, Nat.reduceMul, Nat.reduceEqDiff, reduceCtorEq, Nat.reduceAdd]
  intro k ⟨hk, hf⟩ K' hL
  repeat' (first | (refine goK (by assumption) ?_; iterate 4 (try clear hK K)) | (refine tri_seqk fun K hK => ?_) | ((first | (refine tri_region hE rfl ?_) | ((first | (refine tri_drawP hE 1 rfl rfl (by kernel_rfl) ?_) | (refine tri_drawP hE 2 rfl rfl (by kernel_rfl) ?_) | (refine tri_drawP hE 3 rfl rfl (by kernel_rfl) ?_) | (refine tri_drawP hE 4 rfl rfl (by kernel_rfl) ?_)); simp only [List.length_cons, List.length_nil, Nat.reduceAdd, Nat.reduceSub, List.take_succ_cons, List.take_zero, List.drop_succ_cons, List.drop_zero])); simp +contextual only [hnl, ↓runK_nil, ↓runK_plain, ↓runK_guard, ↓runQ_nil, ↓runQ_plain, ↓runQ_guard, push_cast, exists_eq_left', Int.reduceEq, Int.reduceLT, Int.reduceLE, Int.reduceNeg, Nat.reduceLT, Nat.reduceLeDiff, Int.reduceToNat, Int.cast_ofNat_Int, Nat.reduceBEq, Nat.reduceMul, Nat.reduceEqDiff, reduceCtorEq, Nat.reduceAdd]) | (refine tri_block ?_) | (refine tri_skip ?_; simp only [thenQ, blockQ, if_true, if_false, Nat.reduceEqDiff, reduceCtorEq]) | (refine tri_exit ?_; simp only [thenQ, blockQ, if_true, if_false, Nat.reduceEqDiff, reduceCtorEq]) | (refine tri_cond (by simp only [push_cast, exists_eq_left', Int.reduceEq, Int.reduceLT, Int.reduceLE, Int.reduceNeg, Nat.reduceLT, Nat.reduceLeDiff, Int.reduceToNat, Int.cast_ofNat_Int, Nat.reduceBEq, Nat.reduceMul, Nat.reduceEqDiff, reduceCtorEq, Nat.reduceAdd]; rfl) (fun hb => ?_) (fun hb => ?_) <;> (try simp only [decide_eq_true_eq, decide_eq_false_iff_not, Bool.not_eq_true', Bool.not_eq_false', reduceCtorEq, Bool.true_eq_false, Bool.false_eq_true] at hb) <;> (try omega)) | (refine tri_unk (by simp only [push_cast, exists_eq_left', Int.reduceEq, Int.reduceLT, Int.reduceLE, Int.reduceNeg, Nat.reduceLT, Nat.reduceLeDiff, Int.reduceToNat, Int.cast_ofNat_Int, Nat.reduceBEq, Nat.reduceMul, Nat.reduceEqDiff, reduceCtorEq, Nat.reduceAdd]) ?_ ?_) | (refine tri_ret ?_; simp only [hnl, push_cast, exists_eq_left', Int.reduceEq, Int.reduceLT, Int.reduceLE, Int.reduceNeg, Nat.reduceLT, Nat.reduceLeDiff, Int.reduceToNat, Int.cast_ofNat_Int, Nat.reduceBEq, Nat.reduceMul, Nat.reduceEqDiff, reduceCtorEq, Nat.reduceAdd]) | (refine And.intro (by first | omega | (unfold InR; omega) | assumption | decide | exact ⟨_, _, rfl⟩) ?_) | (refine ⟨fun hc => ?_, fun hc => ?_⟩) | (intro hc; try omega))
  · exact (decide_eq_true (by rw [← hb]; exact getD_mem (0, 0) (by omega))).symm
  · refine hL _ (k + 1) ⟨by omega, ?_⟩ (by omega) ?_
    · rw [List.take_succ_eq_append_getElem (by omega), List.mem_append]
      rintro (h | h)
      · exact hf h
      · rw [List.mem_singleton] at h
        refine hb ?_
        rw [List.getD_eq_getElem?_getD, List.getElem?_eq_getElem (by omega)]
        exact h.symm
    refine weak_of ?_ ?_ ?_ <;> simp only [push_cast, exists_eq_left', Int.reduceEq, Int.reduceLT, Int.reduceLE, Int.reduceNeg, Nat.reduceLT, Nat.reduceLeDiff, Int.reduceToNat, Int.cast_ofNat_Int, Nat.reduceBEq, Nat.reduceMul, Nat.reduceEqDiff, reduceCtorEq, Nat.reduceAdd]
  · rw [List.take_of_length_le (by omega)] at hf
    exact (decide_eq_false hf).symm
end Go.Proofs.Ytaldpinkkgdklaa
