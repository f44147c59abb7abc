/- Which links are cyclic, by the document. Conditions: in each contract. -/
import Derived.Test.YtaldpinkkgdklaaKk
namespace Go.Proofs.Ytaldpinkkgdklaa
open Go.RowKit Go.VS Go.OT Go.LC
set_option linter.unusedSimpArgs false
set_option linter.unusedVariables false

/-! ### A unit on each link -/
def oneP (c : List (List Int)) (l : List Pr) (k : Nat) : List (List Int) := upto (fun k p => addAt p (lr l k) (lc l k) 1) k (List.replicate c.length (List.replicate (wid c) 0))
def inc1 (l : List Int) (i : Nat) : List Int := l.set i (l.getD i 0 + 1)
def oneA (c : List (List Int)) (l : List Pr) (k : Nat) : List Int := upto (fun k a => inc1 a (lr l k)) k (List.replicate c.length 0)
def oneB (c : List (List Int)) (l : List Pr) (k : Nat) : List Int := upto (fun k a => inc1 a (lc l k)) k (List.replicate (wid c) 0)
theorem inc1_at {l : List Int} {i : Nat} (h : i < l.length) (k : Nat) : ga (inc1 l i) k = ga l k + if k = i then 1 else 0 := by
  unfold inc1 ga
  rw [Go.OT.ga_set h]
  by_cases hk : k = i
  · subst hk; rw [if_pos rfl, if_pos rfl]
  · rw [if_neg hk, if_neg hk]; omega
theorem ga_rep (n v : Nat) : ga (List.replicate n 0) v = 0 := by
  unfold ga
  rw [List.getD_eq_getElem?_getD, List.getElem?_replicate]; split <;> rfl
theorem gt_rep (R C i j : Nat) : gt (List.replicate R (List.replicate C 0)) i j = 0 := by
  unfold gt
  have e : (List.replicate R (List.replicate C (0 : Int))).getD i [] = List.replicate C 0 ∨ (List.replicate R (List.replicate C (0 : Int))).getD i [] = [] := by
    rw [List.getD_eq_getElem?_getD, List.getElem?_replicate]
    split
    · exact .inl rfl
    · exact .inr rfl
  rcases e with e | e
  · rw [e]; exact ga_rep C j
  · rw [e]; rfl
/-- What holds behind k links. -/
structure OneI (c : List (List Int)) (l : List Pr) (k : Nat) : Prop where
  sz : Sz c.length (wid c) (oneP c l k)
  la : (oneA c l k).length = c.length
  lb : (oneB c l k).length = wid c
  plan : IsPlan c.length (wid c) (ga (oneA c l k)) (ga (oneB c l k)) (gt (oneP c l k))
  bp : ∀ i j, i < c.length → j < wid c → 0 ≤ gt (oneP c l k) i j ∧ gt (oneP c l k) i j ≤ k
  ba : ∀ i, i < c.length → 0 ≤ ga (oneA c l k) i ∧ ga (oneA c l k) i ≤ k
  bb : ∀ i, i < wid c → 0 ≤ ga (oneB c l k) i ∧ ga (oneB c l k) i ≤ k
  pos : ∀ i j, i < c.length → j < wid c → (0 < gt (oneP c l k) i j ↔ ∃ m, m < k ∧ lr l m = i ∧ lc l m = j)
theorem oneI {c : List (List Int)} {l : List Pr} (hl : Lnk c l) : ∀ k, k ≤ l.length → OneI c l k
  | 0, _ => by
    have e0 : oneP c l 0 = List.replicate c.length (List.replicate (wid c) 0) := rfl
    have e1 : oneA c l 0 = List.replicate c.length 0 := rfl
    have e2 : oneB c l 0 = List.replicate (wid c) 0 := rfl
    have hg : gt (oneP c l 0) = fun _ _ => 0 := by
      funext i j
      rw [e0]; exact gt_rep _ _ i j
    refine ⟨⟨by rw [e0]; simp, fun i hi => ?_⟩, by rw [e1]; simp, by rw [e2]; simp, ⟨fun i j _ _ => by rw [hg]; exact Int.le_refl _, fun i hi => ?_, fun j hj => ?_⟩, fun i j _ _ => by rw [hg]; dsimp only; omega, fun i _ => by rw [e1, ga_rep]; omega, fun i _ => by rw [e2, ga_rep]; omega, fun i j _ _ => ?_⟩
    · rw [e0, List.getD_eq_getElem?_getD, List.getElem?_replicate, if_pos hi]
      simp
    · rw [hg, e1, ga_rep]; exact rowS_zero _ i
    · rw [hg, e2, ga_rep]; exact colS_zero _ j
    · rw [hg]
      exact ⟨fun h => absurd h (Int.lt_irrefl 0), fun ⟨m, hm, _⟩ => absurd hm (Nat.not_lt_zero m)⟩
  | k + 1, hk => by
    obtain ⟨h1, h2, h3, h4, h5, h6, h7, h8⟩ := oneI hl k (by omega)
    obtain ⟨i1, i2⟩ := hl.in' (k := k) (by omega)
    have e0 : oneP c l (k + 1) = addAt (oneP c l k) (lr l k) (lc l k) 1 := rfl
    have e1 : oneA c l (k + 1) = inc1 (oneA c l k) (lr l k) := rfl
    have e2 : oneB c l (k + 1) = inc1 (oneB c l k) (lc l k) := rfl
    have hg : gt (oneP c l (k + 1)) = bump (gt (oneP c l k)) (lr l k) (lc l k) 1 := by rw [e0, gt_addAt h1 i1 i2]
    have ga1 : ∀ i, ga (oneA c l (k + 1)) i = ga (oneA c l k) i + if i = lr l k then 1 else 0 := fun i => by rw [e1, inc1_at (by rw [h2]; exact i1)]
    have gb1 : ∀ i, ga (oneB c l (k + 1)) i = ga (oneB c l k) i + if i = lc l k then 1 else 0 := fun i => by rw [e2, inc1_at (by rw [h3]; exact i2)]
    refine ⟨by rw [e0]; exact h1.add i1, by rw [e1]; unfold inc1; rw [List.length_set]; exact h2, by rw [e2]; unfold inc1; rw [List.length_set]; exact h3, ⟨fun i j hi hj => ?_, fun i hi => ?_, fun j hj => ?_⟩, fun i j hi hj => ?_, fun i hi => ?_, fun i hi => ?_, fun i j hi hj => ?_⟩
    · rw [hg]
      have := h5 i j hi hj
      unfold bump
      split <;> omega
    · rw [hg, rowS_bump _ i2, h4.row i hi, ga1]
    · rw [hg, colS_bump _ i1, h4.col j hj, gb1]
    · rw [hg]
      have := h5 i j hi hj
      unfold bump
      split <;> omega
    · rw [ga1]
      have := h6 i hi
      split <;> omega
    · rw [gb1]
      have := h7 i hi
      split <;> omega
    · rw [hg]
      have k1 := h5 i j hi hj
      have k2 := h8 i j hi hj
      unfold bump
      by_cases h : i = lr l k ∧ j = lc l k
      · rw [if_pos h]
        exact ⟨fun _ => ⟨k, by omega, h.1.symm, h.2.symm⟩, fun _ => by omega⟩
      · rw [if_neg h, Int.add_zero, k2]
        constructor
        · rintro ⟨m, hm, h9⟩; exact ⟨m, by omega, h9⟩
        · rintro ⟨m, hm, h9⟩
          rcases Nat.lt_or_ge m k with hm2 | hm2
          · exact ⟨m, hm2, h9⟩
          · obtain rfl : m = k := by omega
            exact absurd ⟨h9.1.symm, h9.2.symm⟩ h
/-- The document's test is right. -/
theorem one_ok {c : List (List Int)} {l : List Pr} (hc : InTab 0 99 c) (hl : Lnk c l) : MQ (oneA c l l.length) (oneB c l l.length) c ∧ Fit c (oneP c l l.length) ∧ (spend c (solveV (oneA c l l.length) (oneB c l l.length) c) = spend c (oneP c l l.length) ↔ CycP c l) := by
  have h25 := hl.le25 hc
  obtain ⟨h1, h2, h3, h4, h5, h6, h7, h8⟩ := oneI hl l.length (Nat.le_refl _)
  have hr := hc.rows
  have hw := hc.cols
  have bnd : ∀ {q : List Int} {n : Nat}, q.length = n → (∀ i, i < n → 0 ≤ ga q i ∧ ga q i ≤ (l.length : Int)) → Bnd 0 200 q := fun {q n} hq hb => Bnd.of fun i hi => by
    have := hb i (by omega)
    unfold ga at this
    omega
  have hq : MQ (oneA c l l.length) (oneB c l l.length) c := by
    refine ⟨by omega, by omega, bnd h2 h6, bnd h3 h7, ?_, ?_⟩
    · rw [h2, h3]; exact hc.tb (by omega) (by omega)
    · unfold sumL
      rw [h2, h3, ← sg_congr c.length fun i hi => h4.row i hi, ← sg_congr (wid c) fun j hj => h4.col j hj]
      exact units_col c.length (wid c) _
  have hT : Tb c.length (wid c) 0 200 (oneP c l l.length) := ⟨h1.rows, h1.cols, fun i j hi hj => by
    have := h5 i j hi hj
    unfold gt at this
    omega⟩
  refine ⟨hq, ⟨c.length, wid c, by omega, hc.tb (by omega) (by omega), hT⟩, ?_⟩
  obtain ⟨g1, g2, g3⟩ := solve_ok hq
  have hp := g1.plan
  have hsz := g1.tab.sz
  rw [h2, h3] at hp hsz g2 g3
  rw [spend_cst h1, spend_cst hsz, cyc_iff hc hl rfl rfl h4 h8]
  constructor
  · intro he q hq'
    rw [← he]
    exact hp.least g2 g3 hq'
  · intro hall
    have k1 := hall _ hp
    have k2 := hp.least g2 g3 h4
    omega

theorem qis_spec : FnSpec Try.prog 48 isCon := by
  refine FnSpec.of_tri' (E := know [(85, linksCon), (88, zerosCon), (71, qbestCon), (60, spendCon)] [] [] [26, 31]) (know_ok (all_cons qlinks_spec (all_cons zeros_spec (all_cons qbest_spec (all_cons spent_spec all_nil)))) all_nil all_nil) Try.func48 rfl rfl (by kernel_rfl) ?_
  intro C x hE hnl hfit hpre
  simp only [Try.ntmps48, Try.results48, maxLen, Nat.reduceSub, Nat.reducePow, Nat.reduceAdd, Int.cast_ofNat_Int, push_cast] at hnl hfit hpre ⊢
  obtain ⟨(c : List (List Int)), (l : List Pr), _⟩ := x
  dsimp only at hfit hpre ⊢
  have hw : (c.getD 0 []).length = wid c := rfl
  by_cases he : errLinks c l = 0
  · obtain ⟨hc, hl⟩ := errLinks_ok he
    have hr := hc.rows
    have hw6 := hc.cols
    have h25 := hl.le25 hc
    obtain ⟨m1, m2, m3⟩ := one_ok hc hl
    replace hnl := And.intro hnl (And.intro he hw)
    repeat' (first|(refine goK (by assumption) ?_; iterate 4 (try clear hK K))|(refine tri_seqk fun K hK => ?_)|((first|refine tri_region hE rfl ?_|refine tri_ret ?_|((first|refine tri_drawP hE 1 rfl rfl (by kernel_rfl) ?_|refine tri_drawP hE 2 rfl rfl (by kernel_rfl) ?_|refine tri_drawP hE 3 rfl rfl (by kernel_rfl) ?_|refine tri_drawP hE 4 rfl rfl (by kernel_rfl) ?_); simp only [List.length_cons, List.length_nil, Nat.reduceAdd, Nat.reduceSub, List.take_succ_cons, List.take_zero, List.drop_succ_cons, List.drop_zero])); simp +contextual only [hnl, ↓kN, ↓kP, ↓kG, ↓qN, ↓qP, ↓qG, push_cast, Int.reduceEq, Int.reduceLT, Int.reduceLE, Int.reduceNeg, Nat.reduceLT, Nat.reduceLeDiff, Int.reduceToNat, Int.cast_ofNat_Int, Nat.reduceBEq, Nat.reduceMul, Nat.reduceEqDiff, reduceCtorEq, Nat.reduceAdd])|refine tri_block ?_|((first|refine tri_skip ?_|refine tri_exit ?_); simp only [thenQ, blockQ, if_true, if_false, Nat.reduceEqDiff, reduceCtorEq])|(refine tri_cond (by rfl) (fun hb => ?_) (fun hb => ?_) <;> (try simp only [decide_eq_true_eq, decide_eq_false_iff_not, Bool.not_eq_true', Bool.not_eq_false', reduceCtorEq, Bool.true_eq_false, Bool.false_eq_true] at hb) <;> (try omega))|refine tri_unk (by rfl) ?_ ?_|refine And.intro (by first|omega|(unfold InR; omega)|assumption|decide|exact ⟨_, _, rfl⟩) ?_|(refine ⟨fun hc => ?_, fun hc => ?_⟩)|(intro hc; try omega))
    refine tri_thaw 8 26 26 (by simp only [push_cast, Int.reduceEq, Int.reduceLT, Int.reduceLE, Int.reduceNeg, Nat.reduceLT, Nat.reduceLeDiff, Int.reduceToNat, Int.cast_ofNat_Int, Nat.reduceBEq, Nat.reduceMul, Nat.reduceEqDiff, reduceCtorEq, Nat.reduceAdd]; rfl) (by omega) ?_
    refine tri_thaw 9 31 31 (by simp only [push_cast, Int.reduceEq, Int.reduceLT, Int.reduceLE, Int.reduceNeg, Nat.reduceLT, Nat.reduceLeDiff, Int.reduceToNat, Int.cast_ofNat_Int, Nat.reduceBEq, Nat.reduceMul, Nat.reduceEqDiff, reduceCtorEq, Nat.reduceAdd]; rfl) (by omega) ?_
    refine tri_loopI (fun k : Nat => AS.of [(0, .one (.val (.sl (.sl .int)) c)), (1, .one (.val (.sl (.prod .int .int)) l)), (7, .one (.ref 23)), (8, .one (.ref 26)), (9, .one (.ref 31)), (10, .I k)] [(23, .deep 22 3 .int (oneP c l k)), (26, .flat 3 .int (oneA c l k)), (31, .flat 3 .int (oneB c l k))] []) (fun k => k ≤ l.length) (fun k => l.length - k) 0 (Nat.zero_le _) ?_ ?_
    · refine weak_of ?_ ?_ ?_ <;> simp only [push_cast, Int.reduceEq, Int.reduceLT, Int.reduceLE, Int.reduceNeg, Nat.reduceLT, Nat.reduceLeDiff, Int.reduceToNat, Int.cast_ofNat_Int, Nat.reduceBEq, Nat.reduceMul, Nat.reduceEqDiff, reduceCtorEq, Nat.reduceAdd]
      all_goals first | exact ⟨.inl rfl, .inl rfl, .inl rfl⟩ | skip
    intro k hk K' hL
    rcases Nat.lt_or_ge k l.length with hk' | hk'
    · obtain ⟨h1, h2, h3, h4, h5, h6, h7, h8⟩ := oneI hl k hk
      obtain ⟨i1, i2⟩ := hl.in' hk'
      obtain ⟨a1, a2, a3, a4⟩ := hl.at' k hk'
      have b1 := h5 _ _ i1 i2
      have b2 := h6 _ i1
      have b3 := h7 _ i2
      have l1 := h1.rows
      have l2 := h1.cols _ i1
      have x1 : oneP c l (k + 1) = addAt (oneP c l k) (lr l k) (lc l k) 1 := rfl
      have x2 : oneA c l (k + 1) = inc1 (oneA c l k) (lr l k) := rfl
      have x3 : oneB c l (k + 1) = inc1 (oneB c l k) (lc l k) := rfl
      simp only [gt, ga, lr, lc, toP] at b1 b2 b3 i1 i2 l2 a1 a2 a3 a4
      simp only [addAt, inc1, lr, lc, toP] at x1 x2 x3
      repeat' (first|(refine goK (by assumption) ?_; iterate 4 (try clear hK K))|(refine tri_seqk fun K hK => ?_)|((first|refine tri_region hE rfl ?_|refine tri_ret ?_|((first|refine tri_drawP hE 1 rfl rfl (by kernel_rfl) ?_|refine tri_drawP hE 2 rfl rfl (by kernel_rfl) ?_|refine tri_drawP hE 3 rfl rfl (by kernel_rfl) ?_|refine tri_drawP hE 4 rfl rfl (by kernel_rfl) ?_); simp only [List.length_cons, List.length_nil, Nat.reduceAdd, Nat.reduceSub, List.take_succ_cons, List.take_zero, List.drop_succ_cons, List.drop_zero])); simp +contextual only [hnl, ↓kN, ↓kP, ↓kG, ↓qN, ↓qP, ↓qG, push_cast, Int.reduceEq, Int.reduceLT, Int.reduceLE, Int.reduceNeg, Nat.reduceLT, Nat.reduceLeDiff, Int.reduceToNat, Int.cast_ofNat_Int, Nat.reduceBEq, Nat.reduceMul, Nat.reduceEqDiff, reduceCtorEq, Nat.reduceAdd])|refine tri_block ?_|((first|refine tri_skip ?_|refine tri_exit ?_); simp only [thenQ, blockQ, if_true, if_false, Nat.reduceEqDiff, reduceCtorEq])|(refine tri_cond (by rfl) (fun hb => ?_) (fun hb => ?_) <;> (try simp only [decide_eq_true_eq, decide_eq_false_iff_not, Bool.not_eq_true', Bool.not_eq_false', reduceCtorEq, Bool.true_eq_false, Bool.false_eq_true] at hb) <;> (try omega))|refine tri_unk (by rfl) ?_ ?_|refine And.intro (by first|omega|(unfold InR; omega)|assumption|decide|exact ⟨_, _, rfl⟩) ?_|(refine ⟨fun hc => ?_, fun hc => ?_⟩)|(intro hc; try omega))
      refine hL _ (k + 1) (by omega) (by omega) ?_
      refine weak_of ?_ ?_ ?_ <;> simp only [push_cast, Int.reduceEq, Int.reduceLT, Int.reduceLE, Int.reduceNeg, Nat.reduceLT, Nat.reduceLeDiff, Int.reduceToNat, Int.cast_ofNat_Int, Nat.reduceBEq, Nat.reduceMul, Nat.reduceEqDiff, reduceCtorEq, Nat.reduceAdd]
      rw [x1, x2, x3]
      all_goals first | exact ⟨.inl rfl, .inl rfl, .inl rfl⟩ | skip
    · obtain rfl : k = l.length := by omega
      repeat' (first|(refine goK (by assumption) ?_; iterate 4 (try clear hK K))|(refine tri_seqk fun K hK => ?_)|((first|refine tri_region hE rfl ?_|refine tri_ret ?_|((first|refine tri_drawP hE 1 rfl rfl (by kernel_rfl) ?_|refine tri_drawP hE 2 rfl rfl (by kernel_rfl) ?_|refine tri_drawP hE 3 rfl rfl (by kernel_rfl) ?_|refine tri_drawP hE 4 rfl rfl (by kernel_rfl) ?_); simp only [List.length_cons, List.length_nil, Nat.reduceAdd, Nat.reduceSub, List.take_succ_cons, List.take_zero, List.drop_succ_cons, List.drop_zero])); simp +contextual only [hnl, ↓kN, ↓kP, ↓kG, ↓qN, ↓qP, ↓qG, push_cast, Int.reduceEq, Int.reduceLT, Int.reduceLE, Int.reduceNeg, Nat.reduceLT, Nat.reduceLeDiff, Int.reduceToNat, Int.cast_ofNat_Int, Nat.reduceBEq, Nat.reduceMul, Nat.reduceEqDiff, reduceCtorEq, Nat.reduceAdd])|refine tri_block ?_|((first|refine tri_skip ?_|refine tri_exit ?_); simp only [thenQ, blockQ, if_true, if_false, Nat.reduceEqDiff, reduceCtorEq])|(refine tri_cond (by rfl) (fun hb => ?_) (fun hb => ?_) <;> (try simp only [decide_eq_true_eq, decide_eq_false_iff_not, Bool.not_eq_true', Bool.not_eq_false', reduceCtorEq, Bool.true_eq_false, Bool.false_eq_true] at hb) <;> (try omega))|refine tri_unk (by rfl) ?_ ?_|refine And.intro (by first|omega|(unfold InR; omega)|assumption|decide|exact ⟨_, _, rfl⟩) ?_|(refine ⟨fun hc => ?_, fun hc => ?_⟩)|(intro hc; try omega))
      exact decide_eq_decide.2 m3
  · replace hnl := And.intro hnl (eq_false he)
    repeat' (first|(refine goK (by assumption) ?_; iterate 4 (try clear hK K))|(refine tri_seqk fun K hK => ?_)|((first|refine tri_region hE rfl ?_|refine tri_ret ?_|((first|refine tri_drawP hE 1 rfl rfl (by kernel_rfl) ?_|refine tri_drawP hE 2 rfl rfl (by kernel_rfl) ?_|refine tri_drawP hE 3 rfl rfl (by kernel_rfl) ?_|refine tri_drawP hE 4 rfl rfl (by kernel_rfl) ?_); simp only [List.length_cons, List.length_nil, Nat.reduceAdd, Nat.reduceSub, List.take_succ_cons, List.take_zero, List.drop_succ_cons, List.drop_zero])); simp +contextual only [hnl, ↓kN, ↓kP, ↓kG, ↓qN, ↓qP, ↓qG, push_cast, Int.reduceEq, Int.reduceLT, Int.reduceLE, Int.reduceNeg, Nat.reduceLT, Nat.reduceLeDiff, Int.reduceToNat, Int.cast_ofNat_Int, Nat.reduceBEq, Nat.reduceMul, Nat.reduceEqDiff, reduceCtorEq, Nat.reduceAdd])|refine tri_block ?_|((first|refine tri_skip ?_|refine tri_exit ?_); simp only [thenQ, blockQ, if_true, if_false, Nat.reduceEqDiff, reduceCtorEq])|(refine tri_cond (by rfl) (fun hb => ?_) (fun hb => ?_) <;> (try simp only [decide_eq_true_eq, decide_eq_false_iff_not, Bool.not_eq_true', Bool.not_eq_false', reduceCtorEq, Bool.true_eq_false, Bool.false_eq_true] at hb) <;> (try omega))|refine tri_unk (by rfl) ?_ ?_|refine And.intro (by first|omega|(unfold InR; omega)|assumption|decide|exact ⟨_, _, rfl⟩) ?_|(refine ⟨fun hc => ?_, fun hc => ?_⟩)|(intro hc; try omega))
    exact (decide_eq_false fun h => h.1).symm
end Go.Proofs.Ytaldpinkkgdklaa
