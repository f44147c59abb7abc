/- How many units a cheapest plan moves; the statement LooseAmounts. Conditions: in each contract. -/
import Derived.Test.YthncebdmmfhhjaaSr
namespace Go.Proofs.Ythncebdmmfhhjaa
open Go.RowKit Go.VS Go.OT Go.LC
set_option linter.unusedSimpArgs false
set_option linter.unusedVariables false

/-- The first and the last number, from 0 to M, with the least of f. -/
def amtR (f : Nat → Int) : Nat → Nat × Nat
  | 0 => (0, 0)
  | m + 1 => if f (m + 1) < f (amtR f m).1 then (m + 1, m + 1) else if f (m + 1) = f (amtR f m).1 then ((amtR f m).1, m + 1) else amtR f m
theorem amtR_spec (f : Nat → Int) : ∀ M, (amtR f M).1 ≤ (amtR f M).2 ∧ (amtR f M).2 ≤ M ∧ f (amtR f M).2 = f (amtR f M).1 ∧ (∀ k, k ≤ M → f (amtR f M).1 ≤ f k) ∧ (∀ k, k < (amtR f M).1 → f (amtR f M).1 < f k) ∧ ∀ k, (amtR f M).2 < k → k ≤ M → f (amtR f M).1 < f k
  | 0 => ⟨Nat.le_refl _, Nat.le_refl _, rfl, fun k hk => by obtain rfl : k = 0 := by omega
                                                            exact Int.le_refl _, fun k hk => absurd hk (Nat.not_lt_zero _), fun k h1 h2 => absurd h1 (by show ¬ 0 < k; omega)⟩
  | m + 1 => by
    obtain ⟨h1, h2, h3, h4, h5, h6⟩ := amtR_spec f m
    have e : amtR f (m + 1) = if f (m + 1) < f (amtR f m).1 then (m + 1, m + 1) else if f (m + 1) = f (amtR f m).1 then ((amtR f m).1, m + 1) else amtR f m := rfl
    generalize amtR f m = p at *
    generalize amtR f (m + 1) = q at *
    have hlast : ∀ k, k ≤ m + 1 → k ≤ m ∨ k = m + 1 := fun k hk => by omega
    by_cases c1 : f (m + 1) < f p.1
    · rw [if_pos c1] at e
      subst e
      refine ⟨Nat.le_refl _, Nat.le_refl _, rfl, fun k hk => ?_, fun k hk => ?_, fun k hk1 hk2 => absurd hk1 (by show ¬ m + 1 < k; omega)⟩
      · rcases hlast k hk with h | rfl
        · have := h4 k h; show f (m + 1) ≤ f k; omega
        · exact Int.le_refl _
      · have hk' : k < m + 1 := hk
        have := h4 k (by omega); show f (m + 1) < f k; omega
    · rw [if_neg c1] at e
      by_cases c2 : f (m + 1) = f p.1
      · rw [if_pos c2] at e
        subst e
        refine ⟨by show p.1 ≤ m + 1; omega, Nat.le_refl _, c2, fun k hk => ?_, h5, fun k hk1 hk2 => absurd hk1 (by show ¬ m + 1 < k; omega)⟩
        rcases hlast k hk with h | rfl
        · exact h4 k h
        · show f p.1 ≤ f (m + 1); omega
      · rw [if_neg c2] at e
        subst e
        refine ⟨h1, by omega, h3, fun k hk => ?_, h5, fun k hk1 hk2 => ?_⟩
        · rcases hlast k hk with h | rfl
          · exact h4 k h
          · omega
        · rcases hlast k hk2 with h | rfl
          · exact h6 k hk1 h
          · omega
theorem amtR_congr {f g : Nat → Int} : ∀ M, (∀ k, k ≤ M → f k = g k) → amtR f M = amtR g M
  | 0, _ => rfl
  | m + 1, h => by
    have ih := amtR_congr m fun k hk => h k (by omega)
    have hb : (amtR g m).1 ≤ m := by have := amtR_spec g m; omega
    show (if f (m + 1) < f (amtR f m).1 then _ else _) = if g (m + 1) < g (amtR g m).1 then _ else _
    rw [ih, h (m + 1) (Nat.le_refl _), h (amtR g m).1 (by omega)]
theorem amt_few {a b : List Int} {c : List (List Int)} (hm : MC a b c) (w : Int) : amtR (objV a b c w) (maxU a b) = (fewK a b c w, mostK a b c w) := by
  obtain ⟨h1, h2, h3, h4, h5, h6⟩ := amtR_spec (objV a b c w) (maxU a b)
  generalize amtR (objV a b c w) (maxU a b) = p at *
  have f1 := (few_spec hm w).1
  have m1 := (most_spec hm w).1
  have l1 := loose_obj hm w (k := p.1) (by omega)
  have l2 := loose_obj hm w (k := p.2) h2
  have e0 := h4 _ f1
  have e1 : looseV a b c w = objV a b c w (fewK a b c w) := rfl
  have g1 := l1.2.1 (by omega)
  have g2 := l2.2.1 (by omega)
  have gm := (loose_obj hm w m1).2.2 ⟨by omega, Nat.le_refl _⟩
  refine Prod.ext ?_ ?_
  · show p.1 = fewK a b c w
    apply Classical.byContradiction
    intro h
    have := h5 (fewK a b c w) (by omega)
    omega
  · show p.2 = mostK a b c w
    apply Classical.byContradiction
    intro h
    have := h6 (mostK a b c w) (by omega) m1
    omega

/-- What so many units cost, by a list of the costs of parts. -/
def amF (l a b : List Int) (w : Int) (k : Nat) : Int := l.getD k 0 + w * (lsum a + lsum b - 2 * k)
structure AmP (l a b : List Int) (w : Int) : Prop where
  sa : ∀ m, InR (lsum (a.take m))
  sb : ∀ m, InR (lsum (b.take m))
  la : 0 ≤ lsum a ∧ lsum a ≤ 1200
  lb : 0 ≤ lsum b ∧ lsum b ≤ 1200
  w : 0 ≤ w ∧ w ≤ 99
  len : 1 ≤ l.length ∧ l.length ≤ 1300
  l : ∀ k, k < l.length → 0 ≤ l.getD k 0 ∧ l.getD k 0 ≤ 1000000
@[push_cast] def amtCon : Con := ⟨[.dat (.sl .int), .dat (.sl .int), .dat (.sl .int), .dat .int], fun (x : List Int × List Int × List Int × Int × Unit) => AmP x.1 x.2.1 x.2.2.1 x.2.2.2.1,
  fun (x : List Int × List Int × List Int × Int × Unit) => { res := [.val .int (amtR (amF x.1 x.2.1 x.2.2.1 x.2.2.2.1) (x.1.length - 1)).1, .val .int (amtR (amF x.1 x.2.1 x.2.2.1 x.2.2.2.1) (x.1.length - 1)).2] }⟩
theorem amt_spec : FnSpec Try.prog 74 amtCon := by
  refine FnSpec.of_tri' (E := know [(27, totalCon)] [] [] []) (know_ok (all_cons qtotal_spec all_nil) all_nil all_nil) Try.func74 rfl rfl (by kernel_rfl) ?_
  intro C x hE hnl hfit hpre
  simp only [Try.ntmps74, Try.results74, maxLen, Nat.reduceSub, Nat.reducePow, Nat.reduceAdd, Int.cast_ofNat_Int, push_cast] at hnl hfit hpre ⊢
  obtain ⟨(l : List Int), (a : List Int), (b : List Int), (w : Int), _⟩ := x
  dsimp only at hfit hpre ⊢
  obtain ⟨s1, s2, s3, s4, s5, s6, s7⟩ := hpre
  have h0 := s7 0 (by omega)
  have m0 := mul_bnd s5 (x := lsum a + lsum b) (by omega)
  replace hnl := And.intro hnl (And.intro (fun m => eq_true (s1 m)) (fun m => eq_true (s2 m)))
  have f0 : amF l a b w 0 = l.getD 0 0 + w * (lsum a + lsum b) := by
    show l.getD 0 0 + w * (lsum a + lsum b - 2 * ((0 : Nat) : Int)) = _
    rw [show lsum a + lsum b - 2 * ((0 : Nat) : Int) = lsum a + lsum b by omega]
  repeat' (first|(refine goK (by assumption) ?_; iterate 4 (try clear hK K))|(refine tri_seqk fun K hK => ?_)|((first|refine tri_region hE rfl ?_|refine tri_ret ?_|((first|refine tri_drawP hE 1 rfl rfl (by kernel_rfl) ?_|refine tri_drawP hE 2 rfl rfl (by kernel_rfl) ?_|refine tri_drawP hE 3 rfl rfl (by kernel_rfl) ?_|refine tri_drawP hE 4 rfl rfl (by kernel_rfl) ?_); simp only [List.length_cons, List.length_nil, Nat.reduceAdd, Nat.reduceSub, List.take_succ_cons, List.take_zero, List.drop_succ_cons, List.drop_zero])); simp +contextual only [hnl, ↓kN, ↓kP, ↓kG, ↓qN, ↓qP, ↓qG, push_cast, Int.reduceEq, Int.reduceLT, Int.reduceLE, Int.reduceNeg, Nat.reduceLT, Nat.reduceLeDiff, Int.reduceToNat, Int.cast_ofNat_Int, Nat.reduceBEq, Nat.reduceMul, Nat.reduceEqDiff, reduceCtorEq, Nat.reduceAdd])|refine tri_block ?_|((first|refine tri_skip ?_|refine tri_exit ?_); simp only [thenQ, blockQ, if_true, if_false, Nat.reduceEqDiff, reduceCtorEq])|(refine tri_cond (by rfl) (fun hb => ?_) (fun hb => ?_) <;> (try simp only [decide_eq_true_eq, decide_eq_false_iff_not, Bool.not_eq_true', Bool.not_eq_false', reduceCtorEq, Bool.true_eq_false, Bool.false_eq_true] at hb) <;> (try omega))|refine tri_unk (by rfl) ?_ ?_|refine And.intro (by first|omega|(unfold InR; omega)|assumption|decide|exact ⟨_, _, rfl⟩) ?_|(refine ⟨fun hc => ?_, fun hc => ?_⟩)|(intro hc; try omega))
  refine tri_loopI (fun k : Nat => AS.of [(0, .one (.val (.sl .int) l)), (3, .I w), (10, .I (amtR (amF l a b w) k).1), (11, .I (amtR (amF l a b w) k).2), (12, .I (lsum a + lsum b)), (13, .I (amF l a b w (amtR (amF l a b w) k).1)), (14, .I ((k : Int) + 1))] [] []) (fun k => k + 1 ≤ l.length) (fun k => l.length - k) 0 (by omega) ?_ ?_
  · refine weak_of ?_ ?_ ?_ <;> simp only [push_cast, Int.reduceEq, Int.reduceLT, Int.reduceLE, Int.reduceNeg, Nat.reduceLT, Nat.reduceLeDiff, Int.reduceToNat, Int.cast_ofNat_Int, Nat.reduceBEq, Nat.reduceMul, Nat.reduceEqDiff, reduceCtorEq, Nat.reduceAdd]
    exact ⟨rfl, rfl, f0.symm, rfl⟩
  intro k hk K' hL
  rcases Nat.lt_or_ge (k + 1) l.length with hkl | hkl
  · have e1 : ((k : Int) + 1).toNat = k + 1 := by omega
    have hF : amF l a b w (k + 1) = l.getD (k + 1) 0 + w * (lsum a + lsum b - 2 * ((k : Int) + 1)) := by
      unfold amF
      rw [show ((k + 1 : Nat) : Int) = (k : Int) + 1 by omega]
    have h2 := s7 (k + 1) hkl
    have m2 := mul_bnd s5 (x := lsum a + lsum b - 2 * ((k : Int) + 1)) (by omega)
    have hS : amtR (amF l a b w) (k + 1) = if amF l a b w (k + 1) < amF l a b w (amtR (amF l a b w) k).1 then (k + 1, k + 1) else if amF l a b w (k + 1) = amF l a b w (amtR (amF l a b w) k).1 then ((amtR (amF l a b w) k).1, k + 1) else amtR (amF l a b w) k := rfl
    replace hnl := And.intro hnl (And.intro e1 hF.symm)
    by_cases c1 : amF l a b w (k + 1) < amF l a b w (amtR (amF l a b w) k).1
    · rw [if_pos c1] at hS
      repeat' (first|(refine goK (by assumption) ?_; iterate 4 (try clear hK K))|(refine tri_seqk fun K hK => ?_)|((first|refine tri_region hE rfl ?_|refine tri_ret ?_|((first|refine tri_drawP hE 1 rfl rfl (by kernel_rfl) ?_|refine tri_drawP hE 2 rfl rfl (by kernel_rfl) ?_|refine tri_drawP hE 3 rfl rfl (by kernel_rfl) ?_|refine tri_drawP hE 4 rfl rfl (by kernel_rfl) ?_); simp only [List.length_cons, List.length_nil, Nat.reduceAdd, Nat.reduceSub, List.take_succ_cons, List.take_zero, List.drop_succ_cons, List.drop_zero])); simp +contextual only [hnl, ↓kN, ↓kP, ↓kG, ↓qN, ↓qP, ↓qG, push_cast, Int.reduceEq, Int.reduceLT, Int.reduceLE, Int.reduceNeg, Nat.reduceLT, Nat.reduceLeDiff, Int.reduceToNat, Int.cast_ofNat_Int, Nat.reduceBEq, Nat.reduceMul, Nat.reduceEqDiff, reduceCtorEq, Nat.reduceAdd])|refine tri_block ?_|((first|refine tri_skip ?_|refine tri_exit ?_); simp only [thenQ, blockQ, if_true, if_false, Nat.reduceEqDiff, reduceCtorEq])|(refine tri_cond (by rfl) (fun hb => ?_) (fun hb => ?_) <;> (try simp only [decide_eq_true_eq, decide_eq_false_iff_not, Bool.not_eq_true', Bool.not_eq_false', reduceCtorEq, Bool.true_eq_false, Bool.false_eq_true] at hb) <;> (try omega))|refine tri_unk (by rfl) ?_ ?_|refine And.intro (by first|omega|(unfold InR; omega)|assumption|decide|exact ⟨_, _, rfl⟩) ?_|(refine ⟨fun hc => ?_, fun hc => ?_⟩)|(intro hc; try omega))
      all_goals refine hL _ (k + 1) (by omega) (by omega) ?_
      all_goals simp only [hS]
      all_goals refine weak_of ?_ ?_ ?_ <;> simp only [push_cast, Int.reduceEq, Int.reduceLT, Int.reduceLE, Int.reduceNeg, Nat.reduceLT, Nat.reduceLeDiff, Int.reduceToNat, Int.cast_ofNat_Int, Nat.reduceBEq, Nat.reduceMul, Nat.reduceEqDiff, reduceCtorEq, Nat.reduceAdd]
      all_goals first | exact ⟨by omega, by omega, by omega⟩ | skip
    · rw [if_neg c1] at hS
      by_cases c2 : amF l a b w (k + 1) = amF l a b w (amtR (amF l a b w) k).1
      · rw [if_pos c2] at hS
        repeat' (first|(refine goK (by assumption) ?_; iterate 4 (try clear hK K))|(refine tri_seqk fun K hK => ?_)|((first|refine tri_region hE rfl ?_|refine tri_ret ?_|((first|refine tri_drawP hE 1 rfl rfl (by kernel_rfl) ?_|refine tri_drawP hE 2 rfl rfl (by kernel_rfl) ?_|refine tri_drawP hE 3 rfl rfl (by kernel_rfl) ?_|refine tri_drawP hE 4 rfl rfl (by kernel_rfl) ?_); simp only [List.length_cons, List.length_nil, Nat.reduceAdd, Nat.reduceSub, List.take_succ_cons, List.take_zero, List.drop_succ_cons, List.drop_zero])); simp +contextual only [hnl, ↓kN, ↓kP, ↓kG, ↓qN, ↓qP, ↓qG, push_cast, Int.reduceEq, Int.reduceLT, Int.reduceLE, Int.reduceNeg, Nat.reduceLT, Nat.reduceLeDiff, Int.reduceToNat, Int.cast_ofNat_Int, Nat.reduceBEq, Nat.reduceMul, Nat.reduceEqDiff, reduceCtorEq, Nat.reduceAdd])|refine tri_block ?_|((first|refine tri_skip ?_|refine tri_exit ?_); simp only [thenQ, blockQ, if_true, if_false, Nat.reduceEqDiff, reduceCtorEq])|(refine tri_cond (by rfl) (fun hb => ?_) (fun hb => ?_) <;> (try simp only [decide_eq_true_eq, decide_eq_false_iff_not, Bool.not_eq_true', Bool.not_eq_false', reduceCtorEq, Bool.true_eq_false, Bool.false_eq_true] at hb) <;> (try omega))|refine tri_unk (by rfl) ?_ ?_|refine And.intro (by first|omega|(unfold InR; omega)|assumption|decide|exact ⟨_, _, rfl⟩) ?_|(refine ⟨fun hc => ?_, fun hc => ?_⟩)|(intro hc; try omega))
        all_goals refine hL _ (k + 1) (by omega) (by omega) ?_
        all_goals simp only [hS]
        all_goals refine weak_of ?_ ?_ ?_ <;> simp only [push_cast, Int.reduceEq, Int.reduceLT, Int.reduceLE, Int.reduceNeg, Nat.reduceLT, Nat.reduceLeDiff, Int.reduceToNat, Int.cast_ofNat_Int, Nat.reduceBEq, Nat.reduceMul, Nat.reduceEqDiff, reduceCtorEq, Nat.reduceAdd]
        all_goals first | exact ⟨by omega, by omega, by omega⟩ | skip
      · rw [if_neg c2] at hS
        repeat' (first|(refine goK (by assumption) ?_; iterate 4 (try clear hK K))|(refine tri_seqk fun K hK => ?_)|((first|refine tri_region hE rfl ?_|refine tri_ret ?_|((first|refine tri_drawP hE 1 rfl rfl (by kernel_rfl) ?_|refine tri_drawP hE 2 rfl rfl (by kernel_rfl) ?_|refine tri_drawP hE 3 rfl rfl (by kernel_rfl) ?_|refine tri_drawP hE 4 rfl rfl (by kernel_rfl) ?_); simp only [List.length_cons, List.length_nil, Nat.reduceAdd, Nat.reduceSub, List.take_succ_cons, List.take_zero, List.drop_succ_cons, List.drop_zero])); simp +contextual only [hnl, ↓kN, ↓kP, ↓kG, ↓qN, ↓qP, ↓qG, push_cast, Int.reduceEq, Int.reduceLT, Int.reduceLE, Int.reduceNeg, Nat.reduceLT, Nat.reduceLeDiff, Int.reduceToNat, Int.cast_ofNat_Int, Nat.reduceBEq, Nat.reduceMul, Nat.reduceEqDiff, reduceCtorEq, Nat.reduceAdd])|refine tri_block ?_|((first|refine tri_skip ?_|refine tri_exit ?_); simp only [thenQ, blockQ, if_true, if_false, Nat.reduceEqDiff, reduceCtorEq])|(refine tri_cond (by rfl) (fun hb => ?_) (fun hb => ?_) <;> (try simp only [decide_eq_true_eq, decide_eq_false_iff_not, Bool.not_eq_true', Bool.not_eq_false', reduceCtorEq, Bool.true_eq_false, Bool.false_eq_true] at hb) <;> (try omega))|refine tri_unk (by rfl) ?_ ?_|refine And.intro (by first|omega|(unfold InR; omega)|assumption|decide|exact ⟨_, _, rfl⟩) ?_|(refine ⟨fun hc => ?_, fun hc => ?_⟩)|(intro hc; try omega))
        all_goals refine hL _ (k + 1) (by omega) (by omega) ?_
        all_goals simp only [hS]
        all_goals refine weak_of ?_ ?_ ?_ <;> simp only [push_cast, Int.reduceEq, Int.reduceLT, Int.reduceLE, Int.reduceNeg, Nat.reduceLT, Nat.reduceLeDiff, Int.reduceToNat, Int.cast_ofNat_Int, Nat.reduceBEq, Nat.reduceMul, Nat.reduceEqDiff, reduceCtorEq, Nat.reduceAdd]
        all_goals first | exact ⟨by omega, by omega, by omega⟩ | skip
  · have ek : l.length - 1 = k := by omega
    replace hnl := And.intro hnl ek
    repeat' (first|(refine goK (by assumption) ?_; iterate 4 (try clear hK K))|(refine tri_seqk fun K hK => ?_)|((first|refine tri_region hE rfl ?_|refine tri_ret ?_|((first|refine tri_drawP hE 1 rfl rfl (by kernel_rfl) ?_|refine tri_drawP hE 2 rfl rfl (by kernel_rfl) ?_|refine tri_drawP hE 3 rfl rfl (by kernel_rfl) ?_|refine tri_drawP hE 4 rfl rfl (by kernel_rfl) ?_); simp only [List.length_cons, List.length_nil, Nat.reduceAdd, Nat.reduceSub, List.take_succ_cons, List.take_zero, List.drop_succ_cons, List.drop_zero])); simp +contextual only [hnl, ↓kN, ↓kP, ↓kG, ↓qN, ↓qP, ↓qG, push_cast, Int.reduceEq, Int.reduceLT, Int.reduceLE, Int.reduceNeg, Nat.reduceLT, Nat.reduceLeDiff, Int.reduceToNat, Int.cast_ofNat_Int, Nat.reduceBEq, Nat.reduceMul, Nat.reduceEqDiff, reduceCtorEq, Nat.reduceAdd])|refine tri_block ?_|((first|refine tri_skip ?_|refine tri_exit ?_); simp only [thenQ, blockQ, if_true, if_false, Nat.reduceEqDiff, reduceCtorEq])|(refine tri_cond (by rfl) (fun hb => ?_) (fun hb => ?_) <;> (try simp only [decide_eq_true_eq, decide_eq_false_iff_not, Bool.not_eq_true', Bool.not_eq_false', reduceCtorEq, Bool.true_eq_false, Bool.false_eq_true] at hb) <;> (try omega))|refine tri_unk (by rfl) ?_ ?_|refine And.intro (by first|omega|(unfold InR; omega)|assumption|decide|exact ⟨_, _, rfl⟩) ?_|(refine ⟨fun hc => ?_, fun hc => ?_⟩)|(intro hc; try omega))
    all_goals skip

theorem parts_am {a b : List Int} {c : List (List Int)} {w : Int} (hf : ForOK a b c) (hw : 0 ≤ w ∧ w ≤ 99) : AmP (partsL a b c (maxU a b)) a b w ∧ amtR (amF (partsL a b c (maxU a b)) a b w) (maxU a b) = (fewK a b c w, mostK a b c w) := by
  have hm := hf.mc
  obtain ⟨s1, s2, s3, s4⟩ := MC.sums hf
  have hmx := maxU_bnd hm
  refine ⟨⟨s1, s2, s3, s4, hw, by rw [partsL_len]; omega, fun k hk => ?_⟩, ?_⟩
  · rw [partsL_len] at hk
    rw [partsL_at _ _ _ (by omega)]
    have := part_bnd hm k (by omega)
    omega
  · rw [← amt_few hm w]
    refine amtR_congr _ fun k hk => ?_
    unfold amF objV
    rw [partsL_at _ _ _ hk, lsum_sumL, lsum_sumL]
def fewE (a b : List Int) (c : List (List Int)) (w : Int) : Int := if errWd a b c w = 0 then fewK a b c w else 0
def mostE (a b : List Int) (c : List (List Int)) (w : Int) : Int := if errWd a b c w = 0 then mostK a b c w else 0
@[push_cast] def amountCon : Con := ⟨[.dat (.sl .int), .dat (.sl .int), .dat (.sl (.sl .int)), .dat .int], fun _ => True, fun (x : List Int × List Int × List (List Int) × Int × Unit) =>
  { res := [.val .int (fewE x.1 x.2.1 x.2.2.1 x.2.2.2.1), .val .int (mostE x.1 x.2.1 x.2.2.1 x.2.2.2.1), .val .int (errWd x.1 x.2.1 x.2.2.1 x.2.2.2.1)] }⟩
theorem r8amt_spec : FnSpec Try.prog 25 amountCon := by
  refine FnSpec.of_tri' (E := know [(55, wastedCon), (70, partsCon), (74, amtCon)] [] [] []) (know_ok (all_cons r8wasted_spec (all_cons r8parts_spec (all_cons amt_spec all_nil))) all_nil all_nil) Try.func25 rfl rfl (by kernel_rfl) ?_
  intro C x hE hnl hfit hpre
  simp only [Try.ntmps25, Try.results25, maxLen, Nat.reduceSub, Nat.reducePow, Nat.reduceAdd, Int.cast_ofNat_Int, push_cast] at hnl hfit hpre ⊢
  obtain ⟨(a : List Int), (b : List Int), (c : List (List Int)), (w : Int), _⟩ := x
  dsimp only at hfit hpre ⊢
  by_cases he : errWd a b c w = 0
  · obtain ⟨hf, hw⟩ := errWd_ok he
    obtain ⟨h1, h2⟩ := parts_am hf hw
    have e1 : fewE a b c w = fewK a b c w := if_pos he
    have e2 : mostE a b c w = mostK a b c w := if_pos he
    have e3 : (partsL a b c (maxU a b)).length - 1 = maxU a b := by rw [partsL_len]; omega
    replace hnl := And.intro hnl (And.intro he (And.intro hf (And.intro (eq_true h1) (And.intro h2 (And.intro e1 (And.intro e2 e3))))))
    repeat' (first|(refine goK (by assumption) ?_; iterate 4 (try clear hK K))|(refine tri_seqk fun K hK => ?_)|((first|refine tri_region hE rfl ?_|refine tri_ret ?_|((first|refine tri_drawP hE 1 rfl rfl (by kernel_rfl) ?_|refine tri_drawP hE 2 rfl rfl (by kernel_rfl) ?_|refine tri_drawP hE 3 rfl rfl (by kernel_rfl) ?_|refine tri_drawP hE 4 rfl rfl (by kernel_rfl) ?_); simp only [List.length_cons, List.length_nil, Nat.reduceAdd, Nat.reduceSub, List.take_succ_cons, List.take_zero, List.drop_succ_cons, List.drop_zero])); simp +contextual only [hnl, ↓kN, ↓kP, ↓kG, ↓qN, ↓qP, ↓qG, push_cast, Int.reduceEq, Int.reduceLT, Int.reduceLE, Int.reduceNeg, Nat.reduceLT, Nat.reduceLeDiff, Int.reduceToNat, Int.cast_ofNat_Int, Nat.reduceBEq, Nat.reduceMul, Nat.reduceEqDiff, reduceCtorEq, Nat.reduceAdd])|refine tri_block ?_|((first|refine tri_skip ?_|refine tri_exit ?_); simp only [thenQ, blockQ, if_true, if_false, Nat.reduceEqDiff, reduceCtorEq])|(refine tri_cond (by rfl) (fun hb => ?_) (fun hb => ?_) <;> (try simp only [decide_eq_true_eq, decide_eq_false_iff_not, Bool.not_eq_true', Bool.not_eq_false', reduceCtorEq, Bool.true_eq_false, Bool.false_eq_true] at hb) <;> (try omega))|refine tri_unk (by rfl) ?_ ?_|refine And.intro (by first|omega|(unfold InR; omega)|assumption|decide|exact ⟨_, _, rfl⟩) ?_|(refine ⟨fun hc => ?_, fun hc => ?_⟩)|(intro hc; try omega))
    all_goals skip
  · have e1 : fewE a b c w = 0 := if_neg he
    have e2 : mostE a b c w = 0 := if_neg he
    replace hnl := And.intro hnl (And.intro (eq_false he) (And.intro e1 e2))
    repeat' (first|(refine goK (by assumption) ?_; iterate 4 (try clear hK K))|(refine tri_seqk fun K hK => ?_)|((first|refine tri_region hE rfl ?_|refine tri_ret ?_|((first|refine tri_drawP hE 1 rfl rfl (by kernel_rfl) ?_|refine tri_drawP hE 2 rfl rfl (by kernel_rfl) ?_|refine tri_drawP hE 3 rfl rfl (by kernel_rfl) ?_|refine tri_drawP hE 4 rfl rfl (by kernel_rfl) ?_); simp only [List.length_cons, List.length_nil, Nat.reduceAdd, Nat.reduceSub, List.take_succ_cons, List.take_zero, List.drop_succ_cons, List.drop_zero])); simp +contextual only [hnl, ↓kN, ↓kP, ↓kG, ↓qN, ↓qP, ↓qG, push_cast, Int.reduceEq, Int.reduceLT, Int.reduceLE, Int.reduceNeg, Nat.reduceLT, Nat.reduceLeDiff, Int.reduceToNat, Int.cast_ofNat_Int, Nat.reduceBEq, Nat.reduceMul, Nat.reduceEqDiff, reduceCtorEq, Nat.reduceAdd])|refine tri_block ?_|((first|refine tri_skip ?_|refine tri_exit ?_); simp only [thenQ, blockQ, if_true, if_false, Nat.reduceEqDiff, reduceCtorEq])|(refine tri_cond (by rfl) (fun hb => ?_) (fun hb => ?_) <;> (try simp only [decide_eq_true_eq, decide_eq_false_iff_not, Bool.not_eq_true', Bool.not_eq_false', reduceCtorEq, Bool.true_eq_false, Bool.false_eq_true] at hb) <;> (try omega))|refine tri_unk (by rfl) ?_ ?_|refine And.intro (by first|omega|(unfold InR; omega)|assumption|decide|exact ⟨_, _, rfl⟩) ?_|(refine ⟨fun hc => ?_, fun hc => ?_⟩)|(intro hc; try omega))
    all_goals skip

@[push_cast] def most1Con : Con := ⟨[.dat (.sl .int), .dat .int, .ptr .int], fun (x : List Int × Int × Int × Unit) => 0 ≤ x.2.2.1 ∧ x.2.2.1 ≤ 99, fun (x : List Int × Int × Int × Unit) => { res := [.val .bool (decide (2 * x.2.2.1 < x.2.1))] }⟩
@[push_cast] def most1Clo : Clo := ⟨[.int], [.sl .int, .int], .bool, fun (y : Int × Unit) _ => 0 ≤ y.1 ∧ y.1 ≤ 99, fun (y : Int × Unit) (x : List Int × Int × Unit) => decide (2 * y.1 < x.2.1)⟩
theorem most1_fn : FnSpec Try.prog 73 most1Con := by
  refine FnSpec.of_tri' (E := know [] [] [] []) (know_ok all_nil all_nil all_nil) Try.func73 rfl rfl (by kernel_rfl) ?_
  intro C x hE hnl hfit hpre
  simp only [Try.ntmps73, Try.results73, maxLen, Nat.reduceSub, Nat.reducePow, Nat.reduceAdd, Int.cast_ofNat_Int, push_cast] at hnl hfit hpre ⊢
  obtain ⟨(l : List Int), (n : Int), (w : Int), _⟩ := x
  dsimp only at hfit hpre ⊢
  repeat' (first|(refine goK (by assumption) ?_; iterate 4 (try clear hK K))|(refine tri_seqk fun K hK => ?_)|((first|refine tri_region hE rfl ?_|refine tri_ret ?_|((first|refine tri_drawP hE 1 rfl rfl (by kernel_rfl) ?_|refine tri_drawP hE 2 rfl rfl (by kernel_rfl) ?_|refine tri_drawP hE 3 rfl rfl (by kernel_rfl) ?_|refine tri_drawP hE 4 rfl rfl (by kernel_rfl) ?_); simp only [List.length_cons, List.length_nil, Nat.reduceAdd, Nat.reduceSub, List.take_succ_cons, List.take_zero, List.drop_succ_cons, List.drop_zero])); simp +contextual only [hnl, ↓kN, ↓kP, ↓kG, ↓qN, ↓qP, ↓qG, push_cast, Int.reduceEq, Int.reduceLT, Int.reduceLE, Int.reduceNeg, Nat.reduceLT, Nat.reduceLeDiff, Int.reduceToNat, Int.cast_ofNat_Int, Nat.reduceBEq, Nat.reduceMul, Nat.reduceEqDiff, reduceCtorEq, Nat.reduceAdd])|refine tri_block ?_|((first|refine tri_skip ?_|refine tri_exit ?_); simp only [thenQ, blockQ, if_true, if_false, Nat.reduceEqDiff, reduceCtorEq])|(refine tri_cond (by rfl) (fun hb => ?_) (fun hb => ?_) <;> (try simp only [decide_eq_true_eq, decide_eq_false_iff_not, Bool.not_eq_true', Bool.not_eq_false', reduceCtorEq, Bool.true_eq_false, Bool.false_eq_true] at hb) <;> (try omega))|refine tri_unk (by rfl) ?_ ?_|refine And.intro (by first|omega|(unfold InR; omega)|assumption|decide|exact ⟨_, _, rfl⟩) ?_|(refine ⟨fun hc => ?_, fun hc => ?_⟩)|(intro hc; try omega))
theorem most1_spec : CloSpec Try.prog 73 most1Clo := CloSpec.of most1_fn
theorem lAmount_spec : FnSpec Try.prog 24 amountCon := by
  refine FnSpec.of_tri' (E := know [(53, wastedCon), (71, lcheapCon), (72, lookCon)] [(73, most1Clo)] [] []) (know_ok (all_cons wasted_spec (all_cons lcheap_spec (all_cons look_spec all_nil))) (all_cons most1_spec all_nil) all_nil) Try.func24 rfl rfl (by kernel_rfl) ?_
  intro C x hE hnl hfit hpre
  simp only [Try.ntmps24, Try.results24, maxLen, Nat.reduceSub, Nat.reducePow, Nat.reduceAdd, Int.cast_ofNat_Int, push_cast] at hnl hfit hpre ⊢
  obtain ⟨(a : List Int), (b : List Int), (c : List (List Int)), (w : Int), _⟩ := x
  dsimp only at hfit hpre ⊢
  by_cases he : errWd a b c w = 0
  · obtain ⟨hf, h0, h99⟩ := errWd_ok he
    have hm := hf.mc
    have e1 : fewE a b c w = fewK a b c w := if_pos he
    have e2 : mostE a b c w = mostK a b c w := if_pos he
    have l1 := partsL_len a b c (fewK a b c w)
    have l2 := partsL_len a b c (mostK a b c w)
    have k1 := (few_spec hm w).1
    have k2 := (most_spec hm w).1
    have hmx := maxU_bnd hm
    have e3 : ((partsL a b c (fewK a b c w)).length : Int) - 1 = fewK a b c w := by omega
    have e4 : ((partsL a b c (mostK a b c w)).length : Int) - 1 = mostK a b c w := by omega
    replace hnl := And.intro hnl (And.intro he (And.intro hm (And.intro h0 (And.intro h99 (And.intro (found_most a b c w) (And.intro e1 (And.intro e2 (And.intro e3 e4))))))))
    repeat' (first|(refine goK (by assumption) ?_; iterate 4 (try clear hK K))|(refine tri_seqk fun K hK => ?_)|((first|refine tri_region hE rfl ?_|refine tri_ret ?_|((first|refine tri_drawP hE 1 rfl rfl (by kernel_rfl) ?_|refine tri_drawP hE 2 rfl rfl (by kernel_rfl) ?_|refine tri_drawP hE 3 rfl rfl (by kernel_rfl) ?_|refine tri_drawP hE 4 rfl rfl (by kernel_rfl) ?_); simp only [List.length_cons, List.length_nil, Nat.reduceAdd, Nat.reduceSub, List.take_succ_cons, List.take_zero, List.drop_succ_cons, List.drop_zero])); simp +contextual only [hnl, ↓kN, ↓kP, ↓kG, ↓qN, ↓qP, ↓qG, push_cast, Int.reduceEq, Int.reduceLT, Int.reduceLE, Int.reduceNeg, Nat.reduceLT, Nat.reduceLeDiff, Int.reduceToNat, Int.cast_ofNat_Int, Nat.reduceBEq, Nat.reduceMul, Nat.reduceEqDiff, reduceCtorEq, Nat.reduceAdd])|refine tri_block ?_|((first|refine tri_skip ?_|refine tri_exit ?_); simp only [thenQ, blockQ, if_true, if_false, Nat.reduceEqDiff, reduceCtorEq])|(refine tri_cond (by rfl) (fun hb => ?_) (fun hb => ?_) <;> (try simp only [decide_eq_true_eq, decide_eq_false_iff_not, Bool.not_eq_true', Bool.not_eq_false', reduceCtorEq, Bool.true_eq_false, Bool.false_eq_true] at hb) <;> (try omega))|refine tri_unk (by rfl) ?_ ?_|refine And.intro (by first|omega|(unfold InR; omega)|assumption|decide|exact ⟨_, _, rfl⟩) ?_|(refine ⟨fun hc => ?_, fun hc => ?_⟩)|(intro hc; try omega))
    all_goals skip
  · have e1 : fewE a b c w = 0 := if_neg he
    have e2 : mostE a b c w = 0 := if_neg he
    replace hnl := And.intro hnl (And.intro (eq_false he) (And.intro e1 e2))
    repeat' (first|(refine goK (by assumption) ?_; iterate 4 (try clear hK K))|(refine tri_seqk fun K hK => ?_)|((first|refine tri_region hE rfl ?_|refine tri_ret ?_|((first|refine tri_drawP hE 1 rfl rfl (by kernel_rfl) ?_|refine tri_drawP hE 2 rfl rfl (by kernel_rfl) ?_|refine tri_drawP hE 3 rfl rfl (by kernel_rfl) ?_|refine tri_drawP hE 4 rfl rfl (by kernel_rfl) ?_); simp only [List.length_cons, List.length_nil, Nat.reduceAdd, Nat.reduceSub, List.take_succ_cons, List.take_zero, List.drop_succ_cons, List.drop_zero])); simp +contextual only [hnl, ↓kN, ↓kP, ↓kG, ↓qN, ↓qP, ↓qG, push_cast, Int.reduceEq, Int.reduceLT, Int.reduceLE, Int.reduceNeg, Nat.reduceLT, Nat.reduceLeDiff, Int.reduceToNat, Int.cast_ofNat_Int, Nat.reduceBEq, Nat.reduceMul, Nat.reduceEqDiff, reduceCtorEq, Nat.reduceAdd])|refine tri_block ?_|((first|refine tri_skip ?_|refine tri_exit ?_); simp only [thenQ, blockQ, if_true, if_false, Nat.reduceEqDiff, reduceCtorEq])|(refine tri_cond (by rfl) (fun hb => ?_) (fun hb => ?_) <;> (try simp only [decide_eq_true_eq, decide_eq_false_iff_not, Bool.not_eq_true', Bool.not_eq_false', reduceCtorEq, Bool.true_eq_false, Bool.false_eq_true] at hb) <;> (try omega))|refine tri_unk (by rfl) ?_ ?_|refine And.intro (by first|omega|(unfold InR; omega)|assumption|decide|exact ⟨_, _, rfl⟩) ?_|(refine ⟨fun hc => ?_, fun hc => ?_⟩)|(intro hc; try omega))
    all_goals skip

theorem boolsA : (true != true) = false ∧ (false != false) = false ∧ (!true) = false ∧ (!false) = true ∧ (∀ n : Int, decide (n = n) = true) ∧ (∀ p : Prop, (False ∧ p) = False) ∧ (∀ p : Prop, (p ∧ False) = False) ∧ decide True = true ∧ decide False = false :=
  ⟨rfl, rfl, rfl, rfl, fun n => decide_eq_true rfl, fun p => false_and p, fun p => and_false p, rfl, rfl⟩
@[push_cast] def trueAm : Con := ⟨[.dat (.prod (.sl .int) (.prod (.sl .int) (.sl (.sl .int)))), .dat .int], fun _ => True, fun _ => { res := [.val .bool true] }⟩
theorem lamounts_fn : FnSpec Try.prog 5 trueAm := by
  refine FnSpec.of_tri' (E := know [(15, longJCon), (16, known8Con), (24, amountCon), (25, amountCon), (26, lLeastCon), (21, lPartsCon), (27, totalCon)] [] [] []) (know_ok (all_cons longJ_spec (all_cons known8_spec (all_cons lAmount_spec (all_cons r8amt_spec (all_cons lLeast_spec (all_cons lParts_spec (all_cons qtotal_spec all_nil))))))) all_nil all_nil) Try.func5 rfl rfl (by kernel_rfl) ?_
  intro C x hE hnl hfit hpre
  simp only [Try.ntmps5, Try.results5, maxLen, Nat.reduceSub, Nat.reducePow, Nat.reduceAdd, Int.cast_ofNat_Int, push_cast] at hnl hfit hpre ⊢
  obtain ⟨⟨(a : List Int), (b : List Int), (c : List (List Int))⟩, (w : Int), _⟩ := x
  dsimp only at hfit hpre ⊢
  by_cases he : errWd a b c w = 0
  · obtain ⟨hf, hw⟩ := errWd_ok he
    have hm := hf.mc
    have hF : errFor a b c = 0 := errFor_0 hf
    have e1 : fewE a b c w = fewK a b c w := if_pos he
    have e2 : mostE a b c w = mostK a b c w := if_pos he
    have e5 : looseE a b c w = looseV a b c w := if_pos he
    have e6 : partsE a b c = partsL a b c (maxU a b) := if_pos hF
    have k2 := (most_spec hm w).1
    have hmx := maxU_bnd hm
    have l1 := partsL_len a b c (maxU a b)
    obtain ⟨s1, s2, s3, s4⟩ := MC.sums hf
    have c0 : (((partsL a b c (maxU a b)).length : Int) ≤ mostK a b c w) = False := eq_false (by omega)
    replace hnl := And.intro hnl (And.intro boolsA (And.intro he (And.intro hF (And.intro (fun m => eq_true (s1 m)) (And.intro (fun m => eq_true (s2 m)) (And.intro e1 (And.intro e2 (And.intro e5 (And.intro e6 c0)))))))))
    repeat' (first|(refine goK (by assumption) ?_; iterate 4 (try clear hK K))|(refine tri_seqk fun K hK => ?_)|((first|refine tri_region hE rfl ?_|refine tri_ret ?_|((first|refine tri_drawP hE 1 rfl rfl (by kernel_rfl) ?_|refine tri_drawP hE 2 rfl rfl (by kernel_rfl) ?_|refine tri_drawP hE 3 rfl rfl (by kernel_rfl) ?_|refine tri_drawP hE 4 rfl rfl (by kernel_rfl) ?_); simp only [List.length_cons, List.length_nil, Nat.reduceAdd, Nat.reduceSub, List.take_succ_cons, List.take_zero, List.drop_succ_cons, List.drop_zero])); simp +contextual only [hnl, ↓kN, ↓kP, ↓kG, ↓qN, ↓qP, ↓qG, push_cast, Int.reduceEq, Int.reduceLT, Int.reduceLE, Int.reduceNeg, Nat.reduceLT, Nat.reduceLeDiff, Int.reduceToNat, Int.cast_ofNat_Int, Nat.reduceBEq, Nat.reduceMul, Nat.reduceEqDiff, reduceCtorEq, Nat.reduceAdd])|refine tri_block ?_|((first|refine tri_skip ?_|refine tri_exit ?_); simp only [thenQ, blockQ, if_true, if_false, Nat.reduceEqDiff, reduceCtorEq])|(refine tri_cond (by rfl) (fun hb => ?_) (fun hb => ?_) <;> (try simp only [decide_eq_true_eq, decide_eq_false_iff_not, Bool.not_eq_true', Bool.not_eq_false', reduceCtorEq, Bool.true_eq_false, Bool.false_eq_true] at hb) <;> (try omega))|refine tri_unk (by rfl) ?_ ?_|refine And.intro (by first|omega|(unfold InR; omega)|assumption|decide|exact ⟨_, _, rfl⟩) ?_|(refine ⟨fun hc => ?_, fun hc => ?_⟩)|(intro hc; try omega))
    refine tri_loopI (fun m : Nat => AS.of [(1, .I w), (5, .I (fewK a b c w)), (6, .I (mostK a b c w)), (11, .I (looseV a b c w)), (13, .one (.val (.sl .int) (partsL a b c (maxU a b)))), (15, .I (lsum a + lsum b)), (16, .I m)] [] []) (fun m => m ≤ maxU a b + 1) (fun m => maxU a b + 1 - m) 0 (by omega) ?_ ?_
    · refine weak_of ?_ ?_ ?_ <;> simp only [push_cast, Int.reduceEq, Int.reduceLT, Int.reduceLE, Int.reduceNeg, Nat.reduceLT, Nat.reduceLeDiff, Int.reduceToNat, Int.cast_ofNat_Int, Nat.reduceBEq, Nat.reduceMul, Nat.reduceEqDiff, reduceCtorEq, Nat.reduceAdd]
      all_goals skip
    intro m hm2 K' hL
    rcases Nat.lt_or_ge m (maxU a b + 1) with hml | hml
    · obtain ⟨o1, o2⟩ := loose_obj hm w (k := m) (by omega)
      have eO : objV a b c w m = partV a b c m + w * (lsum a + lsum b - 2 * (m : Int)) := by rw [lsum_sumL, lsum_sumL]; rfl
      rw [eO] at o1 o2
      have pa := partsL_at a b c (show m ≤ maxU a b by omega)
      have pb := part_bnd hm m (by omega)
      have mb := mul_bnd hw (x := lsum a + lsum b - 2 * (m : Int)) (by omega)
      have q1 : (partV a b c m + w * (lsum a + lsum b - 2 * (m : Int)) < looseV a b c w) = False := eq_false (by omega)
      by_cases hq : partV a b c m + w * (lsum a + lsum b - 2 * (m : Int)) = looseV a b c w
      · obtain ⟨g1, g2⟩ := o2.1 hq
        have g1' : ((fewK a b c w : Int) ≤ (m : Int)) = True := eq_true (by omega)
        have g2' : ((m : Int) ≤ (mostK a b c w : Int)) = True := eq_true (by omega)
        replace hnl := And.intro hnl (And.intro pa (And.intro q1 (And.intro (eq_true hq) (And.intro g1' g2'))))
        repeat' (first|(refine goK (by assumption) ?_; iterate 4 (try clear hK K))|(refine tri_seqk fun K hK => ?_)|((first|refine tri_region hE rfl ?_|refine tri_ret ?_|((first|refine tri_drawP hE 1 rfl rfl (by kernel_rfl) ?_|refine tri_drawP hE 2 rfl rfl (by kernel_rfl) ?_|refine tri_drawP hE 3 rfl rfl (by kernel_rfl) ?_|refine tri_drawP hE 4 rfl rfl (by kernel_rfl) ?_); simp only [List.length_cons, List.length_nil, Nat.reduceAdd, Nat.reduceSub, List.take_succ_cons, List.take_zero, List.drop_succ_cons, List.drop_zero])); simp +contextual only [hnl, ↓kN, ↓kP, ↓kG, ↓qN, ↓qP, ↓qG, push_cast, Int.reduceEq, Int.reduceLT, Int.reduceLE, Int.reduceNeg, Nat.reduceLT, Nat.reduceLeDiff, Int.reduceToNat, Int.cast_ofNat_Int, Nat.reduceBEq, Nat.reduceMul, Nat.reduceEqDiff, reduceCtorEq, Nat.reduceAdd])|refine tri_block ?_|((first|refine tri_skip ?_|refine tri_exit ?_); simp only [thenQ, blockQ, if_true, if_false, Nat.reduceEqDiff, reduceCtorEq])|(refine tri_cond (by rfl) (fun hb => ?_) (fun hb => ?_) <;> (try simp only [decide_eq_true_eq, decide_eq_false_iff_not, Bool.not_eq_true', Bool.not_eq_false', reduceCtorEq, Bool.true_eq_false, Bool.false_eq_true] at hb) <;> (try omega))|refine tri_unk (by rfl) ?_ ?_|refine And.intro (by first|omega|(unfold InR; omega)|assumption|decide|exact ⟨_, _, rfl⟩) ?_|(refine ⟨fun hc => ?_, fun hc => ?_⟩)|(intro hc; try omega))
        all_goals refine hL _ (m + 1) (by omega) (by omega) ?_
        all_goals refine weak_of ?_ ?_ ?_ <;> simp only [push_cast, Int.reduceEq, Int.reduceLT, Int.reduceLE, Int.reduceNeg, Nat.reduceLT, Nat.reduceLeDiff, Int.reduceToNat, Int.cast_ofNat_Int, Nat.reduceBEq, Nat.reduceMul, Nat.reduceEqDiff, reduceCtorEq, Nat.reduceAdd]
        all_goals skip
      · by_cases g1 : fewK a b c w ≤ m
        · have g1' : ((fewK a b c w : Int) ≤ (m : Int)) = True := eq_true (by omega)
          have g2' : ((m : Int) ≤ (mostK a b c w : Int)) = False := eq_false fun g2 => hq (o2.2 ⟨g1, by omega⟩)
          replace hnl := And.intro hnl (And.intro pa (And.intro q1 (And.intro (eq_false hq) (And.intro g1' g2'))))
          repeat' (first|(refine goK (by assumption) ?_; iterate 4 (try clear hK K))|(refine tri_seqk fun K hK => ?_)|((first|refine tri_region hE rfl ?_|refine tri_ret ?_|((first|refine tri_drawP hE 1 rfl rfl (by kernel_rfl) ?_|refine tri_drawP hE 2 rfl rfl (by kernel_rfl) ?_|refine tri_drawP hE 3 rfl rfl (by kernel_rfl) ?_|refine tri_drawP hE 4 rfl rfl (by kernel_rfl) ?_); simp only [List.length_cons, List.length_nil, Nat.reduceAdd, Nat.reduceSub, List.take_succ_cons, List.take_zero, List.drop_succ_cons, List.drop_zero])); simp +contextual only [hnl, ↓kN, ↓kP, ↓kG, ↓qN, ↓qP, ↓qG, push_cast, Int.reduceEq, Int.reduceLT, Int.reduceLE, Int.reduceNeg, Nat.reduceLT, Nat.reduceLeDiff, Int.reduceToNat, Int.cast_ofNat_Int, Nat.reduceBEq, Nat.reduceMul, Nat.reduceEqDiff, reduceCtorEq, Nat.reduceAdd])|refine tri_block ?_|((first|refine tri_skip ?_|refine tri_exit ?_); simp only [thenQ, blockQ, if_true, if_false, Nat.reduceEqDiff, reduceCtorEq])|(refine tri_cond (by rfl) (fun hb => ?_) (fun hb => ?_) <;> (try simp only [decide_eq_true_eq, decide_eq_false_iff_not, Bool.not_eq_true', Bool.not_eq_false', reduceCtorEq, Bool.true_eq_false, Bool.false_eq_true] at hb) <;> (try omega))|refine tri_unk (by rfl) ?_ ?_|refine And.intro (by first|omega|(unfold InR; omega)|assumption|decide|exact ⟨_, _, rfl⟩) ?_|(refine ⟨fun hc => ?_, fun hc => ?_⟩)|(intro hc; try omega))
          all_goals refine hL _ (m + 1) (by omega) (by omega) ?_
          all_goals refine weak_of ?_ ?_ ?_ <;> simp only [push_cast, Int.reduceEq, Int.reduceLT, Int.reduceLE, Int.reduceNeg, Nat.reduceLT, Nat.reduceLeDiff, Int.reduceToNat, Int.cast_ofNat_Int, Nat.reduceBEq, Nat.reduceMul, Nat.reduceEqDiff, reduceCtorEq, Nat.reduceAdd]
          all_goals skip
        · have g1' : ((fewK a b c w : Int) ≤ (m : Int)) = False := eq_false (by omega)
          replace hnl := And.intro hnl (And.intro pa (And.intro q1 (And.intro (eq_false hq) g1')))
          repeat' (first|(refine goK (by assumption) ?_; iterate 4 (try clear hK K))|(refine tri_seqk fun K hK => ?_)|((first|refine tri_region hE rfl ?_|refine tri_ret ?_|((first|refine tri_drawP hE 1 rfl rfl (by kernel_rfl) ?_|refine tri_drawP hE 2 rfl rfl (by kernel_rfl) ?_|refine tri_drawP hE 3 rfl rfl (by kernel_rfl) ?_|refine tri_drawP hE 4 rfl rfl (by kernel_rfl) ?_); simp only [List.length_cons, List.length_nil, Nat.reduceAdd, Nat.reduceSub, List.take_succ_cons, List.take_zero, List.drop_succ_cons, List.drop_zero])); simp +contextual only [hnl, ↓kN, ↓kP, ↓kG, ↓qN, ↓qP, ↓qG, push_cast, Int.reduceEq, Int.reduceLT, Int.reduceLE, Int.reduceNeg, Nat.reduceLT, Nat.reduceLeDiff, Int.reduceToNat, Int.cast_ofNat_Int, Nat.reduceBEq, Nat.reduceMul, Nat.reduceEqDiff, reduceCtorEq, Nat.reduceAdd])|refine tri_block ?_|((first|refine tri_skip ?_|refine tri_exit ?_); simp only [thenQ, blockQ, if_true, if_false, Nat.reduceEqDiff, reduceCtorEq])|(refine tri_cond (by rfl) (fun hb => ?_) (fun hb => ?_) <;> (try simp only [decide_eq_true_eq, decide_eq_false_iff_not, Bool.not_eq_true', Bool.not_eq_false', reduceCtorEq, Bool.true_eq_false, Bool.false_eq_true] at hb) <;> (try omega))|refine tri_unk (by rfl) ?_ ?_|refine And.intro (by first|omega|(unfold InR; omega)|assumption|decide|exact ⟨_, _, rfl⟩) ?_|(refine ⟨fun hc => ?_, fun hc => ?_⟩)|(intro hc; try omega))
          all_goals refine hL _ (m + 1) (by omega) (by omega) ?_
          all_goals refine weak_of ?_ ?_ ?_ <;> simp only [push_cast, Int.reduceEq, Int.reduceLT, Int.reduceLE, Int.reduceNeg, Nat.reduceLT, Nat.reduceLeDiff, Int.reduceToNat, Int.cast_ofNat_Int, Nat.reduceBEq, Nat.reduceMul, Nat.reduceEqDiff, reduceCtorEq, Nat.reduceAdd]
          all_goals skip
    · repeat' (first|(refine goK (by assumption) ?_; iterate 4 (try clear hK K))|(refine tri_seqk fun K hK => ?_)|((first|refine tri_region hE rfl ?_|refine tri_ret ?_|((first|refine tri_drawP hE 1 rfl rfl (by kernel_rfl) ?_|refine tri_drawP hE 2 rfl rfl (by kernel_rfl) ?_|refine tri_drawP hE 3 rfl rfl (by kernel_rfl) ?_|refine tri_drawP hE 4 rfl rfl (by kernel_rfl) ?_); simp only [List.length_cons, List.length_nil, Nat.reduceAdd, Nat.reduceSub, List.take_succ_cons, List.take_zero, List.drop_succ_cons, List.drop_zero])); simp +contextual only [hnl, ↓kN, ↓kP, ↓kG, ↓qN, ↓qP, ↓qG, push_cast, Int.reduceEq, Int.reduceLT, Int.reduceLE, Int.reduceNeg, Nat.reduceLT, Nat.reduceLeDiff, Int.reduceToNat, Int.cast_ofNat_Int, Nat.reduceBEq, Nat.reduceMul, Nat.reduceEqDiff, reduceCtorEq, Nat.reduceAdd])|refine tri_block ?_|((first|refine tri_skip ?_|refine tri_exit ?_); simp only [thenQ, blockQ, if_true, if_false, Nat.reduceEqDiff, reduceCtorEq])|(refine tri_cond (by rfl) (fun hb => ?_) (fun hb => ?_) <;> (try simp only [decide_eq_true_eq, decide_eq_false_iff_not, Bool.not_eq_true', Bool.not_eq_false', reduceCtorEq, Bool.true_eq_false, Bool.false_eq_true] at hb) <;> (try omega))|refine tri_unk (by rfl) ?_ ?_|refine And.intro (by first|omega|(unfold InR; omega)|assumption|decide|exact ⟨_, _, rfl⟩) ?_|(refine ⟨fun hc => ?_, fun hc => ?_⟩)|(intro hc; try omega))
      all_goals skip
  · replace hnl := And.intro hnl (And.intro boolsA (eq_false he))
    repeat' (first|(refine goK (by assumption) ?_; iterate 4 (try clear hK K))|(refine tri_seqk fun K hK => ?_)|((first|refine tri_region hE rfl ?_|refine tri_ret ?_|((first|refine tri_drawP hE 1 rfl rfl (by kernel_rfl) ?_|refine tri_drawP hE 2 rfl rfl (by kernel_rfl) ?_|refine tri_drawP hE 3 rfl rfl (by kernel_rfl) ?_|refine tri_drawP hE 4 rfl rfl (by kernel_rfl) ?_); simp only [List.length_cons, List.length_nil, Nat.reduceAdd, Nat.reduceSub, List.take_succ_cons, List.take_zero, List.drop_succ_cons, List.drop_zero])); simp +contextual only [hnl, ↓kN, ↓kP, ↓kG, ↓qN, ↓qP, ↓qG, push_cast, Int.reduceEq, Int.reduceLT, Int.reduceLE, Int.reduceNeg, Nat.reduceLT, Nat.reduceLeDiff, Int.reduceToNat, Int.cast_ofNat_Int, Nat.reduceBEq, Nat.reduceMul, Nat.reduceEqDiff, reduceCtorEq, Nat.reduceAdd])|refine tri_block ?_|((first|refine tri_skip ?_|refine tri_exit ?_); simp only [thenQ, blockQ, if_true, if_false, Nat.reduceEqDiff, reduceCtorEq])|(refine tri_cond (by rfl) (fun hb => ?_) (fun hb => ?_) <;> (try simp only [decide_eq_true_eq, decide_eq_false_iff_not, Bool.not_eq_true', Bool.not_eq_false', reduceCtorEq, Bool.true_eq_false, Bool.false_eq_true] at hb) <;> (try omega))|refine tri_unk (by rfl) ?_ ?_|refine And.intro (by first|omega|(unfold InR; omega)|assumption|decide|exact ⟨_, _, rfl⟩) ?_|(refine ⟨fun hc => ?_, fun hc => ?_⟩)|(intro hc; try omega))
    all_goals skip
end Go.Proofs.Ythncebdmmfhhjaa
