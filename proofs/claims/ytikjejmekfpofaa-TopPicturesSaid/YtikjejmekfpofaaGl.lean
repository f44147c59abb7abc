/- A cheapest plan between masses. Conditions: in each contract. -/
import Derived.Test.YtikjejmekfpofaaGk
import Derived.Test.YtikjejmekfpofaaP1
namespace Go.Proofs.Ytikjejmekfpofaa
open Go.RowKit Go.VS Go.OT
set_option linter.unusedSimpArgs false
set_option linter.unusedVariables false

@[push_cast] def cheapCon : Con := ⟨[.dat (.sl .int), .dat (.sl .int), .dat (.sl (.sl .int))], fun (x : List Int × List Int × List (List Int) × Unit) => MC x.1 x.2.1 x.2.2.1,
  fun (x : List Int × List Int × List (List Int) × Unit) => { res := [.own (.deep 22 3 .int (cheapV x.1 x.2.1 x.2.2.1))] }⟩

/-- What holds of the plan on the way. -/
structure ItI (a b : List Int) (c : List (List Int)) (y : Nat × List (List Int) × Bool) : Prop where
  go : y.2.2 = true → iterV a b c y.1 y.2.1 = cheapV a b c ∧ ∃ V, Way2 a b c y.2.1 V ∧ sumL a - units a.length b.length (gt y.2.1) < y.1
  stop : y.2.2 = false → y.2.1 = cheapV a b c

theorem cheap_spec : FnSpec Try.prog 19 cheapCon := by
  refine FnSpec.of_tri' (E := know [(33, emptyCon), (34, nextCon)] [] [] []) (know_ok (all_cons empty_spec (all_cons next_spec all_nil)) all_nil all_nil) Try.func19 rfl rfl (by kernel_rfl) ?_
  intro C x hE hnl hfit hpre
  simp only [Try.ntmps19, Try.results19, maxLen, Nat.reduceSub, Nat.reducePow, Nat.reduceAdd, Int.cast_ofNat_Int, push_cast] at hnl hfit hpre ⊢
  obtain ⟨(a : List Int), (b : List Int), (c : List (List Int)), _⟩ := x
  dsimp only at hfit hpre ⊢
  have ha5 := hpre.a5
  have hb5 := hpre.b5
  repeat' (first|(refine goK (by assumption) ?_; iterate 4 (try clear hK K))|(refine tri_seqk fun K hK => ?_)|((first|refine tri_region hE rfl ?_|refine tri_ret ?_); simp +contextual only [hnl, ↓kN, ↓kP, ↓kG, ↓qN, ↓qP, ↓qG, push_cast, Int.reduceEq, Int.reduceLT, Int.reduceLE, Int.reduceNeg, Nat.reduceLT, Nat.reduceLeDiff, Int.reduceToNat, Int.cast_ofNat_Int, Nat.reduceBEq, Nat.reduceMul, Nat.reduceEqDiff, reduceCtorEq, Nat.reduceAdd])|refine tri_block ?_|((first|refine tri_skip ?_|refine tri_exit ?_); simp only [thenQ, blockQ, if_true, if_false, Nat.reduceEqDiff, reduceCtorEq])|(refine tri_cond (by rfl) (fun hb => ?_) (fun hb => ?_) <;> (try simp only [decide_eq_true_eq, decide_eq_false_iff_not, Bool.not_eq_true', Bool.not_eq_false', reduceCtorEq, Bool.true_eq_false, Bool.false_eq_true] at hb) <;> (try omega))|refine tri_unk (by rfl) ?_ ?_|refine And.intro (by first|omega|(unfold InR; omega)|assumption|decide|exact ⟨_, _, rfl⟩) ?_|(refine ⟨fun hc => ?_, fun hc => ?_⟩)|(intro hc; try omega))
  refine tri_loopI (fun y : Nat × List (List Int) × Bool => AS.of [(0, .one (.val (.sl .int) a)), (1, .one (.val (.sl .int) b)), (2, .one (.val (.sl (.sl .int)) c)), (7, .one (.ref 11)), (8, .one (.val .bool y.2.2))] [(11, .deep 22 3 .int y.2.1)] [])
    (ItI a b c) (fun y => 2 * y.1 + if y.2.2 = true then 1 else 0) ((sumL a).toNat + 1, emptyV a b, true) ⟨fun _ => ⟨rfl, 0, hpre.start, by rw [gt_empty, units_zero]; dsimp only; omega⟩, fun h => Bool.noConfusion h⟩ ?_ ?_
  · refine weak_of ?_ ?_ ?_ <;> simp only [push_cast, Int.reduceEq, Int.reduceLT, Int.reduceLE, Int.reduceNeg, Nat.reduceLT, Nat.reduceLeDiff, Int.reduceToNat, Int.cast_ofNat_Int, Nat.reduceBEq, Nat.reduceMul, Nat.reduceEqDiff, reduceCtorEq, Nat.reduceAdd]
    exact .inl rfl
  intro y hI K' hL
  obtain ⟨n, p, more⟩ := y
  cases more with
  | false =>
    have hp := hI.stop rfl
    dsimp only at hp ⊢
    subst hp
    repeat' (first|(refine goK (by assumption) ?_; iterate 4 (try clear hK K))|(refine tri_seqk fun K hK => ?_)|((first|refine tri_region hE rfl ?_|refine tri_ret ?_); simp +contextual only [hnl, ↓kN, ↓kP, ↓kG, ↓qN, ↓qP, ↓qG, push_cast, Int.reduceEq, Int.reduceLT, Int.reduceLE, Int.reduceNeg, Nat.reduceLT, Nat.reduceLeDiff, Int.reduceToNat, Int.cast_ofNat_Int, Nat.reduceBEq, Nat.reduceMul, Nat.reduceEqDiff, reduceCtorEq, Nat.reduceAdd])|refine tri_block ?_|((first|refine tri_skip ?_|refine tri_exit ?_); simp only [thenQ, blockQ, if_true, if_false, Nat.reduceEqDiff, reduceCtorEq])|(refine tri_cond (by rfl) (fun hb => ?_) (fun hb => ?_) <;> (try simp only [decide_eq_true_eq, decide_eq_false_iff_not, Bool.not_eq_true', Bool.not_eq_false', reduceCtorEq, Bool.true_eq_false, Bool.false_eq_true] at hb) <;> (try omega))|refine tri_unk (by rfl) ?_ ?_|refine And.intro (by first|omega|(unfold InR; omega)|assumption|decide|exact ⟨_, _, rfl⟩) ?_|(refine ⟨fun hc => ?_, fun hc => ?_⟩)|(intro hc; try omega))
  | true =>
    obtain ⟨h1, V, h2, h3⟩ := hI.go rfl
    dsimp only at h1 h2 h3 ⊢
    have hends : (nextP a b c p).isSome = true := by
      by_cases hb : bestV a b c p < 0
      · rw [(next_end hpre.hc h2 hb).1]; rfl
      · obtain ⟨p', h4, _⟩ := next_more hpre.hc h2 hb
        rw [h4]; rfl
    have hpre2 : NextPre a b c (.deep 22 3 .int p) := ⟨by rw [deepI_deep], by rw [deepI_deep]; exact h2.shp, hpre.hc, by rw [deepI_deep]; exact hends⟩
    repeat' (first|(refine goK (by assumption) ?_; iterate 4 (try clear hK K))|(refine tri_seqk fun K hK => ?_)|((first|refine tri_region hE rfl ?_|refine tri_ret ?_); simp +contextual only [hnl, ↓kN, ↓kP, ↓kG, ↓qN, ↓qP, ↓qG, push_cast, Int.reduceEq, Int.reduceLT, Int.reduceLE, Int.reduceNeg, Nat.reduceLT, Nat.reduceLeDiff, Int.reduceToNat, Int.cast_ofNat_Int, Nat.reduceBEq, Nat.reduceMul, Nat.reduceEqDiff, reduceCtorEq, Nat.reduceAdd])|refine tri_block ?_|((first|refine tri_skip ?_|refine tri_exit ?_); simp only [thenQ, blockQ, if_true, if_false, Nat.reduceEqDiff, reduceCtorEq])|(refine tri_cond (by rfl) (fun hb => ?_) (fun hb => ?_) <;> (try simp only [decide_eq_true_eq, decide_eq_false_iff_not, Bool.not_eq_true', Bool.not_eq_false', reduceCtorEq, Bool.true_eq_false, Bool.false_eq_true] at hb) <;> (try omega))|refine tri_unk (by rfl) ?_ ?_|refine And.intro (by first|omega|(unfold InR; omega)|assumption|decide|exact ⟨_, _, rfl⟩) ?_|(refine ⟨fun hc => ?_, fun hc => ?_⟩)|(intro hc; try omega))
    have hu := h2.part.units_le
    obtain ⟨m, rfl⟩ : ∃ m, n = m + 1 := ⟨n - 1, by omega⟩
    by_cases hb0 : bestV a b c p < 0
    · obtain ⟨e1, _, _⟩ := next_end hpre.hc h2 hb0
      have e2 : p = cheapV a b c := by
        rw [← h1]
        exact (if_pos hb0).symm
      refine hL _ (m + 1, p, false) ⟨fun h => Bool.noConfusion h, fun _ => e2⟩ (by simp) ?_
      refine weak_of ?_ ?_ ?_ <;> simp only [push_cast, Int.reduceEq, Int.reduceLT, Int.reduceLE, Int.reduceNeg, Nat.reduceLT, Nat.reduceLeDiff, Int.reduceToNat, Int.cast_ofNat_Int, Nat.reduceBEq, Nat.reduceMul, Nat.reduceEqDiff, reduceCtorEq, Nat.reduceAdd]
      · first | omega | exact Int.not_le.2 hb0 | exact hb0
      · rw [e1]
        exact .inl rfl
    · obtain ⟨p', e1, e2, e3, e4, e5, e6, e7⟩ := next_more hpre.hc h2 hb0
      have e8 : iterV a b c m p' = cheapV a b c := by
        rw [← h1]
        show _ = (if _ then _ else _)
        rw [if_neg hb0, e1]
        rfl
      refine hL _ (m, p', true) ⟨fun _ => ⟨e8, _, e2, by dsimp only; omega⟩, fun h => Bool.noConfusion h⟩ (by dsimp only; omega) ?_
      refine weak_of ?_ ?_ ?_ <;> simp only [push_cast, Int.reduceEq, Int.reduceLT, Int.reduceLE, Int.reduceNeg, Nat.reduceLT, Nat.reduceLeDiff, Int.reduceToNat, Int.cast_ofNat_Int, Nat.reduceBEq, Nat.reduceMul, Nat.reduceEqDiff, reduceCtorEq, Nat.reduceAdd]
      · omega
      · rw [e1]
        exact .inl rfl
end Go.Proofs.Ytikjejmekfpofaa
