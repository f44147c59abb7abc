/- What a unit more costs; the statement PriceNext. Conditions: in each contract. -/
import Derived.Test.YtpfkipccbgdkjacKe
namespace Go.Proofs.Ytpfkipccbgdkjac
open Go.RowKit Go.VS Go.OT
set_option linter.unusedSimpArgs false
set_option linter.unusedVariables false

def errNx (a b : List Int) (c : List (List Int)) (r k : Int) : Int :=
  if ¬ errFits a b c = 0 then errFits a b c else if ¬ (0 ≤ r ∧ r ≤ (a.length : Int) - 1) ∨ ¬ (0 ≤ k ∧ k ≤ (b.length : Int) - 1) then 4 else if a.getD r.toNat 0 = 30 ∨ b.getD k.toNat 0 = 30 then 3 else 0
def nxV (a b : List Int) (c : List (List Int)) (r k : Int) : Int := if errNx a b c r k = 0 then leastV (incr a r.toNat) (incr b k.toNat) c - leastV a b c else 0
section
variable {a b : List Int} {c : List (List Int)} {r k : Int}
theorem errNx_f (h : ¬ errFits a b c = 0) : errNx a b c r k = errFits a b c ∧ nxV a b c r k = 0 := by
  have h1 : errNx a b c r k = errFits a b c := if_pos h
  exact ⟨h1, if_neg (by rw [h1]; exact h)⟩
theorem errNx_4 (h : errFits a b c = 0) (h2 : ¬ (0 ≤ r ∧ r ≤ (a.length : Int) - 1) ∨ ¬ (0 ≤ k ∧ k ≤ (b.length : Int) - 1)) : errNx a b c r k = 4 ∧ nxV a b c r k = 0 := by
  have h1 : errNx a b c r k = 4 := by rw [errNx, if_neg (fun h3 => h3 h), if_pos h2]
  exact ⟨h1, if_neg (by omega)⟩
theorem errNx_3 (h : errFits a b c = 0) (h2 : ¬ (¬ (0 ≤ r ∧ r ≤ (a.length : Int) - 1) ∨ ¬ (0 ≤ k ∧ k ≤ (b.length : Int) - 1))) (h3 : a.getD r.toNat 0 = 30 ∨ b.getD k.toNat 0 = 30) : errNx a b c r k = 3 ∧ nxV a b c r k = 0 := by
  have h1 : errNx a b c r k = 3 := by rw [errNx, if_neg (fun h3 => h3 h), if_neg h2, if_pos h3]
  exact ⟨h1, if_neg (by omega)⟩
theorem errNx_0 (h : errFits a b c = 0) (h2 : ¬ (¬ (0 ≤ r ∧ r ≤ (a.length : Int) - 1) ∨ ¬ (0 ≤ k ∧ k ≤ (b.length : Int) - 1))) (h3 : ¬ (a.getD r.toNat 0 = 30 ∨ b.getD k.toNat 0 = 30)) : errNx a b c r k = 0 ∧ nxV a b c r k = leastV (incr a r.toNat) (incr b k.toNat) c - leastV a b c := by
  have h1 : errNx a b c r k = 0 := by rw [errNx, if_neg (fun h3 => h3 h), if_neg h2, if_neg h3]
  exact ⟨h1, if_pos h1⟩
end
abbrev NxArgs := List Int × List Int × List (List Int) × Int × Int × Unit
@[push_cast] def nxCon : Con := ⟨[.dat (.sl .int), .dat (.sl .int), .dat (.sl (.sl .int)), .dat .int, .dat .int], fun _ => True, fun (x : NxArgs) => { res := [.val .int (nxV x.1 x.2.1 x.2.2.1 x.2.2.2.1 x.2.2.2.2.1), .val .int (errNx x.1 x.2.1 x.2.2.1 x.2.2.2.1 x.2.2.2.2.1)] }⟩

theorem pnx_spec : FnSpec Try.prog 4 nxCon := by
  refine FnSpec.of_tri' (E := know [(7, leastCon), (19, withinCon), (20, cloneCon)] [] [] []) (know_ok (all_cons pleast_spec (all_cons pwithin_spec (all_cons clone_spec all_nil))) all_nil all_nil) Try.func4 rfl rfl (by kernel_rfl) ?_
  intro C x hE hnl hfit hpre
  simp only [Try.ntmps4, Try.results4, maxLen, Nat.reduceSub, Nat.reducePow, Nat.reduceAdd, Int.cast_ofNat_Int, push_cast] at hnl hfit hpre ⊢
  obtain ⟨(a : List Int), (b : List Int), (c : List (List Int)), (r : Int), (k : Int), _⟩ := x
  dsimp only at hfit hpre ⊢
  by_cases hf : errFits a b c = 0
  · obtain ⟨d1, d2, d3, d4, d5, d6⟩ := fits_dims hf
    have hal := okMass_len d4
    have hbl := okMass_len d5
    have hb0 := least_bnd hf
    by_cases h2 : ¬ (0 ≤ r ∧ r ≤ (a.length : Int) - 1) ∨ ¬ (0 ≤ k ∧ k ≤ (b.length : Int) - 1)
    · obtain ⟨e1, e2⟩ := errNx_4 hf h2
      replace hnl := And.intro hnl (And.intro hf (And.intro e1 e2))
      repeat' (first|(refine goK (by assumption) ?_; iterate 4 (try clear hK K))|(refine tri_seqk fun K hK => ?_)|((first|refine tri_region hE rfl ?_|refine tri_ret ?_); simp +contextual only [hnl, ↓kN, ↓kP, ↓kG, ↓qN, ↓qP, ↓qG, push_cast, Int.reduceEq, Int.reduceLT, Int.reduceLE, Int.reduceNeg, Nat.reduceLT, Nat.reduceLeDiff, Int.reduceToNat, Int.cast_ofNat_Int, Nat.reduceBEq, Nat.reduceMul, Nat.reduceEqDiff, reduceCtorEq, Nat.reduceAdd])|refine tri_block ?_|((first|refine tri_skip ?_|refine tri_exit ?_); simp only [thenQ, blockQ, if_true, if_false, Nat.reduceEqDiff, reduceCtorEq])|(refine tri_cond (by rfl) (fun hb => ?_) (fun hb => ?_) <;> (try simp only [decide_eq_true_eq, decide_eq_false_iff_not, Bool.not_eq_true', Bool.not_eq_false', reduceCtorEq, Bool.true_eq_false, Bool.false_eq_true] at hb) <;> (try omega))|refine tri_unk (by rfl) ?_ ?_|refine And.intro (by first|omega|(unfold InR; omega)|assumption|decide|exact ⟨_, _, rfl⟩) ?_|(refine ⟨fun hc => ?_, fun hc => ?_⟩)|(intro hc; try omega))
    · obtain ⟨r, rfl⟩ := Int.eq_ofNat_of_zero_le (by omega : 0 ≤ r)
      obtain ⟨k, rfl⟩ := Int.eq_ofNat_of_zero_le (by omega : 0 ≤ k)
      have hr : r < a.length := by omega
      have hk : k < b.length := by omega
      have ha30 := okMass_at d4 hr
      have hb30 := okMass_at d5 hk
      have g6 : (a.set r (a.getD r 0 + 1)).getD r 0 = a.getD r 0 + 1 := by rw [Go.OT.ga_set hr, if_pos rfl]
      have g7 : (b.set k (b.getD k 0 + 1)).getD k 0 = b.getD k 0 + 1 := by rw [Go.OT.ga_set hk, if_pos rfl]
      have l6 : (a.set r (a.getD r 0 + 1)).length = a.length := List.length_set
      have l7 : (b.set k (b.getD k 0 + 1)).length = b.length := List.length_set
      unfold ga at ha30 hb30
      by_cases h3 : a.getD r 0 = 30 ∨ b.getD k 0 = 30
      · obtain ⟨e1, e2⟩ := errNx_3 hf h2 h3
        replace hnl := And.intro hnl (And.intro hf (And.intro e1 (And.intro e2 (And.intro g6 (And.intro g7 (And.intro l6 l7))))))
        repeat' (first|(refine goK (by assumption) ?_; iterate 4 (try clear hK K))|(refine tri_seqk fun K hK => ?_)|((first|refine tri_region hE rfl ?_|refine tri_ret ?_); simp +contextual only [hnl, ↓kN, ↓kP, ↓kG, ↓qN, ↓qP, ↓qG, push_cast, Int.reduceEq, Int.reduceLT, Int.reduceLE, Int.reduceNeg, Nat.reduceLT, Nat.reduceLeDiff, Int.reduceToNat, Int.cast_ofNat_Int, Nat.reduceBEq, Nat.reduceMul, Nat.reduceEqDiff, reduceCtorEq, Nat.reduceAdd])|refine tri_block ?_|((first|refine tri_skip ?_|refine tri_exit ?_); simp only [thenQ, blockQ, if_true, if_false, Nat.reduceEqDiff, reduceCtorEq])|(refine tri_cond (by rfl) (fun hb => ?_) (fun hb => ?_) <;> (try simp only [decide_eq_true_eq, decide_eq_false_iff_not, Bool.not_eq_true', Bool.not_eq_false', reduceCtorEq, Bool.true_eq_false, Bool.false_eq_true] at hb) <;> (try omega))|refine tri_unk (by rfl) ?_ ?_|refine And.intro (by first|omega|(unfold InR; omega)|assumption|decide|exact ⟨_, _, rfl⟩) ?_|(refine ⟨fun hc => ?_, fun hc => ?_⟩)|(intro hc; try omega))
      · obtain ⟨e1, e2⟩ := errNx_0 hf h2 h3
        have hf' := incr_fits hf hr hk (fun h => h3 (.inl h)) (fun h => h3 (.inr h))
        have hb1 := least_bnd hf'
        have e3 : errFits (a.set r (a.getD r 0 + 1)) (b.set k (b.getD k 0 + 1)) c = 0 := hf'
        have e4 : leastV (incr a ((r : Nat) : Int).toNat) (incr b ((k : Nat) : Int).toNat) c = leastV (a.set r (a.getD r 0 + 1)) (b.set k (b.getD k 0 + 1)) c := rfl
        rw [e4] at e2
        have hb1' : 0 ≤ leastV (a.set r (a.getD r 0 + 1)) (b.set k (b.getD k 0 + 1)) c ∧ leastV (a.set r (a.getD r 0 + 1)) (b.set k (b.getD k 0 + 1)) c ≤ 7200000000 := hb1
        replace hnl := And.intro hnl (And.intro hf (And.intro e1 (And.intro e2 (And.intro g6 (And.intro g7 (And.intro l6 (And.intro l7 e3)))))))
        repeat' (first|(refine goK (by assumption) ?_; iterate 4 (try clear hK K))|(refine tri_seqk fun K hK => ?_)|((first|refine tri_region hE rfl ?_|refine tri_ret ?_); simp +contextual only [hnl, ↓kN, ↓kP, ↓kG, ↓qN, ↓qP, ↓qG, push_cast, Int.reduceEq, Int.reduceLT, Int.reduceLE, Int.reduceNeg, Nat.reduceLT, Nat.reduceLeDiff, Int.reduceToNat, Int.cast_ofNat_Int, Nat.reduceBEq, Nat.reduceMul, Nat.reduceEqDiff, reduceCtorEq, Nat.reduceAdd])|refine tri_block ?_|((first|refine tri_skip ?_|refine tri_exit ?_); simp only [thenQ, blockQ, if_true, if_false, Nat.reduceEqDiff, reduceCtorEq])|(refine tri_cond (by rfl) (fun hb => ?_) (fun hb => ?_) <;> (try simp only [decide_eq_true_eq, decide_eq_false_iff_not, Bool.not_eq_true', Bool.not_eq_false', reduceCtorEq, Bool.true_eq_false, Bool.false_eq_true] at hb) <;> (try omega))|refine tri_unk (by rfl) ?_ ?_|refine And.intro (by first|omega|(unfold InR; omega)|assumption|decide|exact ⟨_, _, rfl⟩) ?_|(refine ⟨fun hc => ?_, fun hc => ?_⟩)|(intro hc; try omega))
  · obtain ⟨e1, e2⟩ := errNx_f (r := r) (k := k) hf
    replace hnl := And.intro hnl (And.intro e1 e2)
    repeat' (first|(refine goK (by assumption) ?_; iterate 4 (try clear hK K))|(refine tri_seqk fun K hK => ?_)|((first|refine tri_region hE rfl ?_|refine tri_ret ?_); simp +contextual only [hnl, ↓kN, ↓kP, ↓kG, ↓qN, ↓qP, ↓qG, push_cast, Int.reduceEq, Int.reduceLT, Int.reduceLE, Int.reduceNeg, Nat.reduceLT, Nat.reduceLeDiff, Int.reduceToNat, Int.cast_ofNat_Int, Nat.reduceBEq, Nat.reduceMul, Nat.reduceEqDiff, reduceCtorEq, Nat.reduceAdd])|refine tri_block ?_|((first|refine tri_skip ?_|refine tri_exit ?_); simp only [thenQ, blockQ, if_true, if_false, Nat.reduceEqDiff, reduceCtorEq])|(refine tri_cond (by rfl) (fun hb => ?_) (fun hb => ?_) <;> (try simp only [decide_eq_true_eq, decide_eq_false_iff_not, Bool.not_eq_true', Bool.not_eq_false', reduceCtorEq, Bool.true_eq_false, Bool.false_eq_true] at hb) <;> (try omega))|refine tri_unk (by rfl) ?_ ?_|refine And.intro (by first|omega|(unfold InR; omega)|assumption|decide|exact ⟨_, _, rfl⟩) ?_|(refine ⟨fun hc => ?_, fun hc => ?_⟩)|(intro hc; try omega))

end Go.Proofs.Ytpfkipccbgdkjac
