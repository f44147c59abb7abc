/- The statement MassProducts: for every two lists. No condition. -/
import Derived.Test.YtnicofjegkkppaaFh
import Derived.Test.YtnicofjegkkppaaFt
namespace Go.Proofs.Ytnicofjegkkppaa
open Go.RowKit Go.VS
set_option linter.unusedSimpArgs false
set_option linter.unusedVariables false

@[push_cast] def trueCon2 : Con := ⟨[.dat (.sl .int), .dat (.sl .int)], fun _ => True, fun _ => { res := [.val .bool true] }⟩

theorem nsum_lsum (c : Nat) (l : List Int) (h : ∀ x ∈ l, 0 ≤ x) : ∀ n, n ≤ l.length → ((nsum (fun k => (c * l.getD k 0 : Int).toNat) n : Nat) : Int) = c * lsum (l.take n)
  | 0, _ => by simp [nsum, lsum]
  | n + 1, hn => by
    have h1 := nsum_lsum c l h n (by omega)
    have h2 := h _ (getD_mem 0 (show n < l.length by omega))
    have h3 : 0 ≤ (c : Int) * l.getD n 0 := Int.mul_nonneg (by omega) h2
    rw [lsum_take _ _ (by omega), Int.mul_add, ← h1]
    simp only [nsum, Int.natCast_add]
    rw [Int.toNat_of_nonneg h3]

theorem prod_adds {a b : List Int} (h : errProd a b = 0) : ∃ N A B L, AddsUp (prodT a b) a b N A B L := by
  obtain ⟨hp, hz⟩ := errProd_in h
  obtain ⟨oa, ob, hs⟩ := errPair_ok hp
  have la := okMass_len oa
  have lb := okMass_len ob
  have sa := mass_sum oa
  have ma := okMass_mem oa
  have mb := okMass_mem ob
  have hL : ((lsum a).toNat : Int) = lsum a := by omega
  refine ⟨fun i k => (a.getD i 0 * b.getD k 0).toNat, fun i => (a.getD i 0).toNat, fun k => (b.getD k 0).toNat, (lsum a).toNat, by omega, by omega, la.2, lb.2, rfl, fun i hi => ?_, fun k hk => ?_⟩
  · have h1 := ma _ (getD_mem 0 hi)
    obtain ⟨c, hc⟩ : ∃ c : Nat, a.getD i 0 = (c : Int) := ⟨(a.getD i 0).toNat, by omega⟩
    refine ⟨by omega, by omega, ?_⟩
    have h2 := nsum_lsum c b (fun x hx => (mb x hx).1) b.length (Nat.le_refl _)
    rw [List.take_of_length_le (Nat.le_refl _), ← hs, ← hL, ← Int.natCast_mul] at h2
    rw [hc, Int.toNat_natCast]
    exact Int.ofNat_inj.1 h2
  · have h1 := mb _ (getD_mem 0 hk)
    obtain ⟨c, hc⟩ : ∃ c : Nat, b.getD k 0 = (c : Int) := ⟨(b.getD k 0).toNat, by omega⟩
    refine ⟨by omega, by omega, ?_⟩
    have h2 := nsum_lsum c a (fun x hx => (ma x hx).1) a.length (Nat.le_refl _)
    rw [List.take_of_length_le (Nat.le_refl _), ← hL, ← Int.natCast_mul] at h2
    rw [hc, Int.toNat_natCast]
    have e : (fun i => (a.getD i 0 * (c : Int)).toNat) = fun i => ((c : Int) * a.getD i 0).toNat := funext fun i => by rw [Int.mul_comm]
    rw [e]
    exact Int.ofNat_inj.1 h2

theorem products_fn : FnSpec Try.prog 5 trueCon2 := by
  refine FnSpec.of_tri' (E := know [(16, manyCon), (17, knownCon), (24, productCon), (25, productCon), (26, sameRCon), (27, addsCon)] [] [] []) (know_ok (all_cons many_spec (all_cons known_spec (all_cons product_spec (all_cons rproduct_spec (all_cons sameR_spec (all_cons adds_spec all_nil)))))) all_nil all_nil) Try.func5 rfl rfl (by kernel_rfl) ?_
  intro C x hE hnl hfit hpre
  simp only [Try.ntmps5, Try.results5, maxLen, Nat.reduceSub, Nat.reducePow, Nat.reduceAdd, Int.cast_ofNat_Int, push_cast] at hnl hfit hpre ⊢
  obtain ⟨(a : List Int), (b : List Int), _⟩ := x
  dsimp only at hfit hpre ⊢
  by_cases he : errProd a b = 0
  · have hA := prod_adds he
    replace hnl := And.intro hnl he
    repeat' (first | (refine goK (by assumption) ?_; iterate 4 (try clear hK K)) | (refine tri_seqk fun K hK => ?_) | ((first | (refine tri_region hE rfl ?_) | ((first | (refine tri_drawP hE 1 rfl rfl (by kernel_rfl) ?_) | (refine tri_drawP hE 2 rfl rfl (by kernel_rfl) ?_) | (refine tri_drawP hE 3 rfl rfl (by kernel_rfl) ?_) | (refine tri_drawP hE 4 rfl rfl (by kernel_rfl) ?_)); simp only [List.length_cons, List.length_nil, Nat.reduceAdd, Nat.reduceSub, List.take_succ_cons, List.take_zero, List.drop_succ_cons, List.drop_zero])); simp +contextual only [hnl, ↓runK_nil, ↓runK_plain, ↓runK_guard, ↓runQ_nil, ↓runQ_plain, ↓runQ_guard, push_cast, exists_eq_left', Int.reduceEq, Int.reduceLT, Int.reduceLE, Int.reduceNeg, Nat.reduceLT, Nat.reduceLeDiff, Int.reduceToNat, Int.cast_ofNat_Int, Nat.reduceBEq, Nat.reduceMul, Nat.reduceEqDiff, reduceCtorEq, Nat.reduceAdd]) | (refine tri_block ?_) | (refine tri_skip ?_; simp only [thenQ, blockQ, if_true, if_false, Nat.reduceEqDiff, reduceCtorEq]) | (refine tri_exit ?_; simp only [thenQ, blockQ, if_true, if_false, Nat.reduceEqDiff, reduceCtorEq]) | (refine tri_cond (by simp only [push_cast, exists_eq_left', Int.reduceEq, Int.reduceLT, Int.reduceLE, Int.reduceNeg, Nat.reduceLT, Nat.reduceLeDiff, Int.reduceToNat, Int.cast_ofNat_Int, Nat.reduceBEq, Nat.reduceMul, Nat.reduceEqDiff, reduceCtorEq, Nat.reduceAdd]; rfl) (fun hb => ?_) (fun hb => ?_) <;> (try simp only [decide_eq_true_eq, decide_eq_false_iff_not, Bool.not_eq_true', Bool.not_eq_false', reduceCtorEq, Bool.true_eq_false, Bool.false_eq_true] at hb) <;> (try omega)) | (refine tri_unk (by simp only [push_cast, exists_eq_left', Int.reduceEq, Int.reduceLT, Int.reduceLE, Int.reduceNeg, Nat.reduceLT, Nat.reduceLeDiff, Int.reduceToNat, Int.cast_ofNat_Int, Nat.reduceBEq, Nat.reduceMul, Nat.reduceEqDiff, reduceCtorEq, Nat.reduceAdd]) ?_ ?_) | (refine tri_ret ?_; simp only [hnl, push_cast, exists_eq_left', Int.reduceEq, Int.reduceLT, Int.reduceLE, Int.reduceNeg, Nat.reduceLT, Nat.reduceLeDiff, Int.reduceToNat, Int.cast_ofNat_Int, Nat.reduceBEq, Nat.reduceMul, Nat.reduceEqDiff, reduceCtorEq, Nat.reduceAdd]) | (refine And.intro (by first | omega | (unfold InR; omega) | assumption | decide | exact ⟨_, _, rfl⟩) ?_) | (refine ⟨fun hc => ?_, fun hc => ?_⟩) | (intro hc; try omega))
  · replace hnl := And.intro hnl he
    repeat' (first | (refine goK (by assumption) ?_; iterate 4 (try clear hK K)) | (refine tri_seqk fun K hK => ?_) | ((first | (refine tri_region hE rfl ?_) | ((first | (refine tri_drawP hE 1 rfl rfl (by kernel_rfl) ?_) | (refine tri_drawP hE 2 rfl rfl (by kernel_rfl) ?_) | (refine tri_drawP hE 3 rfl rfl (by kernel_rfl) ?_) | (refine tri_drawP hE 4 rfl rfl (by kernel_rfl) ?_)); simp only [List.length_cons, List.length_nil, Nat.reduceAdd, Nat.reduceSub, List.take_succ_cons, List.take_zero, List.drop_succ_cons, List.drop_zero])); simp +contextual only [hnl, ↓runK_nil, ↓runK_plain, ↓runK_guard, ↓runQ_nil, ↓runQ_plain, ↓runQ_guard, push_cast, exists_eq_left', Int.reduceEq, Int.reduceLT, Int.reduceLE, Int.reduceNeg, Nat.reduceLT, Nat.reduceLeDiff, Int.reduceToNat, Int.cast_ofNat_Int, Nat.reduceBEq, Nat.reduceMul, Nat.reduceEqDiff, reduceCtorEq, Nat.reduceAdd]) | (refine tri_block ?_) | (refine tri_skip ?_; simp only [thenQ, blockQ, if_true, if_false, Nat.reduceEqDiff, reduceCtorEq]) | (refine tri_exit ?_; simp only [thenQ, blockQ, if_true, if_false, Nat.reduceEqDiff, reduceCtorEq]) | (refine tri_cond (by simp only [push_cast, exists_eq_left', Int.reduceEq, Int.reduceLT, Int.reduceLE, Int.reduceNeg, Nat.reduceLT, Nat.reduceLeDiff, Int.reduceToNat, Int.cast_ofNat_Int, Nat.reduceBEq, Nat.reduceMul, Nat.reduceEqDiff, reduceCtorEq, Nat.reduceAdd]; rfl) (fun hb => ?_) (fun hb => ?_) <;> (try simp only [decide_eq_true_eq, decide_eq_false_iff_not, Bool.not_eq_true', Bool.not_eq_false', reduceCtorEq, Bool.true_eq_false, Bool.false_eq_true] at hb) <;> (try omega)) | (refine tri_unk (by simp only [push_cast, exists_eq_left', Int.reduceEq, Int.reduceLT, Int.reduceLE, Int.reduceNeg, Nat.reduceLT, Nat.reduceLeDiff, Int.reduceToNat, Int.cast_ofNat_Int, Nat.reduceBEq, Nat.reduceMul, Nat.reduceEqDiff, reduceCtorEq, Nat.reduceAdd]) ?_ ?_) | (refine tri_ret ?_; simp only [hnl, push_cast, exists_eq_left', Int.reduceEq, Int.reduceLT, Int.reduceLE, Int.reduceNeg, Nat.reduceLT, Nat.reduceLeDiff, Int.reduceToNat, Int.cast_ofNat_Int, Nat.reduceBEq, Nat.reduceMul, Nat.reduceEqDiff, reduceCtorEq, Nat.reduceAdd]) | (refine And.intro (by first | omega | (unfold InR; omega) | assumption | decide | exact ⟨_, _, rfl⟩) ?_) | (refine ⟨fun hc => ?_, fun hc => ?_⟩) | (intro hc; try omega))
end Go.Proofs.Ytnicofjegkkppaa
