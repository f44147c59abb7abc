/- Cost tables, costs of plans, copies, what a plan leaves. Conditions: in each contract. -/
import Derived.Test.YtikjejmekfpofaaG1
import Derived.Test.YtikjejmekfpofaaP1
namespace Go.Proofs.Ytikjejmekfpofaa
open Go.RowKit Go.VS
set_option linter.unusedSimpArgs false
set_option linter.unusedVariables false

/-- A list has n numbers from lo to hi. -/
def InL (n lo hi : Int) (l : List Int) : Prop := l.length = n ∧ ∀ x ∈ l, lo ≤ x ∧ x ≤ hi
instance (n lo hi : Int) (l : List Int) : Decidable (InL n lo hi l) := by unfold InL; infer_instance

structure InTab (lo hi : Int) (p : List (List Int)) : Prop where
  rows : 1 ≤ p.length ∧ p.length ≤ 5
  cols : 1 ≤ wid p ∧ wid p ≤ 5
  row : ∀ r ∈ p, InL (wid p) lo hi r
theorem inTab_iff {lo hi : Int} {p : List (List Int)} : InTab lo hi p ↔ ((1 ≤ p.length ∧ p.length ≤ 5) ∧ (1 ≤ wid p ∧ wid p ≤ 5) ∧ ∀ r ∈ p, InL (wid p) lo hi r) := ⟨fun ⟨a, b, c⟩ => ⟨a, b, c⟩, fun ⟨a, b, c⟩ => ⟨a, b, c⟩⟩
instance (lo hi : Int) (p : List (List Int)) : Decidable (InTab lo hi p) := decidable_of_iff _ inTab_iff.symm

theorem InTab.len {lo hi : Int} {p : List (List Int)} (h : InTab lo hi p) {i : Nat} (hi : i < p.length) : (p.getD i []).length = wid p := by
  have := (h.row _ (getD_mem [] hi)).1
  omega
theorem InTab.at {lo hi : Int} {p : List (List Int)} (h : InTab lo hi p) {i j : Nat} (h1 : i < p.length) (h2 : j < wid p) : lo ≤ (p.getD i []).getD j 0 ∧ (p.getD i []).getD j 0 ≤ hi :=
  (h.row _ (getD_mem [] h1)).2 _ (getD_mem 0 (by rw [h.len h1]; exact h2))

theorem inTab_of {lo hi : Int} {p : List (List Int)} (h1 : 1 ≤ p.length ∧ p.length ≤ 5) (h2 : 1 ≤ wid p ∧ wid p ≤ 5) (h : ∀ i, i < p.length → (p.getD i []).length = wid p ∧ ∀ j, j < wid p → lo ≤ (p.getD i []).getD j 0 ∧ (p.getD i []).getD j 0 ≤ hi) : InTab lo hi p := by
  refine ⟨h1, h2, fun r hr => ?_⟩
  obtain ⟨i, hi, rfl⟩ := List.getElem_of_mem hr
  have e : p.getD i [] = p[i] := by rw [List.getD_eq_getElem?_getD, List.getElem?_eq_getElem hi]; rfl
  have := h i hi
  rw [e] at this
  refine ⟨by rw [this.1], fun x hx => ?_⟩
  obtain ⟨j, hj, rfl⟩ := List.getElem_of_mem hx
  have h3 := this.2 j (by rw [← this.1]; exact hj)
  rwa [List.getD_eq_getElem?_getD, List.getElem?_eq_getElem hj] at h3

def errCost (p : List (List Int)) : Int := if InTab 0 99 p then 0 else 1
theorem errCost_0 {p : List (List Int)} (h : InTab 0 99 p) : errCost p = 0 := if_pos h
theorem errCost_1 {p : List (List Int)} (h : ¬ InTab 0 99 p) : errCost p = 1 := if_neg h
theorem errCost_in {p : List (List Int)} (h : errCost p = 0) : InTab 0 99 p := by
  by_cases h2 : InTab 0 99 p
  · exact h2
  · rw [errCost_1 h2] at h; omega
theorem errCost_01 (p : List (List Int)) : errCost p = 0 ∨ errCost p = 1 := by
  unfold errCost
  split <;> simp

@[push_cast] def allClo : Clo := ⟨[.int, .int], [.int], .bool, fun _ _ => True, fun (y : Int × Int × Unit) (x : Int × Unit) => !decide (y.1 ≤ x.1 ∧ x.1 ≤ y.2.1)⟩
@[push_cast] def all1Con : Con := ⟨[.dat .int, .ptr .int, .ptr .int], fun _ => True, fun (x : Int × Int × Int × Unit) => { res := [.val .bool (!decide (x.2.1 ≤ x.1 ∧ x.1 ≤ x.2.2.1))] }⟩
@[push_cast] def allCon : Con := ⟨[.dat (.sl .int), .dat .int, .dat .int, .dat .int], fun _ => True, fun (x : List Int × Int × Int × Int × Unit) => { res := [.val .bool (decide (InL x.2.1 x.2.2.1 x.2.2.2.1 x.1))] }⟩
@[push_cast] def costCon : Con := ⟨[.dat (.sl (.sl .int))], fun _ => True, fun (x : List (List Int) × Unit) => { res := [.val .int (errCost x.1)] }⟩
@[push_cast] def isTabCon : Con := ⟨[.dat (.sl (.sl .int)), .dat .int, .dat .int], fun _ => True, fun (x : List (List Int) × Int × Int × Unit) => { res := [.val .bool (decide (InTab x.2.1 x.2.2.1 x.1))] }⟩

theorem all1_fn : FnSpec Try.prog 29 all1Con := by
  refine FnSpec.of_tri' (E := know [(16, withinCon)] [] [] []) (know_ok (all_cons pwithin_spec all_nil) all_nil all_nil) Try.func29 rfl rfl (by kernel_rfl) ?_
  intro C x hE hnl hfit hpre
  simp only [Try.ntmps29, Try.results29, maxLen, Nat.reduceSub, Nat.reducePow, Nat.reduceAdd, Int.cast_ofNat_Int, push_cast] at hnl hfit hpre ⊢
  obtain ⟨(n : Int), (lo : Int), (hi : Int), _⟩ := x
  dsimp only at hfit hpre ⊢
  repeat' (first|(refine goK (by assumption) ?_; iterate 4 (try clear hK K))|(refine tri_seqk fun K hK => ?_)|((first|refine tri_region hE rfl ?_|refine tri_ret ?_); simp +contextual only [hnl, ↓kN, ↓kP, ↓kG, ↓qN, ↓qP, ↓qG, push_cast, Int.reduceEq, Int.reduceLT, Int.reduceLE, Int.reduceNeg, Nat.reduceLT, Nat.reduceLeDiff, Int.reduceToNat, Int.cast_ofNat_Int, Nat.reduceBEq, Nat.reduceMul, Nat.reduceEqDiff, reduceCtorEq, Nat.reduceAdd])|refine tri_block ?_|((first|refine tri_skip ?_|refine tri_exit ?_); simp only [thenQ, blockQ, if_true, if_false, Nat.reduceEqDiff, reduceCtorEq])|(refine tri_cond (by rfl) (fun hb => ?_) (fun hb => ?_) <;> (try simp only [decide_eq_true_eq, decide_eq_false_iff_not, Bool.not_eq_true', Bool.not_eq_false', reduceCtorEq, Bool.true_eq_false, Bool.false_eq_true] at hb) <;> (try omega))|refine tri_unk (by rfl) ?_ ?_|refine And.intro (by first|omega|(unfold InR; omega)|assumption|decide|exact ⟨_, _, rfl⟩) ?_|(refine ⟨fun hc => ?_, fun hc => ?_⟩)|(intro hc; try omega))
  all_goals first | omega | (simp only [decide_eq_decide]; omega) | (simp only [hc, decide_true, decide_false, Bool.true_or, Bool.false_or]; done) | (simp; done) | (simp; omega) | (simp [*]; done) | (simp [*]; omega)
theorem all1_spec : CloSpec Try.prog 29 allClo := CloSpec.of all1_fn

theorem inL_any {n lo hi : Int} {l : List Int} (h : (l.length : Int) = n) : (!l.any fun y => !decide (lo ≤ y ∧ y ≤ hi)) = decide (InL n lo hi l) := by
  by_cases hl : InL n lo hi l
  · rw [decide_eq_true hl, Bool.not_eq_true', List.any_eq_false]
    intro x hx
    simpa using hl.2 x hx
  · rw [decide_eq_false hl, Bool.not_eq_false', List.any_eq_true]
    apply Classical.byContradiction
    intro h2
    refine hl ⟨h, fun x hx => ?_⟩
    apply Classical.byContradiction
    intro h3
    exact h2 ⟨x, hx, by simp only [Bool.not_eq_true', decide_eq_false_iff_not]; exact h3⟩

theorem all_spec : FnSpec Try.prog 17 allCon := by
  refine FnSpec.of_tri' (E := know [(27, containsCon)] [(29, allClo)] [] []) (know_ok (all_cons contains_spec all_nil) (all_cons all1_spec all_nil) all_nil) Try.func17 rfl rfl (by kernel_rfl) ?_
  intro C x hE hnl hfit hpre
  simp only [Try.ntmps17, Try.results17, maxLen, Nat.reduceSub, Nat.reducePow, Nat.reduceAdd, Int.cast_ofNat_Int, push_cast] at hnl hfit hpre ⊢
  obtain ⟨(l : List Int), (n : Int), (lo : Int), (hi : Int), _⟩ := x
  dsimp only at hfit hpre ⊢
  repeat' (first|(refine goK (by assumption) ?_; iterate 4 (try clear hK K))|(refine tri_seqk fun K hK => ?_)|((first|refine tri_region hE rfl ?_|refine tri_ret ?_); simp +contextual only [hnl, ↓kN, ↓kP, ↓kG, ↓qN, ↓qP, ↓qG, push_cast, Int.reduceEq, Int.reduceLT, Int.reduceLE, Int.reduceNeg, Nat.reduceLT, Nat.reduceLeDiff, Int.reduceToNat, Int.cast_ofNat_Int, Nat.reduceBEq, Nat.reduceMul, Nat.reduceEqDiff, reduceCtorEq, Nat.reduceAdd])|refine tri_block ?_|((first|refine tri_skip ?_|refine tri_exit ?_); simp only [thenQ, blockQ, if_true, if_false, Nat.reduceEqDiff, reduceCtorEq])|(refine tri_cond (by rfl) (fun hb => ?_) (fun hb => ?_) <;> (try simp only [decide_eq_true_eq, decide_eq_false_iff_not, Bool.not_eq_true', Bool.not_eq_false', reduceCtorEq, Bool.true_eq_false, Bool.false_eq_true] at hb) <;> (try omega))|refine tri_unk (by rfl) ?_ ?_|refine And.intro (by first|omega|(unfold InR; omega)|assumption|decide|exact ⟨_, _, rfl⟩) ?_|(refine ⟨fun hc => ?_, fun hc => ?_⟩)|(intro hc; try omega))
  · exact inL_any (by assumption)
  · exact (decide_eq_false fun h => by have := h.1; omega).symm

theorem pcost_spec : FnSpec Try.prog 7 costCon := by
  refine FnSpec.of_tri' (E := know [(16, withinCon), (17, allCon)] [] [] []) (know_ok (all_cons pwithin_spec (all_cons all_spec all_nil)) all_nil all_nil) Try.func7 rfl rfl (by kernel_rfl) ?_
  intro C x hE hnl hfit hpre
  simp only [Try.ntmps7, Try.results7, maxLen, Nat.reduceSub, Nat.reducePow, Nat.reduceAdd, Int.cast_ofNat_Int, push_cast] at hnl hfit hpre ⊢
  obtain ⟨(p : List (List Int)), _⟩ := x
  dsimp only at hfit hpre ⊢
  repeat' (first|(refine goK (by assumption) ?_; iterate 4 (try clear hK K))|(refine tri_seqk fun K hK => ?_)|((first|refine tri_region hE rfl ?_|refine tri_ret ?_); simp +contextual only [hnl, ↓kN, ↓kP, ↓kG, ↓qN, ↓qP, ↓qG, push_cast, Int.reduceEq, Int.reduceLT, Int.reduceLE, Int.reduceNeg, Nat.reduceLT, Nat.reduceLeDiff, Int.reduceToNat, Int.cast_ofNat_Int, Nat.reduceBEq, Nat.reduceMul, Nat.reduceEqDiff, reduceCtorEq, Nat.reduceAdd])|refine tri_block ?_|((first|refine tri_skip ?_|refine tri_exit ?_); simp only [thenQ, blockQ, if_true, if_false, Nat.reduceEqDiff, reduceCtorEq])|(refine tri_cond (by rfl) (fun hb => ?_) (fun hb => ?_) <;> (try simp only [decide_eq_true_eq, decide_eq_false_iff_not, Bool.not_eq_true', Bool.not_eq_false', reduceCtorEq, Bool.true_eq_false, Bool.false_eq_true] at hb) <;> (try omega))|refine tri_unk (by rfl) ?_ ?_|refine And.intro (by first|omega|(unfold InR; omega)|assumption|decide|exact ⟨_, _, rfl⟩) ?_|(refine ⟨fun hc => ?_, fun hc => ?_⟩)|(intro hc; try omega))
  · exact (errCost_1 fun h => hb (by have := h.cols; unfold wid at this; omega)).symm
  · have hw : (p.getD 0 []).length = wid p := rfl
    refine tri_loopI (fun k : Nat => AS.of [(0, .one (.val (.sl (.sl .int)) p)), (17, .one (.val (.sl (.sl .int)) p)), (18, .I p.length), (19, .I k)] [] []) (fun k => k ≤ p.length ∧ ∀ i, i < k → InL (wid p) 0 99 (p.getD i [])) (fun k => p.length - k) 0 ⟨Nat.zero_le _, by omega⟩ ?_ ?_
    · refine weak_of ?_ ?_ ?_ <;> simp only [push_cast, Int.reduceEq, Int.reduceLT, Int.reduceLE, Int.reduceNeg, Nat.reduceLT, Nat.reduceLeDiff, Int.reduceToNat, Int.cast_ofNat_Int, Nat.reduceBEq, Nat.reduceMul, Nat.reduceEqDiff, reduceCtorEq, Nat.reduceAdd]
    intro k ⟨hk, hi⟩ K' hL
    repeat' (first|(refine goK (by assumption) ?_; iterate 4 (try clear hK K))|(refine tri_seqk fun K hK => ?_)|((first|refine tri_region hE rfl ?_|refine tri_ret ?_); simp +contextual only [hnl, ↓kN, ↓kP, ↓kG, ↓qN, ↓qP, ↓qG, push_cast, Int.reduceEq, Int.reduceLT, Int.reduceLE, Int.reduceNeg, Nat.reduceLT, Nat.reduceLeDiff, Int.reduceToNat, Int.cast_ofNat_Int, Nat.reduceBEq, Nat.reduceMul, Nat.reduceEqDiff, reduceCtorEq, Nat.reduceAdd])|refine tri_block ?_|((first|refine tri_skip ?_|refine tri_exit ?_); simp only [thenQ, blockQ, if_true, if_false, Nat.reduceEqDiff, reduceCtorEq])|(refine tri_cond (by rfl) (fun hb => ?_) (fun hb => ?_) <;> (try simp only [decide_eq_true_eq, decide_eq_false_iff_not, Bool.not_eq_true', Bool.not_eq_false', reduceCtorEq, Bool.true_eq_false, Bool.false_eq_true] at hb) <;> (try omega))|refine tri_unk (by rfl) ?_ ?_|refine And.intro (by first|omega|(unfold InR; omega)|assumption|decide|exact ⟨_, _, rfl⟩) ?_|(refine ⟨fun hc => ?_, fun hc => ?_⟩)|(intro hc; try omega))
    · exact (errCost_1 fun h => hb (by have := h.row _ (getD_mem [] (by omega : k < p.length)); rw [hw]; exact this)).symm
    · refine hL _ (k + 1) ⟨by omega, fun i h1 => ?_⟩ (by omega) ?_
      · rcases Nat.lt_or_ge i k with h3 | h3
        · exact hi i h3
        · obtain rfl : i = k := by omega
          rw [hw] at hb
          exact hb
      refine weak_of ?_ ?_ ?_ <;> simp only [push_cast, Int.reduceEq, Int.reduceLT, Int.reduceLE, Int.reduceNeg, Nat.reduceLT, Nat.reduceLeDiff, Int.reduceToNat, Int.cast_ofNat_Int, Nat.reduceBEq, Nat.reduceMul, Nat.reduceEqDiff, reduceCtorEq, Nat.reduceAdd]
    · refine (errCost_0 ⟨by omega, by omega, fun r hr => ?_⟩).symm
      obtain ⟨i, h1, rfl⟩ := List.getElem_of_mem hr
      have := hi i (by omega)
      rwa [List.getD_eq_getElem?_getD, List.getElem?_eq_getElem h1] at this
  · exact (errCost_1 fun h => by have := h.rows; omega).symm

end Go.Proofs.Ytikjejmekfpofaa

namespace Go.Proofs.Ytikjejmekfpofaa
open Go.RowKit Go.VS
set_option linter.unusedSimpArgs false
set_option linter.unusedVariables false

/-- The first number that is not 0. -/
def orV : List Int → Int
  | [] => 0
  | x :: l => if x = 0 then orV l else x
@[push_cast] theorem orV_nil : orV [] = 0 := rfl
theorem orV_cons (x : Int) (l : List Int) : orV (x :: l) = if x = 0 then orV l else x := rfl

theorem orV_skip : ∀ (l : List Int) (k : Nat), k ≤ l.length → (∀ j, j < k → l.getD j 0 = 0) → orV l = orV (l.drop k)
  | l, 0, _, _ => rfl
  | [], k + 1, h, _ => by simp at h
  | x :: l, k + 1, h, hz => by
    have h0 : x = 0 := by simpa using hz 0 (by omega)
    rw [orV_cons, if_pos h0, List.drop_succ_cons]
    exact orV_skip l k (by simpa using h) fun j hj => by simpa using hz (j + 1) (by omega)

@[push_cast] def orCon : Con := ⟨[.dat (.sl .int)], fun _ => True, fun (x : List Int × Unit) => { res := [.val .int (orV x.1)] }⟩

theorem or_spec : FnSpec Try.prog 30 orCon := by
  refine FnSpec.of_tri' (E := know [] [] [] []) (know_ok all_nil all_nil all_nil) Try.func30 rfl rfl (by kernel_rfl) ?_
  intro C x hE hnl hfit hpre
  simp only [Try.ntmps30, Try.results30, maxLen, Nat.reduceSub, Nat.reducePow, Nat.reduceAdd, Int.cast_ofNat_Int, push_cast] at hnl hfit hpre ⊢
  obtain ⟨(l : List Int), _⟩ := x
  dsimp only at hfit hpre ⊢
  repeat' (first|(refine goK (by assumption) ?_; iterate 4 (try clear hK K))|(refine tri_seqk fun K hK => ?_)|((first|refine tri_region hE rfl ?_|refine tri_ret ?_); simp +contextual only [hnl, ↓kN, ↓kP, ↓kG, ↓qN, ↓qP, ↓qG, push_cast, Int.reduceEq, Int.reduceLT, Int.reduceLE, Int.reduceNeg, Nat.reduceLT, Nat.reduceLeDiff, Int.reduceToNat, Int.cast_ofNat_Int, Nat.reduceBEq, Nat.reduceMul, Nat.reduceEqDiff, reduceCtorEq, Nat.reduceAdd])|refine tri_block ?_|((first|refine tri_skip ?_|refine tri_exit ?_); simp only [thenQ, blockQ, if_true, if_false, Nat.reduceEqDiff, reduceCtorEq])|(refine tri_cond (by rfl) (fun hb => ?_) (fun hb => ?_) <;> (try simp only [decide_eq_true_eq, decide_eq_false_iff_not, Bool.not_eq_true', Bool.not_eq_false', reduceCtorEq, Bool.true_eq_false, Bool.false_eq_true] at hb) <;> (try omega))|refine tri_unk (by rfl) ?_ ?_|refine And.intro (by first|omega|(unfold InR; omega)|assumption|decide|exact ⟨_, _, rfl⟩) ?_|(refine ⟨fun hc => ?_, fun hc => ?_⟩)|(intro hc; try omega))
  refine tri_loopI (fun k : Nat => AS.of [(0, .one (.val (.sl .int) l)), (3, .I 0), (6, .one (.val (.sl .int) l)), (7, .I l.length), (8, .I k)] [] []) (fun k => k ≤ l.length ∧ ∀ j, j < k → l.getD j 0 = 0) (fun k => l.length - k) 0 ⟨Nat.zero_le _, by omega⟩ ?_ ?_
  · refine weak_of ?_ ?_ ?_ <;> simp only [push_cast, Int.reduceEq, Int.reduceLT, Int.reduceLE, Int.reduceNeg, Nat.reduceLT, Nat.reduceLeDiff, Int.reduceToNat, Int.cast_ofNat_Int, Nat.reduceBEq, Nat.reduceMul, Nat.reduceEqDiff, reduceCtorEq, Nat.reduceAdd]
  intro k ⟨hk, hz⟩ K' hL
  repeat' (first|(refine goK (by assumption) ?_; iterate 4 (try clear hK K))|(refine tri_seqk fun K hK => ?_)|((first|refine tri_region hE rfl ?_|refine tri_ret ?_); simp +contextual only [hnl, ↓kN, ↓kP, ↓kG, ↓qN, ↓qP, ↓qG, push_cast, Int.reduceEq, Int.reduceLT, Int.reduceLE, Int.reduceNeg, Nat.reduceLT, Nat.reduceLeDiff, Int.reduceToNat, Int.cast_ofNat_Int, Nat.reduceBEq, Nat.reduceMul, Nat.reduceEqDiff, reduceCtorEq, Nat.reduceAdd])|refine tri_block ?_|((first|refine tri_skip ?_|refine tri_exit ?_); simp only [thenQ, blockQ, if_true, if_false, Nat.reduceEqDiff, reduceCtorEq])|(refine tri_cond (by rfl) (fun hb => ?_) (fun hb => ?_) <;> (try simp only [decide_eq_true_eq, decide_eq_false_iff_not, Bool.not_eq_true', Bool.not_eq_false', reduceCtorEq, Bool.true_eq_false, Bool.false_eq_true] at hb) <;> (try omega))|refine tri_unk (by rfl) ?_ ?_|refine And.intro (by first|omega|(unfold InR; omega)|assumption|decide|exact ⟨_, _, rfl⟩) ?_|(refine ⟨fun hc => ?_, fun hc => ?_⟩)|(intro hc; try omega))
  · rw [orV_skip l k hk hz, drop_getD 0 (by omega), orV_cons, if_neg hb]
  · refine hL _ (k + 1) ⟨by omega, fun j hj => ?_⟩ (by omega) ?_
    · rcases Nat.lt_or_ge j k with h3 | h3
      · exact hz j h3
      · obtain rfl : j = k := by omega
        exact hb
    refine weak_of ?_ ?_ ?_ <;> simp only [push_cast, Int.reduceEq, Int.reduceLT, Int.reduceLE, Int.reduceNeg, Nat.reduceLT, Nat.reduceLeDiff, Int.reduceToNat, Int.cast_ofNat_Int, Nat.reduceBEq, Nat.reduceMul, Nat.reduceEqDiff, reduceCtorEq, Nat.reduceAdd]
  · rw [orV_skip l k hk hz, List.drop_of_length_le (by omega)]
    rfl

structure ForOK (a b : List Int) (c : List (List Int)) : Prop where
  ha : okMass a = true
  hb : okMass b = true
  hc : InTab 0 99 c
  rows : c.length = a.length
  cols : wid c = b.length
theorem forOK_iff {a b : List Int} {c : List (List Int)} : ForOK a b c ↔ (okMass a = true ∧ okMass b = true ∧ InTab 0 99 c ∧ c.length = a.length ∧ wid c = b.length) :=
  ⟨fun ⟨a, b, c, d, e⟩ => ⟨a, b, c, d, e⟩, fun ⟨a, b, c, d, e⟩ => ⟨a, b, c, d, e⟩⟩
instance (a b : List Int) (c : List (List Int)) : Decidable (ForOK a b c) := decidable_of_iff _ forOK_iff.symm

def errFor (a b : List Int) (c : List (List Int)) : Int := if ForOK a b c then 0 else 1
def errFits (a b : List Int) (c : List (List Int)) : Int := if ForOK a b c then if lsum a = lsum b then 0 else 5 else 1

section
variable {a b : List Int} {c : List (List Int)}
theorem errFor_0 (h : ForOK a b c) : errFor a b c = 0 := if_pos h
theorem errFor_1 (h : ¬ ForOK a b c) : errFor a b c = 1 := if_neg h
theorem errFor_ok (h : errFor a b c = 0) : ForOK a b c := by
  by_cases h2 : ForOK a b c
  · exact h2
  · rw [errFor_1 h2] at h; omega
theorem errFits_0 (h : ForOK a b c) (h2 : lsum a = lsum b) : errFits a b c = 0 := by rw [errFits, if_pos h, if_pos h2]
theorem errFits_5 (h : ForOK a b c) (h2 : ¬ lsum a = lsum b) : errFits a b c = 5 := by rw [errFits, if_pos h, if_neg h2]
theorem errFits_1 (h : ¬ ForOK a b c) : errFits a b c = 1 := if_neg h
theorem errFits_ok (h : errFits a b c = 0) : ForOK a b c ∧ lsum a = lsum b := by
  unfold errFits at h
  split at h
  · split at h
    · exact ⟨by assumption, by assumption⟩
    · omega
  · omega
theorem errFor_a (h : ¬ errMass a = 0) : errMass a = errFor a b c := by
  rw [errFor_1 fun h2 => h (by rw [errMass, if_pos h2.ha])]
  rw [errMass, errMass_no h]; rfl
theorem errFor_b (h : ¬ errMass b = 0) : errMass b = errFor a b c := by
  rw [errFor_1 fun h2 => h (by rw [errMass, if_pos h2.hb])]
  rw [errMass, errMass_no h]; rfl
theorem errFor_c (h : ¬ errCost c = 0) : errCost c = errFor a b c := by
  rw [errFor_1 fun h2 => h (errCost_0 h2.hc)]
  exact (errCost_01 c).resolve_left h
theorem errFor_r (h : ¬ c.length = a.length) : (1 : Int) = errFor a b c := (errFor_1 fun h2 => h h2.rows).symm
theorem errFor_w (h : ¬ (c.getD 0 []).length = b.length) : (1 : Int) = errFor a b c := (errFor_1 fun h2 => h h2.cols).symm
theorem errFor_all (h1 : errMass a = 0) (h2 : errMass b = 0) (h3 : errCost c = 0) (h4 : c.length = a.length) (h5 : (c.getD 0 []).length = b.length) : errFor a b c = 0 :=
  errFor_0 ⟨errMass_ok h1, errMass_ok h2, errCost_in h3, h4, h5⟩
theorem orV_for (h : ¬ orV [errMass a, errMass b, errCost c] = 0) : orV [errMass a, errMass b, errCost c] = errFor a b c := by
  simp only [orV_cons, orV_nil] at h ⊢
  split
  · split
    · rename_i h1 h2
      rw [if_pos h1, if_pos h2] at h
      split
      · rename_i h3; rw [if_pos h3] at h; omega
      · exact errFor_c (by assumption)
    · exact errFor_b (by assumption)
  · exact errFor_a (by assumption)
theorem orV_for0 (h : orV [errMass a, errMass b, errCost c] = 0) : errMass a = 0 ∧ errMass b = 0 ∧ errCost c = 0 := by
  simp only [orV_cons, orV_nil] at h
  split at h
  · split at h
    · split at h
      · exact ⟨by assumption, by assumption, by assumption⟩
      · contradiction
    · contradiction
  · contradiction
theorem errFits_for (h : ¬ errFor a b c = 0) : errFor a b c = errFits a b c := by
  have : ¬ ForOK a b c := fun h2 => h (errFor_0 h2)
  rw [errFor_1 this, errFits_1 this]
end

@[push_cast] def forCon : Con := ⟨[.dat (.sl .int), .dat (.sl .int), .dat (.sl (.sl .int))], fun _ => True, fun (x : List Int × List Int × List (List Int) × Unit) => { res := [.val .int (errFor x.1 x.2.1 x.2.2.1)] }⟩
@[push_cast] def fitsCon : Con := ⟨[.dat (.sl .int), .dat (.sl .int), .dat (.sl (.sl .int))], fun _ => True, fun (x : List Int × List Int × List (List Int) × Unit) => { res := [.val .int (errFits x.1 x.2.1 x.2.2.1)] }⟩

theorem pfits_spec : FnSpec Try.prog 18 fitsCon := by
  refine FnSpec.of_tri' (E := know [(31, validCon), (7, costCon), (30, orCon), (32, totalCon)] [] [] []) (know_ok (all_cons valid_spec (all_cons pcost_spec (all_cons or_spec (all_cons ptotal_spec all_nil)))) all_nil all_nil) Try.func18 rfl rfl (by kernel_rfl) ?_
  intro C x hE hnl hfit hpre
  simp only [Try.ntmps18, Try.results18, maxLen, Nat.reduceSub, Nat.reducePow, Nat.reduceAdd, Int.cast_ofNat_Int, push_cast] at hnl hfit hpre ⊢
  obtain ⟨(a : List Int), (b : List Int), (c : List (List Int)), _⟩ := x
  dsimp only at hfit hpre ⊢
  have hA : orV [errMass a, errMass b, errCost c] = 0 → (∀ k, InR (lsum (a.take k))) ∧ (∀ k, InR (lsum (b.take k))) ∧ 0 < c.length := fun h =>
    ⟨okMass_sum (errMass_ok (orV_for0 h).1), okMass_sum (errMass_ok (orV_for0 h).2.1), by have := (errCost_in (orV_for0 h).2.2).rows; omega⟩
  have hW : orV [errMass a, errMass b, errCost c] = 0 → c.length = a.length → (c.getD 0 []).length = b.length → ForOK a b c := fun h h1 h2 =>
    ⟨errMass_ok (orV_for0 h).1, errMass_ok (orV_for0 h).2.1, errCost_in (orV_for0 h).2.2, h1, h2⟩
  repeat' (first|(refine goK (by assumption) ?_; iterate 4 (try clear hK K))|(refine tri_seqk fun K hK => ?_)|((first|refine tri_region hE rfl ?_|refine tri_ret ?_); simp +contextual only [hnl, ↓kN, ↓kP, ↓kG, ↓qN, ↓qP, ↓qG, push_cast, Int.reduceEq, Int.reduceLT, Int.reduceLE, Int.reduceNeg, Nat.reduceLT, Nat.reduceLeDiff, Int.reduceToNat, Int.cast_ofNat_Int, Nat.reduceBEq, Nat.reduceMul, Nat.reduceEqDiff, reduceCtorEq, Nat.reduceAdd])|refine tri_block ?_|((first|refine tri_skip ?_|refine tri_exit ?_); simp only [thenQ, blockQ, if_true, if_false, Nat.reduceEqDiff, reduceCtorEq])|(refine tri_cond (by rfl) (fun hb => ?_) (fun hb => ?_) <;> (try simp only [decide_eq_true_eq, decide_eq_false_iff_not, Bool.not_eq_true', Bool.not_eq_false', reduceCtorEq, Bool.true_eq_false, Bool.false_eq_true] at hb) <;> (try omega))|refine tri_unk (by rfl) ?_ ?_|refine And.intro (by first|omega|(unfold InR; omega)|assumption|decide|exact ⟨_, _, rfl⟩) ?_|(refine ⟨fun hc => ?_, fun hc => ?_⟩)|(intro hc; try omega))
  · rw [orV_for hb]
    exact errFits_for (by rw [← orV_for hb]; exact hb)
  · exact (errFits_1 fun h => hb (by have := h.cols; unfold wid at this; omega)).symm
  · have h2 := hA (by assumption)
    have h3 := hW (by assumption) (by omega) (by omega)
    clear hb
    refine ⟨h2.1, h2.2.1, ?_⟩
    repeat' (first|(refine goK (by assumption) ?_; iterate 4 (try clear hK K))|(refine tri_seqk fun K hK => ?_)|((first|refine tri_region hE rfl ?_|refine tri_ret ?_); simp +contextual only [hnl, ↓kN, ↓kP, ↓kG, ↓qN, ↓qP, ↓qG, push_cast, Int.reduceEq, Int.reduceLT, Int.reduceLE, Int.reduceNeg, Nat.reduceLT, Nat.reduceLeDiff, Int.reduceToNat, Int.cast_ofNat_Int, Nat.reduceBEq, Nat.reduceMul, Nat.reduceEqDiff, reduceCtorEq, Nat.reduceAdd])|refine tri_block ?_|((first|refine tri_skip ?_|refine tri_exit ?_); simp only [thenQ, blockQ, if_true, if_false, Nat.reduceEqDiff, reduceCtorEq])|(refine tri_cond (by rfl) (fun hb => ?_) (fun hb => ?_) <;> (try simp only [decide_eq_true_eq, decide_eq_false_iff_not, Bool.not_eq_true', Bool.not_eq_false', reduceCtorEq, Bool.true_eq_false, Bool.false_eq_true] at hb) <;> (try omega))|refine tri_unk (by rfl) ?_ ?_|refine And.intro (by first|omega|(unfold InR; omega)|assumption|decide|exact ⟨_, _, rfl⟩) ?_|(refine ⟨fun hc => ?_, fun hc => ?_⟩)|(intro hc; try omega))
    · exact (errFits_5 h3 hb).symm
    · exact (errFits_0 h3 hb).symm
  · exact (errFits_1 fun h => by have := h.rows; omega).symm
end Go.Proofs.Ytikjejmekfpofaa

namespace Go.Proofs.Ytikjejmekfpofaa
open Go.RowKit Go.VS Go.OT
set_option linter.unusedSimpArgs false
set_option linter.unusedVariables false

def dotK (r s : List Int) : Nat → Int
  | 0 => 0
  | k + 1 => dotK r s k + r.getD k 0 * s.getD k 0
def spendK (c t : List (List Int)) : Nat → Int
  | 0 => 0
  | k + 1 => spendK c t k + dotK (c.getD k []) (t.getD k []) (t.getD k []).length
/-- The sum of cost times number. -/
def spend (c t : List (List Int)) : Int := spendK c t t.length

/-- Tables of one shape: costs, and numbers that can be moved. -/
def Fit (c t : List (List Int)) : Prop := ∃ R C, (R ≤ 6 ∧ C ≤ 6) ∧ Tb R C 0 1000000 c ∧ Tb R C 0 200 t

theorem mul_bound {x y : Int} (h1 : 0 ≤ x ∧ x ≤ 1000000) (h2 : 0 ≤ y ∧ y ≤ 200) : 0 ≤ x * y ∧ x * y ≤ 200000000 :=
  ⟨Int.mul_nonneg h1.1 h2.1, by have := Int.mul_le_mul h1.2 h2.2 h2.1 (by omega : (0:Int) ≤ 1000000); omega⟩

theorem Fit.rows {c t : List (List Int)} (h : Fit c t) : t.length = c.length ∧ t.length ≤ 6 := by
  obtain ⟨R, C, h1, h2, h3⟩ := h
  rw [h2.rows, h3.rows]; omega
theorem Fit.cols {c t : List (List Int)} (h : Fit c t) {i : Nat} (hi : i < t.length) : (t.getD i []).length = (c.getD i []).length ∧ (t.getD i []).length ≤ 6 := by
  obtain ⟨R, C, h1, h2, h3⟩ := h
  rw [h3.rows] at hi
  rw [h2.cols i hi, h3.cols i hi]; omega

theorem Fit.term {c t : List (List Int)} (h : Fit c t) {i j : Nat} (hi : i < t.length) (hj : j < (t.getD i []).length) : 0 ≤ (c.getD i []).getD j 0 * (t.getD i []).getD j 0 ∧ (c.getD i []).getD j 0 * (t.getD i []).getD j 0 ≤ 200000000 := by
  obtain ⟨R, C, h1, h2, h3⟩ := h
  rw [h3.rows] at hi
  rw [h3.cols i hi] at hj
  exact mul_bound (h2.at' i j hi hj) (h3.at' i j hi hj)

theorem Fit.dot {c t : List (List Int)} (h : Fit c t) {i : Nat} (hi : i < t.length) : ∀ j, j ≤ (t.getD i []).length → 0 ≤ dotK (c.getD i []) (t.getD i []) j ∧ dotK (c.getD i []) (t.getD i []) j ≤ 200000000 * j
  | 0, _ => by simp [dotK]
  | j + 1, hj => by
    have h1 := h.dot hi j (by omega)
    have h2 := h.term hi (j := j) (by omega)
    simp only [dotK]
    omega

theorem Fit.spend {c t : List (List Int)} (h : Fit c t) : ∀ k, k ≤ t.length → 0 ≤ spendK c t k ∧ spendK c t k ≤ 1200000000 * k
  | 0, _ => by simp [spendK]
  | k + 1, hk => by
    have h1 := h.spend k (by omega)
    have h2 := h.dot (i := k) (by omega) _ (Nat.le_refl _)
    have h3 := h.cols (i := k) (by omega)
    simp only [spendK]
    omega

@[push_cast] def spendCon : Con := ⟨[.dat (.sl (.sl .int)), .dat (.sl (.sl .int))], fun (x : List (List Int) × List (List Int) × Unit) => Fit x.1 x.2.1, fun (x : List (List Int) × List (List Int) × Unit) => { res := [.val .int (spend x.1 x.2.1)] }⟩

theorem scost_spec : FnSpec Try.prog 21 spendCon := by
  refine FnSpec.of_tri' (E := know [] [] [] []) (know_ok all_nil all_nil all_nil) Try.func21 rfl rfl (by kernel_rfl) ?_
  intro C x hE hnl hfit hpre
  simp only [Try.ntmps21, Try.results21, maxLen, Nat.reduceSub, Nat.reducePow, Nat.reduceAdd, Int.cast_ofNat_Int, push_cast] at hnl hfit hpre ⊢
  obtain ⟨(c : List (List Int)), (t : List (List Int)), _⟩ := x
  dsimp only at hfit hpre ⊢
  have hlc := hpre.rows
  repeat' (first|(refine goK (by assumption) ?_; iterate 4 (try clear hK K))|(refine tri_seqk fun K hK => ?_)|((first|refine tri_region hE rfl ?_|refine tri_ret ?_); simp +contextual only [hnl, ↓kN, ↓kP, ↓kG, ↓qN, ↓qP, ↓qG, push_cast, Int.reduceEq, Int.reduceLT, Int.reduceLE, Int.reduceNeg, Nat.reduceLT, Nat.reduceLeDiff, Int.reduceToNat, Int.cast_ofNat_Int, Nat.reduceBEq, Nat.reduceMul, Nat.reduceEqDiff, reduceCtorEq, Nat.reduceAdd])|refine tri_block ?_|((first|refine tri_skip ?_|refine tri_exit ?_); simp only [thenQ, blockQ, if_true, if_false, Nat.reduceEqDiff, reduceCtorEq])|(refine tri_cond (by rfl) (fun hb => ?_) (fun hb => ?_) <;> (try simp only [decide_eq_true_eq, decide_eq_false_iff_not, Bool.not_eq_true', Bool.not_eq_false', reduceCtorEq, Bool.true_eq_false, Bool.false_eq_true] at hb) <;> (try omega))|refine tri_unk (by rfl) ?_ ?_|refine And.intro (by first|omega|(unfold InR; omega)|assumption|decide|exact ⟨_, _, rfl⟩) ?_|(refine ⟨fun hc => ?_, fun hc => ?_⟩)|(intro hc; try omega))
  refine tri_loopI (fun k : Nat => AS.of [(0, .one (.val (.sl (.sl .int)) c)), (5, .I (spendK c t k)), (10, .one (.val (.sl (.sl .int)) t)), (11, .I t.length), (12, .I k)] [] []) (fun k => k ≤ t.length) (fun k => t.length - k) 0 (Nat.zero_le _) ?_ ?_
  · refine weak_of ?_ ?_ ?_ <;> simp only [push_cast, Int.reduceEq, Int.reduceLT, Int.reduceLE, Int.reduceNeg, Nat.reduceLT, Nat.reduceLeDiff, Int.reduceToNat, Int.cast_ofNat_Int, Nat.reduceBEq, Nat.reduceMul, Nat.reduceEqDiff, reduceCtorEq, Nat.reduceAdd]
    rfl
  intro k hk K' hL
  repeat' (first|(refine goK (by assumption) ?_; iterate 4 (try clear hK K))|(refine tri_seqk fun K hK => ?_)|((first|refine tri_region hE rfl ?_|refine tri_ret ?_); simp +contextual only [hnl, ↓kN, ↓kP, ↓kG, ↓qN, ↓qP, ↓qG, push_cast, Int.reduceEq, Int.reduceLT, Int.reduceLE, Int.reduceNeg, Nat.reduceLT, Nat.reduceLeDiff, Int.reduceToNat, Int.cast_ofNat_Int, Nat.reduceBEq, Nat.reduceMul, Nat.reduceEqDiff, reduceCtorEq, Nat.reduceAdd])|refine tri_block ?_|((first|refine tri_skip ?_|refine tri_exit ?_); simp only [thenQ, blockQ, if_true, if_false, Nat.reduceEqDiff, reduceCtorEq])|(refine tri_cond (by rfl) (fun hb => ?_) (fun hb => ?_) <;> (try simp only [decide_eq_true_eq, decide_eq_false_iff_not, Bool.not_eq_true', Bool.not_eq_false', reduceCtorEq, Bool.true_eq_false, Bool.false_eq_true] at hb) <;> (try omega))|refine tri_unk (by rfl) ?_ ?_|refine And.intro (by first|omega|(unfold InR; omega)|assumption|decide|exact ⟨_, _, rfl⟩) ?_|(refine ⟨fun hc => ?_, fun hc => ?_⟩)|(intro hc; try omega))
  · have hk' : k < t.length := by omega
    have h3 := hpre.cols hk'
    refine tri_loopI (fun j : Nat => AS.of [(0, .one (.val (.sl (.sl .int)) c)), (5, .I (spendK c t k + dotK (c.getD k []) (t.getD k []) j)), (6, .I k), (10, .one (.val (.sl (.sl .int)) t)), (11, .I t.length), (12, .I k), (17, .one (.val (.sl .int) (t.getD k []))), (18, .I (t.getD k []).length), (19, .I j)] [] []) (fun j => j ≤ (t.getD k []).length) (fun j => (t.getD k []).length - j) 0 (Nat.zero_le _) ?_ ?_
    · refine weak_of ?_ ?_ ?_ <;> simp only [push_cast, Int.reduceEq, Int.reduceLT, Int.reduceLE, Int.reduceNeg, Nat.reduceLT, Nat.reduceLeDiff, Int.reduceToNat, Int.cast_ofNat_Int, Nat.reduceBEq, Nat.reduceMul, Nat.reduceEqDiff, reduceCtorEq, Nat.reduceAdd]
      simp [dotK]
    intro j hj K2 hL2
    have h4 := hpre.spend k (by omega)
    have h5 := hpre.dot hk' j (by omega)
    have h6 : j < (t.getD k []).length → _ := fun h => hpre.term hk' (j := j) h
    repeat' (first|(refine goK (by assumption) ?_; iterate 4 (try clear hK K))|(refine tri_seqk fun K hK => ?_)|((first|refine tri_region hE rfl ?_|refine tri_ret ?_); simp +contextual only [hnl, ↓kN, ↓kP, ↓kG, ↓qN, ↓qP, ↓qG, push_cast, Int.reduceEq, Int.reduceLT, Int.reduceLE, Int.reduceNeg, Nat.reduceLT, Nat.reduceLeDiff, Int.reduceToNat, Int.cast_ofNat_Int, Nat.reduceBEq, Nat.reduceMul, Nat.reduceEqDiff, reduceCtorEq, Nat.reduceAdd])|refine tri_block ?_|((first|refine tri_skip ?_|refine tri_exit ?_); simp only [thenQ, blockQ, if_true, if_false, Nat.reduceEqDiff, reduceCtorEq])|(refine tri_cond (by rfl) (fun hb => ?_) (fun hb => ?_) <;> (try simp only [decide_eq_true_eq, decide_eq_false_iff_not, Bool.not_eq_true', Bool.not_eq_false', reduceCtorEq, Bool.true_eq_false, Bool.false_eq_true] at hb) <;> (try omega))|refine tri_unk (by rfl) ?_ ?_|refine And.intro (by first|omega|(unfold InR; omega)|assumption|decide|exact ⟨_, _, rfl⟩) ?_|(refine ⟨fun hc => ?_, fun hc => ?_⟩)|(intro hc; try omega))
    · have h7 := h6 (by omega)
      rw [Int.mul_comm] at h7
      refine ⟨by unfold InR; omega, by unfold InR; omega, ?_⟩
      repeat' (first|(refine goK (by assumption) ?_; iterate 4 (try clear hK K))|(refine tri_seqk fun K hK => ?_)|((first|refine tri_region hE rfl ?_|refine tri_ret ?_); simp +contextual only [hnl, ↓kN, ↓kP, ↓kG, ↓qN, ↓qP, ↓qG, push_cast, Int.reduceEq, Int.reduceLT, Int.reduceLE, Int.reduceNeg, Nat.reduceLT, Nat.reduceLeDiff, Int.reduceToNat, Int.cast_ofNat_Int, Nat.reduceBEq, Nat.reduceMul, Nat.reduceEqDiff, reduceCtorEq, Nat.reduceAdd])|refine tri_block ?_|((first|refine tri_skip ?_|refine tri_exit ?_); simp only [thenQ, blockQ, if_true, if_false, Nat.reduceEqDiff, reduceCtorEq])|(refine tri_cond (by rfl) (fun hb => ?_) (fun hb => ?_) <;> (try simp only [decide_eq_true_eq, decide_eq_false_iff_not, Bool.not_eq_true', Bool.not_eq_false', reduceCtorEq, Bool.true_eq_false, Bool.false_eq_true] at hb) <;> (try omega))|refine tri_unk (by rfl) ?_ ?_|refine And.intro (by first|omega|(unfold InR; omega)|assumption|decide|exact ⟨_, _, rfl⟩) ?_|(refine ⟨fun hc => ?_, fun hc => ?_⟩)|(intro hc; try omega))
      refine hL2 _ (j + 1) (by omega) (by omega) ?_
      refine weak_of ?_ ?_ ?_ <;> simp only [push_cast, Int.reduceEq, Int.reduceLT, Int.reduceLE, Int.reduceNeg, Nat.reduceLT, Nat.reduceLeDiff, Int.reduceToNat, Int.cast_ofNat_Int, Nat.reduceBEq, Nat.reduceMul, Nat.reduceEqDiff, reduceCtorEq, Nat.reduceAdd]
      rw [dotK, Int.mul_comm, Int.add_assoc]
    · obtain rfl : j = (t.getD k []).length := by omega
      refine hL _ (k + 1) (by omega) (by omega) ?_
      refine weak_of ?_ ?_ ?_ <;> simp only [push_cast, Int.reduceEq, Int.reduceLT, Int.reduceLE, Int.reduceNeg, Nat.reduceLT, Nat.reduceLeDiff, Int.reduceToNat, Int.cast_ofNat_Int, Nat.reduceBEq, Nat.reduceMul, Nat.reduceEqDiff, reduceCtorEq, Nat.reduceAdd]
      rfl
  · obtain rfl : k = t.length := by omega
    rfl

theorem InTab.tb {lo hi lo' hi' : Int} {p : List (List Int)} (h : InTab lo hi p) (h1 : lo' ≤ lo) (h2 : hi ≤ hi') : Tb p.length (wid p) lo' hi' p := ⟨rfl, fun i hi => h.len hi, fun i j hi hj => by have := h.at hi hj; omega⟩
theorem fit_of {c t : List (List Int)} (hc : InTab 0 99 c) (ht : InTab 0 150 t) (h1 : t.length = c.length) (h2 : wid t = wid c) : Fit c t := by
  have h3 := ht.tb (lo' := 0) (hi' := 200) (by omega) (by omega)
  rw [h1, h2] at h3
  exact ⟨_, _, ⟨by have := hc.rows; omega, by have := hc.cols; omega⟩, hc.tb (by omega) (by omega), h3⟩
theorem InPlan.tab {p : List (List Int)} (h : InPlan p) : InTab 0 150 p := inTab_of h.rows h.cols fun i hi => ⟨h.row hi, fun j hj => h.at hi hj⟩

def errSpend (c t : List (List Int)) : Int := if InTab 0 99 c ∧ okPlan t = true ∧ t.length = c.length ∧ wid t = wid c then 0 else 1
def spendV (c t : List (List Int)) : Int := if errSpend c t = 0 then spend c t else 0
section
variable {c t : List (List Int)}
theorem errSpend_0 (h1 : errCost c = 0) (h2 : errPlan t = 0) (h3 : t.length = c.length) (h4 : (t.getD 0 []).length = (c.getD 0 []).length) : errSpend c t = 0 ∧ Fit c t :=
  ⟨if_pos ⟨errCost_in h1, okPlan_iff.2 (errPlan_in h2), h3, h4⟩, fit_of (errCost_in h1) (errPlan_in h2).tab h3 h4⟩
theorem errSpend_1 (h : ¬ (t.length = c.length ∧ (t.getD 0 []).length = (c.getD 0 []).length)) : errSpend c t = 1 := if_neg fun h2 => h ⟨h2.2.2.1, h2.2.2.2⟩
theorem errSpend_c (h : ¬ errCost c = 0) : errCost c = errSpend c t := by
  rw [(errCost_01 c).resolve_left h]
  exact (if_neg fun h2 => h (errCost_0 h2.1)).symm
theorem errSpend_t (h : ¬ errPlan t = 0) : errPlan t = errSpend c t := by
  rw [(errPlan_01 t).resolve_left h]
  exact (if_neg fun h2 => h (errPlan_0 (okPlan_iff.1 h2.2.1))).symm
theorem spendV_no (h : ¬ errSpend c t = 0) : spendV c t = 0 := if_neg h
theorem spendV_ok (h : errSpend c t = 0) : spendV c t = spend c t := if_pos h
theorem orV_spend (h : ¬ orV [errCost c, errPlan t] = 0) : orV [errCost c, errPlan t] = errSpend c t := by
  simp only [orV_cons, orV_nil] at h ⊢
  split
  · split
    · rename_i h1 h2
      rw [if_pos h1, if_pos h2] at h; omega
    · exact errSpend_t (by assumption)
  · exact errSpend_c (by assumption)
theorem orV_spend0 (h : orV [errCost c, errPlan t] = 0) : errCost c = 0 ∧ errPlan t = 0 := by
  simp only [orV_cons, orV_nil] at h
  split at h
  · split at h
    · exact ⟨by assumption, by assumption⟩
    · contradiction
  · contradiction
end

@[push_cast] def costVCon : Con := ⟨[.dat (.sl (.sl .int)), .dat (.sl (.sl .int))], fun _ => True, fun (x : List (List Int) × List (List Int) × Unit) => { res := [.val .int (spendV x.1 x.2.1), .val .int (errSpend x.1 x.2.1)] }⟩

end Go.Proofs.Ytikjejmekfpofaa

namespace Go.Proofs.Ytikjejmekfpofaa
open Go.RowKit Go.VS
set_option linter.unusedSimpArgs false
set_option linter.unusedVariables false

abbrev Job := List Int × List Int × List (List Int)
abbrev Prices := List Int × List Int

def wideV (p : List (List Int)) : Bool := p.any (fun r => decide (50 < r.length)) || decide (50 < p.length)
def longJ (x : Job) : Bool := decide (50 < x.1.length) || (decide (50 < x.2.1.length) || wideV x.2.2)
def dearV (x : Prices) : Bool := decide (50 < x.1.length) || decide (50 < x.2.length)
@[push_cast] def wideCon : Con := ⟨[.dat (.sl (.sl .int))], fun _ => True, fun (x : List (List Int) × Unit) => { res := [.val .bool (decide (wideV x.1 = true))] }⟩
@[push_cast] def longJCon : Con := ⟨[.dat (.prod (.sl .int) (.prod (.sl .int) (.sl (.sl .int))))], fun _ => True, fun (x : Job × Unit) => { res := [.val .bool (decide (longJ x.1 = true))] }⟩
@[push_cast] def dearCon : Con := ⟨[.dat (.prod (.sl .int) (.sl .int))], fun _ => True, fun (x : Prices × Unit) => { res := [.val .bool (decide (dearV x.1 = true))] }⟩

theorem wide_spec : FnSpec Try.prog 6 wideCon := by
  refine FnSpec.of_tri' (E := know [] [] [] []) (know_ok all_nil all_nil all_nil) Try.func6 rfl rfl (by kernel_rfl) ?_
  intro C x hE hnl hfit hpre
  simp only [Try.ntmps6, Try.results6, maxLen, Nat.reduceSub, Nat.reducePow, Nat.reduceAdd, Int.cast_ofNat_Int, push_cast] at hnl hfit hpre ⊢
  obtain ⟨(p : List (List Int)), _⟩ := x
  dsimp only at hfit hpre ⊢
  repeat' (first|(refine goK (by assumption) ?_; iterate 4 (try clear hK K))|(refine tri_seqk fun K hK => ?_)|((first|refine tri_region hE rfl ?_|refine tri_ret ?_); simp +contextual only [hnl, ↓kN, ↓kP, ↓kG, ↓qN, ↓qP, ↓qG, push_cast, Int.reduceEq, Int.reduceLT, Int.reduceLE, Int.reduceNeg, Nat.reduceLT, Nat.reduceLeDiff, Int.reduceToNat, Int.cast_ofNat_Int, Nat.reduceBEq, Nat.reduceMul, Nat.reduceEqDiff, reduceCtorEq, Nat.reduceAdd])|refine tri_block ?_|((first|refine tri_skip ?_|refine tri_exit ?_); simp only [thenQ, blockQ, if_true, if_false, Nat.reduceEqDiff, reduceCtorEq])|(refine tri_cond (by rfl) (fun hb => ?_) (fun hb => ?_) <;> (try simp only [decide_eq_true_eq, decide_eq_false_iff_not, Bool.not_eq_true', Bool.not_eq_false', reduceCtorEq, Bool.true_eq_false, Bool.false_eq_true] at hb) <;> (try omega))|refine tri_unk (by rfl) ?_ ?_|refine And.intro (by first|omega|(unfold InR; omega)|assumption|decide|exact ⟨_, _, rfl⟩) ?_|(refine ⟨fun hc => ?_, fun hc => ?_⟩)|(intro hc; try omega))
  refine tri_loopI (fun k : Nat => AS.of [(0, .one (.val (.sl (.sl .int)) p)), (3, .I k)] [] []) (fun k => k ≤ p.length ∧ (p.take k).any (fun r => decide (50 < r.length)) = false) (fun k => p.length - k) 0 ⟨Nat.zero_le _, by simp⟩ ?_ ?_
  · refine weak_of ?_ ?_ ?_ <;> simp only [push_cast, Int.reduceEq, Int.reduceLT, Int.reduceLE, Int.reduceNeg, Nat.reduceLT, Nat.reduceLeDiff, Int.reduceToNat, Int.cast_ofNat_Int, Nat.reduceBEq, Nat.reduceMul, Nat.reduceEqDiff, reduceCtorEq, Nat.reduceAdd]
  intro k ⟨hk, hj⟩ K' hL
  repeat' (first|(refine goK (by assumption) ?_; iterate 4 (try clear hK K))|(refine tri_seqk fun K hK => ?_)|((first|refine tri_region hE rfl ?_|refine tri_ret ?_); simp +contextual only [hnl, ↓kN, ↓kP, ↓kG, ↓qN, ↓qP, ↓qG, push_cast, Int.reduceEq, Int.reduceLT, Int.reduceLE, Int.reduceNeg, Nat.reduceLT, Nat.reduceLeDiff, Int.reduceToNat, Int.cast_ofNat_Int, Nat.reduceBEq, Nat.reduceMul, Nat.reduceEqDiff, reduceCtorEq, Nat.reduceAdd])|refine tri_block ?_|((first|refine tri_skip ?_|refine tri_exit ?_); simp only [thenQ, blockQ, if_true, if_false, Nat.reduceEqDiff, reduceCtorEq])|(refine tri_cond (by rfl) (fun hb => ?_) (fun hb => ?_) <;> (try simp only [decide_eq_true_eq, decide_eq_false_iff_not, Bool.not_eq_true', Bool.not_eq_false', reduceCtorEq, Bool.true_eq_false, Bool.false_eq_true] at hb) <;> (try omega))|refine tri_unk (by rfl) ?_ ?_|refine And.intro (by first|omega|(unfold InR; omega)|assumption|decide|exact ⟨_, _, rfl⟩) ?_|(refine ⟨fun hc => ?_, fun hc => ?_⟩)|(intro hc; try omega))
  · have hk' : k < p.length := by omega
    have h1 := any_take_succ [] (fun r => decide (50 < r.length)) hk'
    have h2 : (p.any fun r => decide (50 < r.length)) = true := by
      rw [← List.take_append_drop (k + 1) p, List.any_append, h1, hj, decide_eq_true (by omega)]
      simp
    exact (decide_eq_true (by simp [wideV, h2])).symm
  · have hk' : k < p.length := by omega
    refine hL _ (k + 1) ⟨by omega, ?_⟩ (by omega) ?_
    · rw [any_take_succ [] _ hk', hj, decide_eq_false (by omega)]
      rfl
    refine weak_of ?_ ?_ ?_ <;> simp only [push_cast, Int.reduceEq, Int.reduceLT, Int.reduceLE, Int.reduceNeg, Nat.reduceLT, Nat.reduceLeDiff, Int.reduceToNat, Int.cast_ofNat_Int, Nat.reduceBEq, Nat.reduceMul, Nat.reduceEqDiff, reduceCtorEq, Nat.reduceAdd]
  · rw [List.take_of_length_le (by omega)] at hj
    simp only [wideV, hj, Bool.false_or, decide_eq_true_eq, decide_eq_decide]
    omega

end Go.Proofs.Ytikjejmekfpofaa

namespace Go.Proofs.Ytikjejmekfpofaa
open Go.RowKit Go.VS
set_option linter.unusedSimpArgs false
set_option linter.unusedVariables false

@[push_cast] def cloneCon : Con := ⟨[.dat (.sl .int)], fun (x : List Int × Unit) => x.1.length ≤ 1000, fun (x : List Int × Unit) => { res := [.own (.flat 3 .int x.1)] }⟩
@[push_cast] def tableCon : Con := ⟨[.dat .int, .dat .int], fun (x : Int × Int × Unit) => 0 ≤ x.1 ∧ x.1 ≤ 1000 ∧ 0 ≤ x.2.1 ∧ x.2.1 ≤ 1000, fun (x : Int × Int × Unit) => { res := [.own (.deep 22 3 .int (List.replicate x.1.toNat (List.replicate x.2.1.toNat 0)))] }⟩

theorem rows_set {α : Type} (A B : α) (n k : Nat) (hk : k < n) : (List.replicate k A ++ List.replicate (n - k) B).set k A = List.replicate (k + 1) A ++ List.replicate (n - (k + 1)) B := by
  have e : n - k = (n - (k + 1)) + 1 := by omega
  rw [e, List.replicate_succ, List.set_append_right _ _ (by simp), List.length_replicate, Nat.sub_self, List.set_cons_zero, List.replicate_succ']
  simp

end Go.Proofs.Ytikjejmekfpofaa

namespace Go.Proofs.Ytikjejmekfpofaa
open Go.RowKit Go.VS Go.OT
set_option linter.unusedSimpArgs false
set_option linter.unusedVariables false

@[push_cast] def emptyCon : Con := ⟨[.dat (.sl .int), .dat (.sl .int)], fun (x : List Int × List Int × Unit) => x.1.length ≤ 6 ∧ x.2.1.length ≤ 6, fun (x : List Int × List Int × Unit) => { res := [.own (.deep 22 3 .int (List.replicate x.1.length (List.replicate x.2.1.length 0)))] }⟩

theorem empty_spec : FnSpec Try.prog 33 emptyCon := by
  refine FnSpec.of_tri' (E := know [] [] [] []) (know_ok all_nil all_nil all_nil) Try.func33 rfl rfl (by kernel_rfl) ?_
  intro C x hE hnl hfit hpre
  simp only [Try.ntmps33, Try.results33, maxLen, Nat.reduceSub, Nat.reducePow, Nat.reduceAdd, Int.cast_ofNat_Int, push_cast] at hnl hfit hpre ⊢
  obtain ⟨(a : List Int), (b : List Int), _⟩ := x
  dsimp only at hfit hpre ⊢
  repeat' (first|(refine goK (by assumption) ?_; iterate 4 (try clear hK K))|(refine tri_seqk fun K hK => ?_)|((first|refine tri_region hE rfl ?_|refine tri_ret ?_); simp +contextual only [hnl, ↓kN, ↓kP, ↓kG, ↓qN, ↓qP, ↓qG, push_cast, Int.reduceEq, Int.reduceLT, Int.reduceLE, Int.reduceNeg, Nat.reduceLT, Nat.reduceLeDiff, Int.reduceToNat, Int.cast_ofNat_Int, Nat.reduceBEq, Nat.reduceMul, Nat.reduceEqDiff, reduceCtorEq, Nat.reduceAdd])|refine tri_block ?_|((first|refine tri_skip ?_|refine tri_exit ?_); simp only [thenQ, blockQ, if_true, if_false, Nat.reduceEqDiff, reduceCtorEq])|(refine tri_cond (by rfl) (fun hb => ?_) (fun hb => ?_) <;> (try simp only [decide_eq_true_eq, decide_eq_false_iff_not, Bool.not_eq_true', Bool.not_eq_false', reduceCtorEq, Bool.true_eq_false, Bool.false_eq_true] at hb) <;> (try omega))|refine tri_unk (by rfl) ?_ ?_|refine And.intro (by first|omega|(unfold InR; omega)|assumption|decide|exact ⟨_, _, rfl⟩) ?_|(refine ⟨fun hc => ?_, fun hc => ?_⟩)|(intro hc; try omega))
  refine tri_loopI (fun k : Nat => AS.of [(1, .one (.val (.sl .int) b)), (5, .one (.ref 9)), (11, .I a.length), (12, .I k)] [(9, .deep 22 3 .int (List.replicate k (List.replicate b.length 0) ++ List.replicate (a.length - k) []))] []) (fun k => k ≤ a.length) (fun k => a.length - k) 0 (Nat.zero_le _) ?_ ?_
  · refine weak_of ?_ ?_ ?_ <;> simp only [push_cast, Int.reduceEq, Int.reduceLT, Int.reduceLE, Int.reduceNeg, Nat.reduceLT, Nat.reduceLeDiff, Int.reduceToNat, Int.cast_ofNat_Int, Nat.reduceBEq, Nat.reduceMul, Nat.reduceEqDiff, reduceCtorEq, Nat.reduceAdd]
    all_goals first | (left; simp; done) | simp
  intro k hk K' hL
  have hlen : (List.replicate k (List.replicate b.length (0 : Int)) ++ List.replicate (a.length - k) []).length = a.length := by simp; omega
  repeat' (first|(refine goK (by assumption) ?_; iterate 4 (try clear hK K))|(refine tri_seqk fun K hK => ?_)|((first|refine tri_region hE rfl ?_|refine tri_ret ?_); simp +contextual only [hnl, ↓kN, ↓kP, ↓kG, ↓qN, ↓qP, ↓qG, push_cast, Int.reduceEq, Int.reduceLT, Int.reduceLE, Int.reduceNeg, Nat.reduceLT, Nat.reduceLeDiff, Int.reduceToNat, Int.cast_ofNat_Int, Nat.reduceBEq, Nat.reduceMul, Nat.reduceEqDiff, reduceCtorEq, Nat.reduceAdd])|refine tri_block ?_|((first|refine tri_skip ?_|refine tri_exit ?_); simp only [thenQ, blockQ, if_true, if_false, Nat.reduceEqDiff, reduceCtorEq])|(refine tri_cond (by rfl) (fun hb => ?_) (fun hb => ?_) <;> (try simp only [decide_eq_true_eq, decide_eq_false_iff_not, Bool.not_eq_true', Bool.not_eq_false', reduceCtorEq, Bool.true_eq_false, Bool.false_eq_true] at hb) <;> (try omega))|refine tri_unk (by rfl) ?_ ?_|refine And.intro (by first|omega|(unfold InR; omega)|assumption|decide|exact ⟨_, _, rfl⟩) ?_|(refine ⟨fun hc => ?_, fun hc => ?_⟩)|(intro hc; try omega))
  · refine hL _ (k + 1) (by omega) (by omega) ?_
    refine weak_of ?_ ?_ ?_ <;> simp only [push_cast, Int.reduceEq, Int.reduceLT, Int.reduceLE, Int.reduceNeg, Nat.reduceLT, Nat.reduceLeDiff, Int.reduceToNat, Int.cast_ofNat_Int, Nat.reduceBEq, Nat.reduceMul, Nat.reduceEqDiff, reduceCtorEq, Nat.reduceAdd]
    left
    rw [rows_set _ _ _ _ (by omega)]
  · obtain rfl : k = a.length := by omega
    simp

@[push_cast] def leftCon : Con := ⟨[.dat (.sl .int), .dat (.sl .int), .dat (.sl (.sl .int))], fun (x : List Int × List Int × List (List Int) × Unit) => Shp x.1 x.2.1 x.2.2.1,
  fun (x : List Int × List Int × List (List Int) × Unit) => { res := [.own (.flat 3 .int (leftV x.1 x.2.1 x.2.2.1).1), .own (.flat 3 .int (leftV x.1 x.2.1 x.2.2.1).2)] }⟩

theorem left_spec : FnSpec Try.prog 41 leftCon := by
  refine FnSpec.of_tri' (E := know [] [] [] []) (know_ok all_nil all_nil all_nil) Try.func41 rfl rfl (by kernel_rfl) ?_
  intro C x hE hnl hfit hpre
  simp only [Try.ntmps41, Try.results41, maxLen, Nat.reduceSub, Nat.reducePow, Nat.reduceAdd, Int.cast_ofNat_Int, push_cast] at hnl hfit hpre ⊢
  obtain ⟨(a : List Int), (b : List Int), (p : List (List Int)), _⟩ := x
  dsimp only at hfit hpre ⊢
  have ha5 := hpre.a5
  have hb5 := hpre.b5
  have hrw := hpre.rows
  repeat' (first|(refine goK (by assumption) ?_; iterate 4 (try clear hK K))|(refine tri_seqk fun K hK => ?_)|((first|refine tri_region hE rfl ?_|refine tri_ret ?_); simp +contextual only [hnl, ↓kN, ↓kP, ↓kG, ↓qN, ↓qP, ↓qG, push_cast, Int.reduceEq, Int.reduceLT, Int.reduceLE, Int.reduceNeg, Nat.reduceLT, Nat.reduceLeDiff, Int.reduceToNat, Int.cast_ofNat_Int, Nat.reduceBEq, Nat.reduceMul, Nat.reduceEqDiff, reduceCtorEq, Nat.reduceAdd])|refine tri_block ?_|((first|refine tri_skip ?_|refine tri_exit ?_); simp only [thenQ, blockQ, if_true, if_false, Nat.reduceEqDiff, reduceCtorEq])|(refine tri_cond (by rfl) (fun hb => ?_) (fun hb => ?_) <;> (try simp only [decide_eq_true_eq, decide_eq_false_iff_not, Bool.not_eq_true', Bool.not_eq_false', reduceCtorEq, Bool.true_eq_false, Bool.false_eq_true] at hb) <;> (try omega))|refine tri_unk (by rfl) ?_ ?_|refine And.intro (by first|omega|(unfold InR; omega)|assumption|decide|exact ⟨_, _, rfl⟩) ?_|(refine ⟨fun hc => ?_, fun hc => ?_⟩)|(intro hc; try omega))
  refine tri_loopI (fun k : Nat => AS.of [(6, .one (.ref 14)), (7, .one (.ref 17)), (18, .one (.val (.sl (.sl .int)) p)), (19, .I p.length), (20, .I k)] [(14, .flat 3 .int (upto (leftRow p) k (a, b)).1), (17, .flat 3 .int (upto (leftRow p) k (a, b)).2)] []) (fun k => k ≤ p.length) (fun k => p.length - k) 0 (Nat.zero_le _) ?_ ?_
  · refine weak_of ?_ ?_ ?_ <;> simp only [push_cast, Int.reduceEq, Int.reduceLT, Int.reduceLE, Int.reduceNeg, Nat.reduceLT, Nat.reduceLeDiff, Int.reduceToNat, Int.cast_ofNat_Int, Nat.reduceBEq, Nat.reduceMul, Nat.reduceEqDiff, reduceCtorEq, Nat.reduceAdd]
    exact ⟨.inl rfl, .inl rfl⟩
  intro k hk K' hL
  repeat' (first|(refine goK (by assumption) ?_; iterate 4 (try clear hK K))|(refine tri_seqk fun K hK => ?_)|((first|refine tri_region hE rfl ?_|refine tri_ret ?_); simp +contextual only [hnl, ↓kN, ↓kP, ↓kG, ↓qN, ↓qP, ↓qG, push_cast, Int.reduceEq, Int.reduceLT, Int.reduceLE, Int.reduceNeg, Nat.reduceLT, Nat.reduceLeDiff, Int.reduceToNat, Int.cast_ofNat_Int, Nat.reduceBEq, Nat.reduceMul, Nat.reduceEqDiff, reduceCtorEq, Nat.reduceAdd])|refine tri_block ?_|((first|refine tri_skip ?_|refine tri_exit ?_); simp only [thenQ, blockQ, if_true, if_false, Nat.reduceEqDiff, reduceCtorEq])|(refine tri_cond (by rfl) (fun hb => ?_) (fun hb => ?_) <;> (try simp only [decide_eq_true_eq, decide_eq_false_iff_not, Bool.not_eq_true', Bool.not_eq_false', reduceCtorEq, Bool.true_eq_false, Bool.false_eq_true] at hb) <;> (try omega))|refine tri_unk (by rfl) ?_ ?_|refine And.intro (by first|omega|(unfold InR; omega)|assumption|decide|exact ⟨_, _, rfl⟩) ?_|(refine ⟨fun hc => ?_, fun hc => ?_⟩)|(intro hc; try omega))
  · have hk' : k < p.length := by omega
    have hcl := hpre.cols k hk'
    refine tri_loopI (fun j : Nat => AS.of [(6, .one (.ref 14)), (7, .one (.ref 17)), (8, .I k), (18, .one (.val (.sl (.sl .int)) p)), (19, .I p.length), (20, .I k), (25, .one (.val (.sl .int) (p.getD k []))), (26, .I (p.getD k []).length), (27, .I j)] [(14, .flat 3 .int (upto (leftStep p k) j (upto (leftRow p) k (a, b))).1), (17, .flat 3 .int (upto (leftStep p k) j (upto (leftRow p) k (a, b))).2)] []) (fun j => j ≤ (p.getD k []).length) (fun j => (p.getD k []).length - j) 0 (Nat.zero_le _) ?_ ?_
    · refine weak_of ?_ ?_ ?_ <;> simp only [push_cast, Int.reduceEq, Int.reduceLT, Int.reduceLE, Int.reduceNeg, Nat.reduceLT, Nat.reduceLeDiff, Int.reduceToNat, Int.cast_ofNat_Int, Nat.reduceBEq, Nat.reduceMul, Nat.reduceEqDiff, reduceCtorEq, Nat.reduceAdd]
      exact ⟨.inl rfl, .inl rfl⟩
    intro j hj K2 hL2
    have hs := LSt.row hpre (LSt.all hpre k (by omega)) hk' j (by omega)
    have hs1 := hs.l1
    have hs2 := hs.l2
    have hn : j < b.length → _ := fun h => (hpre.mem k hk').at (i := j) (by omega)
    have hx1 := hs.b1.at (i := k) (by omega)
    have hx2 : j < b.length → _ := fun h => hs.b2.at (i := j) (by omega)
    have hup : upto (leftStep p k) (j + 1) (upto (leftRow p) k (a, b)) = leftStep p k j (upto (leftStep p k) j (upto (leftRow p) k (a, b))) := rfl
    generalize hse : upto (leftStep p k) j (upto (leftRow p) k (a, b)) = s at hs1 hs2 hx1 hx2 hup ⊢
    repeat' (first|(refine goK (by assumption) ?_; iterate 4 (try clear hK K))|(refine tri_seqk fun K hK => ?_)|((first|refine tri_region hE rfl ?_|refine tri_ret ?_); simp +contextual only [hnl, ↓kN, ↓kP, ↓kG, ↓qN, ↓qP, ↓qG, push_cast, Int.reduceEq, Int.reduceLT, Int.reduceLE, Int.reduceNeg, Nat.reduceLT, Nat.reduceLeDiff, Int.reduceToNat, Int.cast_ofNat_Int, Nat.reduceBEq, Nat.reduceMul, Nat.reduceEqDiff, reduceCtorEq, Nat.reduceAdd])|refine tri_block ?_|((first|refine tri_skip ?_|refine tri_exit ?_); simp only [thenQ, blockQ, if_true, if_false, Nat.reduceEqDiff, reduceCtorEq])|(refine tri_cond (by rfl) (fun hb => ?_) (fun hb => ?_) <;> (try simp only [decide_eq_true_eq, decide_eq_false_iff_not, Bool.not_eq_true', Bool.not_eq_false', reduceCtorEq, Bool.true_eq_false, Bool.false_eq_true] at hb) <;> (try omega))|refine tri_unk (by rfl) ?_ ?_|refine And.intro (by first|omega|(unfold InR; omega)|assumption|decide|exact ⟨_, _, rfl⟩) ?_|(refine ⟨fun hc => ?_, fun hc => ?_⟩)|(intro hc; try omega))
    · refine hL2 _ (j + 1) (by omega) (by omega) ?_
      refine weak_of ?_ ?_ ?_ <;> simp only [push_cast, Int.reduceEq, Int.reduceLT, Int.reduceLE, Int.reduceNeg, Nat.reduceLT, Nat.reduceLeDiff, Int.reduceToNat, Int.cast_ofNat_Int, Nat.reduceBEq, Nat.reduceMul, Nat.reduceEqDiff, reduceCtorEq, Nat.reduceAdd]
      rw [hup]
      exact ⟨.inl rfl, .inl rfl⟩
    · obtain rfl : j = (p.getD k []).length := by omega
      have hnx : upto (leftRow p) (k + 1) (a, b) = s := hse
      refine hL _ (k + 1) (by omega) (by omega) ?_
      refine weak_of ?_ ?_ ?_ <;> simp only [push_cast, Int.reduceEq, Int.reduceLT, Int.reduceLE, Int.reduceNeg, Nat.reduceLT, Nat.reduceLeDiff, Int.reduceToNat, Int.cast_ofNat_Int, Nat.reduceBEq, Nat.reduceMul, Nat.reduceEqDiff, reduceCtorEq, Nat.reduceAdd]
      rw [hnx]
      exact ⟨.inl rfl, .inl rfl⟩
  · obtain rfl : k = p.length := by omega
    exact ⟨rfl, rfl⟩
end Go.Proofs.Ytikjejmekfpofaa
