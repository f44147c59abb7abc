/- A round of links, as the program finds it. Conditions: in each contract. -/
import Derived.Test.YtloipnalmkdldaaWi
import Derived.Test.YtloipnalmkdldaaWb
namespace Go.Proofs.Ytloipnalmkdldaa
open Go.RowKit Go.VS Go.OT
set_option linter.unusedSimpArgs false
set_option linter.unusedVariables false

/-! ### The way -/
def metP (W : List Pr) (x : Pr) (i : Nat) : Prop := (W.length - i) % 2 = 1 ∧ meets (decide (W.length % 2 = 1)) (W.getD i (0, 0)) x
instance (W : List Pr) (x : Pr) (i : Nat) : Decidable (metP W x i) := by unfold metP; infer_instance
def metF (W : List Pr) (x : Pr) : Option Nat := (List.range (W.length - 1)).find? fun i => decide (metP W x i)
def nextI (m W : List Pr) : Int := findI (mate (decide (W.length % 2 = 1)) (W.getD (W.length - 1) (0, 0))) m
def nextL (m W : List Pr) : Pr := m.getD (nextI m W).toNat (0, 0)
def roundW (m : List Pr) : Nat → List Pr → List Pr
  | 0, _ => []
  | n + 1, W => match metF W (nextL m W) with
    | some i => (W ++ [nextL m W]).drop i
    | none => roundW m n (W ++ [nextL m W])
def roundV (l : List Pr) : List Pr := if boundV l = [] then [] else roundW (boundV l) 3000 [(boundV l).getD 0 (0, 0)]
theorem metF_some {W : List Pr} {x : Pr} {i : Nat} (hi : i + 1 < W.length) (hm : metP W x i) (hn : ∀ k, k < i → ¬ metP W x k) : metF W x = some i := by
  unfold metF
  rw [List.find?_range_eq_some]
  exact ⟨decide_eq_true hm, List.mem_range.2 (by omega), fun j hj => by rw [decide_eq_false (hn j hj)]; rfl⟩
theorem metF_none {W : List Pr} {x : Pr} (hn : ∀ k, k + 1 < W.length → ¬ metP W x k) : metF W x = none := by
  unfold metF
  rw [List.find?_range_eq_none]
  exact fun j hj => by rw [decide_eq_false (hn j (by omega))]; rfl
theorem metF_in {W : List Pr} {x : Pr} {i : Nat} (h : metF W x = some i) : i + 1 < W.length ∧ metP W x i := by
  unfold metF at h
  rw [List.find?_range_eq_some] at h
  have := List.mem_range.1 h.2.1
  exact ⟨by omega, of_decide_eq_true h.1⟩
theorem metF_no {W : List Pr} {x : Pr} (h : metF W x = none) : ∀ k, k + 1 < W.length → ¬ metP W x k := by
  unfold metF at h
  rw [List.find?_range_eq_none] at h
  intro k hk hm
  have := h k (by omega)
  rw [decide_eq_true hm] at this
  exact absurd this (by simp)
theorem met_iff {W : List Pr} {x : Pr} {i : Nat} (hi : i + 1 < W.length) : metP W x i ↔ ((W.length : Int) + 1 - 1 - i).tmod 2 = 1 ∧ ((W.length % 2 = 1 ∧ ((W ++ [x]).getD i (0, 0)).2 = x.2) ∨ (¬ W.length % 2 = 1 ∧ ((W ++ [x]).getD i (0, 0)).1 = x.1)) := by
  have e1 : (W ++ [x]).getD i (0, 0) = W.getD i (0, 0) := by rw [getD_snoc, if_pos (by omega)]
  have e2 : ((W.length : Int) + 1 - 1 - i).tmod 2 = ((W.length - i) % 2 : Nat) := by
    rw [Int.tmod_eq_emod_of_nonneg (by omega)]
    omega
  unfold metP meets
  rw [e1, e2]
  by_cases h : W.length % 2 = 1
  · rw [decide_eq_true h, if_pos rfl]
    constructor
    · exact fun hh => ⟨by omega, .inl ⟨h, hh.2⟩⟩
    · rintro ⟨h1, h2 | h2⟩
      · exact ⟨by omega, h2.2⟩
      · exact absurd h h2.1
  · rw [decide_eq_false h, if_neg (by simp)]
    constructor
    · exact fun hh => ⟨by omega, .inr ⟨h, hh.2⟩⟩
    · rintro ⟨h1, h2 | h2⟩
      · exact absurd h2.1 h
      · exact ⟨by omega, h2.2⟩
theorem findI_at {p : Pr → Bool} : ∀ {l : List Pr}, 0 ≤ findI p l → findI p l < l.length ∧ p (l.getD (findI p l).toNat (0, 0)) = true
  | [], h => by simp [findI] at h
  | x :: l, h => by
    simp only [findI] at h ⊢
    by_cases hx : p x = true
    · rw [if_pos hx]
      exact ⟨by rw [List.length_cons]; omega, by simpa using hx⟩
    · rw [if_neg hx] at h ⊢
      have hge := findI_ge p l
      by_cases hr : findI p l < 0
      · rw [if_pos hr] at h; omega
      · rw [if_neg hr]
        obtain ⟨h1, h2⟩ := findI_at (p := p) (l := l) (by omega)
        refine ⟨by rw [List.length_cons]; omega, ?_⟩
        rw [show (findI p l + 1).toNat = (findI p l).toNat + 1 by omega, List.getD_cons_succ]
        exact h2
section
variable {m W : List Pr}
theorem next_ok (hd : m.Nodup) (hp : peel m = m) (h : LkWay m W) : 0 ≤ nextI m W ∧ nextI m W < m.length ∧ nextL m W ∈ m ∧ mate (decide (W.length % 2 = 1)) (W.getD (W.length - 1) (0, 0)) (nextL m W) = true := by
  have hpos := h.pos
  have hl := h.mem (W.length - 1) (by omega)
  obtain ⟨⟨y, y1, y2, y3⟩, z, z1, z2, z3⟩ := row_other hd hp hl
  have h0 : 0 ≤ nextI m W := by
    unfold nextI
    rw [findI_any, List.any_eq_true]
    by_cases hb : W.length % 2 = 1
    · refine ⟨y, y1, ?_⟩
      unfold mate
      rw [decide_eq_true hb, decide_eq_false y3, decide_eq_true y2]
      rfl
    · refine ⟨z, z1, ?_⟩
      unfold mate
      rw [decide_eq_false hb, decide_eq_false z3, decide_eq_true z2]
      rfl
  obtain ⟨h1, h2⟩ := findI_at h0
  have h3 : nextI m W < m.length := h1
  exact ⟨h0, h1, getD_mem _ (by omega), h2⟩
theorem way_more (hd : m.Nodup) (hp : peel m = m) (h : LkWay m W) (hn : ∀ k, k + 1 < W.length → ¬ metP W (nextL m W) k) : LkWay m (W ++ [nextL m W]) := by
  obtain ⟨_, _, h3, h4⟩ := next_ok hd hp h
  exact h.more h3 h4 fun i hi h2 hm => hn i hi ⟨h2, hm⟩
theorem roundW_rnd (hd : m.Nodup) (hp : peel m = m) {C : Nat} (hc : ∀ x ∈ m, 0 ≤ x.2 ∧ x.2 < C) : ∀ (n : Nat) (W : List Pr), LkWay m W → 2 * C < n + W.length → ∃ b, Rnd m (roundW m n W) b
  | 0, W, h, hn => by have := h.short hc; omega
  | n + 1, W, h, hn => by
    obtain ⟨_, _, h3, h4⟩ := next_ok hd hp h
    unfold roundW
    cases hm : metF W (nextL m W) with
    | some i =>
      obtain ⟨k1, k2, k3⟩ := metF_in hm
      exact ⟨_, h.round h3 h4 k1 k2 k3⟩
    | none => exact roundW_rnd hd hp hc n _ (way_more hd hp h (metF_no hm)) (by simp; omega)
end
theorem bound_nd {l : List Pr} (h : l.Nodup) : (boundV l).Nodup := (bound_sub l).nodup h
theorem bound_in {l : List Pr} (h : InB l) : InB (boundV l) := fun p hp => h p ((bound_sub l).subset hp)
theorem getD0_mem {m : List Pr} (h : m ≠ []) : m.getD 0 (0, 0) ∈ m := getD_mem _ (List.length_pos_iff.2 h)
theorem roundV_rnd {l : List Pr} (hd : l.Nodup) (hi : InB l) (h : boundV l ≠ []) : ∃ b, Rnd (boundV l) (roundV l) b := by
  unfold roundV
  rw [if_neg h]
  exact roundW_rnd (bound_nd hd) (bound_fix l) (C := 1001) (fun x hx => by have := bound_in hi x hx; omega) 3000 _ (LkWay.start (getD0_mem h)) (by simp)

/-! ### Its closure -/
@[push_cast] def mateClo : Clo := ⟨[.prod .int .int, .bool], [.prod .int .int], .bool, fun _ _ => True, fun (y : Pr × Bool × Unit) (x : Pr × Unit) => mate y.2.1 y.1 x.1⟩
@[push_cast] def mateCon : Con := ⟨[.dat (.prod .int .int), .ptr (.prod .int .int), .ptr .bool], fun _ => True, fun (x : Pr × Pr × Bool × Unit) => { res := [.val .bool (mate x.2.2.1 x.2.1 x.1)] }⟩
theorem mate_tt (last x : Pr) (h : x ≠ last) : mate true last x = decide (x.1 = last.1) := by unfold mate; rw [decide_eq_false h]; simp
theorem mate_ff (last x : Pr) (h : x ≠ last) : mate false last x = decide (x.2 = last.2) := by unfold mate; rw [decide_eq_false h]; simp
theorem mate_eq (b : Bool) (last x : Pr) (h : x = last) : mate b last x = false := by unfold mate; rw [decide_eq_true h]; simp
theorem mate1_fn : FnSpec Try.prog 54 mateCon := by
  refine FnSpec.of_tri' (E := know [] [] [] []) (know_ok all_nil all_nil all_nil) Try.func54 rfl rfl (by kernel_rfl) ?_
  intro C x hE hnl hfit hpre
  simp only [Try.ntmps54, Try.results54, maxLen, Nat.reduceSub, Nat.reducePow, Nat.reduceAdd, Int.cast_ofNat_Int, push_cast] at hnl hfit hpre ⊢
  obtain ⟨(p : Pr), (last : Pr), (b : Bool), _⟩ := x
  dsimp only at hfit hpre ⊢
  by_cases h : p = last
  · replace hnl := And.intro hnl (And.intro (mate_eq b last p h) boolsF)
    cases b
    all_goals repeat' (first|(refine goK (by assumption) ?_; iterate 4 (try clear hK K))|(refine tri_seqk fun K hK => ?_)|((first|refine tri_region hE rfl ?_|refine tri_ret ?_|((first|refine tri_drawP hE 1 rfl rfl (by kernel_rfl) ?_|refine tri_drawP hE 2 rfl rfl (by kernel_rfl) ?_|refine tri_drawP hE 3 rfl rfl (by kernel_rfl) ?_|refine tri_drawP hE 4 rfl rfl (by kernel_rfl) ?_); simp only [List.length_cons, List.length_nil, Nat.reduceAdd, Nat.reduceSub, List.take_succ_cons, List.take_zero, List.drop_succ_cons, List.drop_zero])); simp +contextual only [hnl, ↓kN, ↓kP, ↓kG, ↓qN, ↓qP, ↓qG, push_cast, Int.reduceEq, Int.reduceLT, Int.reduceLE, Int.reduceNeg, Nat.reduceLT, Nat.reduceLeDiff, Int.reduceToNat, Int.cast_ofNat_Int, Nat.reduceBEq, Nat.reduceMul, Nat.reduceEqDiff, reduceCtorEq, Nat.reduceAdd])|refine tri_block ?_|((first|refine tri_skip ?_|refine tri_exit ?_); simp only [thenQ, blockQ, if_true, if_false, Nat.reduceEqDiff, reduceCtorEq])|(refine tri_cond (by rfl) (fun hb => ?_) (fun hb => ?_) <;> (try simp only [decide_eq_true_eq, decide_eq_false_iff_not, Bool.not_eq_true', Bool.not_eq_false', reduceCtorEq, Bool.true_eq_false, Bool.false_eq_true] at hb) <;> (try omega))|refine tri_unk (by rfl) ?_ ?_|refine And.intro (by first|omega|(unfold InR; omega)|assumption|decide|exact ⟨_, _, rfl⟩) ?_|(refine ⟨fun hc => ?_, fun hc => ?_⟩)|(intro hc; try omega))
    all_goals first | contradiction | exact (decide_eq_false (by assumption)).symm | exact (decide_eq_true (by assumption)).symm | trace_state
  · cases b
    · replace hnl := And.intro hnl (And.intro (mate_ff last p h) boolsF)
      repeat' (first|(refine goK (by assumption) ?_; iterate 4 (try clear hK K))|(refine tri_seqk fun K hK => ?_)|((first|refine tri_region hE rfl ?_|refine tri_ret ?_|((first|refine tri_drawP hE 1 rfl rfl (by kernel_rfl) ?_|refine tri_drawP hE 2 rfl rfl (by kernel_rfl) ?_|refine tri_drawP hE 3 rfl rfl (by kernel_rfl) ?_|refine tri_drawP hE 4 rfl rfl (by kernel_rfl) ?_); simp only [List.length_cons, List.length_nil, Nat.reduceAdd, Nat.reduceSub, List.take_succ_cons, List.take_zero, List.drop_succ_cons, List.drop_zero])); simp +contextual only [hnl, ↓kN, ↓kP, ↓kG, ↓qN, ↓qP, ↓qG, push_cast, Int.reduceEq, Int.reduceLT, Int.reduceLE, Int.reduceNeg, Nat.reduceLT, Nat.reduceLeDiff, Int.reduceToNat, Int.cast_ofNat_Int, Nat.reduceBEq, Nat.reduceMul, Nat.reduceEqDiff, reduceCtorEq, Nat.reduceAdd])|refine tri_block ?_|((first|refine tri_skip ?_|refine tri_exit ?_); simp only [thenQ, blockQ, if_true, if_false, Nat.reduceEqDiff, reduceCtorEq])|(refine tri_cond (by rfl) (fun hb => ?_) (fun hb => ?_) <;> (try simp only [decide_eq_true_eq, decide_eq_false_iff_not, Bool.not_eq_true', Bool.not_eq_false', reduceCtorEq, Bool.true_eq_false, Bool.false_eq_true] at hb) <;> (try omega))|refine tri_unk (by rfl) ?_ ?_|refine And.intro (by first|omega|(unfold InR; omega)|assumption|decide|exact ⟨_, _, rfl⟩) ?_|(refine ⟨fun hc => ?_, fun hc => ?_⟩)|(intro hc; try omega))
      all_goals first | contradiction | exact (decide_eq_false (by assumption)).symm | exact (decide_eq_true (by assumption)).symm | trace_state
    · replace hnl := And.intro hnl (And.intro (mate_tt last p h) boolsF)
      repeat' (first|(refine goK (by assumption) ?_; iterate 4 (try clear hK K))|(refine tri_seqk fun K hK => ?_)|((first|refine tri_region hE rfl ?_|refine tri_ret ?_|((first|refine tri_drawP hE 1 rfl rfl (by kernel_rfl) ?_|refine tri_drawP hE 2 rfl rfl (by kernel_rfl) ?_|refine tri_drawP hE 3 rfl rfl (by kernel_rfl) ?_|refine tri_drawP hE 4 rfl rfl (by kernel_rfl) ?_); simp only [List.length_cons, List.length_nil, Nat.reduceAdd, Nat.reduceSub, List.take_succ_cons, List.take_zero, List.drop_succ_cons, List.drop_zero])); simp +contextual only [hnl, ↓kN, ↓kP, ↓kG, ↓qN, ↓qP, ↓qG, push_cast, Int.reduceEq, Int.reduceLT, Int.reduceLE, Int.reduceNeg, Nat.reduceLT, Nat.reduceLeDiff, Int.reduceToNat, Int.cast_ofNat_Int, Nat.reduceBEq, Nat.reduceMul, Nat.reduceEqDiff, reduceCtorEq, Nat.reduceAdd])|refine tri_block ?_|((first|refine tri_skip ?_|refine tri_exit ?_); simp only [thenQ, blockQ, if_true, if_false, Nat.reduceEqDiff, reduceCtorEq])|(refine tri_cond (by rfl) (fun hb => ?_) (fun hb => ?_) <;> (try simp only [decide_eq_true_eq, decide_eq_false_iff_not, Bool.not_eq_true', Bool.not_eq_false', reduceCtorEq, Bool.true_eq_false, Bool.false_eq_true] at hb) <;> (try omega))|refine tri_unk (by rfl) ?_ ?_|refine And.intro (by first|omega|(unfold InR; omega)|assumption|decide|exact ⟨_, _, rfl⟩) ?_|(refine ⟨fun hc => ?_, fun hc => ?_⟩)|(intro hc; try omega))
      all_goals first | contradiction | exact (decide_eq_false (by assumption)).symm | exact (decide_eq_true (by assumption)).symm | trace_state
theorem mate1_spec : CloSpec Try.prog 54 mateClo := CloSpec.of mate1_fn

@[push_cast] def roundCon : Con := ⟨[.dat (.sl (.prod .int .int))], fun (x : List Pr × Unit) => x.1.length ≤ 25 ∧ InB x.1 ∧ x.1.Nodup, fun (x : List Pr × Unit) => if boundV x.1 = [] then { res := [.nil] } else { res := [.val (.sl (.prod .int .int)) (roundV x.1)] }⟩
set_option maxHeartbeats 2000000 in
theorem round_spec : FnSpec Try.prog 40 roundCon := by
  refine FnSpec.of_tri' (E := know [(30, boundCon), (53, indexPCon)] [(54, mateClo)] [] [16]) (know_ok (all_cons bound_spec (all_cons indexP_spec all_nil)) (all_cons mate1_spec all_nil) all_nil) Try.func40 rfl rfl (by kernel_rfl) ?_
  intro C x hE hnl hfit hpre
  simp only [Try.ntmps40, Try.results40, maxLen, Nat.reduceSub, Nat.reducePow, Nat.reduceAdd, Int.cast_ofNat_Int, push_cast] at hnl hfit hpre ⊢
  obtain ⟨(l : List Pr), _⟩ := x
  dsimp only at hfit hpre ⊢
  obtain ⟨h1, h2, h3⟩ := hpre
  obtain ⟨m, hm⟩ : ∃ m, m = boundV l := ⟨_, rfl⟩
  have hmd := bound_nd h3
  have hmi := bound_in h2
  have hmp := bound_fix l
  have hml := (bound_sub l).length_le
  have hrv : roundV l = if m = [] then [] else roundW m 3000 [m.getD 0 (0, 0)] := by rw [hm]; rfl
  rw [← hm] at hmd hmi hmp hml
  have hpc : l.length ≤ 25 ∧ InB l := ⟨h1, h2⟩
  by_cases h0 : m = []
  · rw [if_pos (hm ▸ h0)]
    rw [if_pos h0] at hrv
    replace hnl := And.intro hnl (And.intro hrv (And.intro hm.symm (And.intro (congrArg List.length h0) boolsF)))
    repeat' (first|(refine goK (by assumption) ?_; iterate 4 (try clear hK K))|(refine tri_seqk fun K hK => ?_)|((first|refine tri_region hE rfl ?_|refine tri_ret ?_|((first|refine tri_drawP hE 1 rfl rfl (by kernel_rfl) ?_|refine tri_drawP hE 2 rfl rfl (by kernel_rfl) ?_|refine tri_drawP hE 3 rfl rfl (by kernel_rfl) ?_|refine tri_drawP hE 4 rfl rfl (by kernel_rfl) ?_); simp only [List.length_cons, List.length_nil, Nat.reduceAdd, Nat.reduceSub, List.take_succ_cons, List.take_zero, List.drop_succ_cons, List.drop_zero])); simp +contextual only [hnl, ↓kN, ↓kP, ↓kG, ↓qN, ↓qP, ↓qG, push_cast, Int.reduceEq, Int.reduceLT, Int.reduceLE, Int.reduceNeg, Nat.reduceLT, Nat.reduceLeDiff, Int.reduceToNat, Int.cast_ofNat_Int, Nat.reduceBEq, Nat.reduceMul, Nat.reduceEqDiff, reduceCtorEq, Nat.reduceAdd])|refine tri_block ?_|((first|refine tri_skip ?_|refine tri_exit ?_); simp only [thenQ, blockQ, if_true, if_false, Nat.reduceEqDiff, reduceCtorEq])|(refine tri_cond (by rfl) (fun hb => ?_) (fun hb => ?_) <;> (try simp only [decide_eq_true_eq, decide_eq_false_iff_not, Bool.not_eq_true', Bool.not_eq_false', reduceCtorEq, Bool.true_eq_false, Bool.false_eq_true] at hb) <;> (try omega))|refine tri_unk (by rfl) ?_ ?_|refine And.intro (by first|omega|(unfold InR; omega)|assumption|decide|exact ⟨_, _, rfl⟩) ?_|(refine ⟨fun hc => ?_, fun hc => ?_⟩)|(intro hc; try omega))
    all_goals trace_state
  · rw [if_neg (hm ▸ h0)]
    rw [if_neg h0] at hrv
    have hlp := List.length_pos_iff.2 h0
    replace hnl := And.intro hnl (And.intro hm.symm boolsF)
    repeat' (first|(refine goK (by assumption) ?_; iterate 4 (try clear hK K))|(refine tri_seqk fun K hK => ?_)|((first|refine tri_region hE rfl ?_|refine tri_ret ?_|((first|refine tri_drawP hE 1 rfl rfl (by kernel_rfl) ?_|refine tri_drawP hE 2 rfl rfl (by kernel_rfl) ?_|refine tri_drawP hE 3 rfl rfl (by kernel_rfl) ?_|refine tri_drawP hE 4 rfl rfl (by kernel_rfl) ?_); simp only [List.length_cons, List.length_nil, Nat.reduceAdd, Nat.reduceSub, List.take_succ_cons, List.take_zero, List.drop_succ_cons, List.drop_zero])); simp +contextual only [hnl, ↓kN, ↓kP, ↓kG, ↓qN, ↓qP, ↓qG, push_cast, Int.reduceEq, Int.reduceLT, Int.reduceLE, Int.reduceNeg, Nat.reduceLT, Nat.reduceLeDiff, Int.reduceToNat, Int.cast_ofNat_Int, Nat.reduceBEq, Nat.reduceMul, Nat.reduceEqDiff, reduceCtorEq, Nat.reduceAdd])|refine tri_block ?_|((first|refine tri_skip ?_|refine tri_exit ?_); simp only [thenQ, blockQ, if_true, if_false, Nat.reduceEqDiff, reduceCtorEq])|(refine tri_cond (by rfl) (fun hb => ?_) (fun hb => ?_) <;> (try simp only [decide_eq_true_eq, decide_eq_false_iff_not, Bool.not_eq_true', Bool.not_eq_false', reduceCtorEq, Bool.true_eq_false, Bool.false_eq_true] at hb) <;> (try omega))|refine tri_unk (by rfl) ?_ ?_|refine And.intro (by first|omega|(unfold InR; omega)|assumption|decide|exact ⟨_, _, rfl⟩) ?_|(refine ⟨fun hc => ?_, fun hc => ?_⟩)|(intro hc; try omega))
    refine tri_loopI (fun W : List Pr => AS.of [(0, .one (.val (.sl (.prod .int .int)) m)), (3, .one (.ref 16)), (4, .one (.box 4))] [(16, .flat 32 (.prod .int .int) W)] [(4, .one (.val .bool (decide (W.length % 2 = 1))))])
      (fun W => LkWay m W ∧ roundW m (3000 - W.length + 1) W = roundV l) (fun W => 3000 - W.length) [m.getD 0 (0, 0)] ⟨LkWay.start (getD0_mem h0), hrv.symm⟩ ?_ ?_
    · refine weak_of ?_ ?_ ?_ <;> simp only [push_cast, Int.reduceEq, Int.reduceLT, Int.reduceLE, Int.reduceNeg, Nat.reduceLT, Nat.reduceLeDiff, Int.reduceToNat, Int.cast_ofNat_Int, Nat.reduceBEq, Nat.reduceMul, Nat.reduceEqDiff, reduceCtorEq, Nat.reduceAdd]
      all_goals trace_state
    intro W ⟨hW, hR⟩ K' hL
    have hWl := hW.short (C := 1001) (fun x hx => by have := hmi x hx; omega)
    have hWp := hW.pos
    obtain ⟨n1, n2, n3, n4⟩ := next_ok hmd hmp hW
    have hni : findI (fun y => mate (decide (W.length % 2 = 1)) (W.getD (W.length - 1) (0, 0)) y) m = nextI m W := rfl
    have hnl2 : m.getD (nextI m W).toNat (0, 0) = nextL m W := rfl
    have hw1 : ((W.length : Int) - 1).toNat = W.length - 1 := by omega
    have hidx : 0 ≤ nextI m W ∧ nextI m W < m.length := ⟨n1, n2⟩
    have hlen2 : (W ++ [nextL m W]).length = W.length + 1 := by rw [List.length_append]; rfl
    obtain ⟨x, hx⟩ : ∃ x, x = nextL m W := ⟨_, rfl⟩
    rw [← hx] at n3 n4 hlen2 hnl2
    have hRu : ∀ n, roundW m (n + 1) W = match metF W x with | some i => (W ++ [x]).drop i | none => roundW m n (W ++ [x]) := fun n => by rw [hx]; rfl
    rw [hRu] at hR
    have hmo : (∀ k, k + 1 < W.length → ¬ metP W x k) → LkWay m (W ++ [x]) := by rw [hx]; exact way_more hmd hmp hW
    replace hnl := And.intro hnl (And.intro hni (And.intro hnl2 (And.intro hw1 hlen2)))
    repeat' (first|(refine goK (by assumption) ?_; iterate 4 (try clear hK K))|(refine tri_seqk fun K hK => ?_)|((first|refine tri_region hE rfl ?_|refine tri_ret ?_|((first|refine tri_drawP hE 1 rfl rfl (by kernel_rfl) ?_|refine tri_drawP hE 2 rfl rfl (by kernel_rfl) ?_|refine tri_drawP hE 3 rfl rfl (by kernel_rfl) ?_|refine tri_drawP hE 4 rfl rfl (by kernel_rfl) ?_); simp only [List.length_cons, List.length_nil, Nat.reduceAdd, Nat.reduceSub, List.take_succ_cons, List.take_zero, List.drop_succ_cons, List.drop_zero])); simp +contextual only [hnl, ↓kN, ↓kP, ↓kG, ↓qN, ↓qP, ↓qG, push_cast, Int.reduceEq, Int.reduceLT, Int.reduceLE, Int.reduceNeg, Nat.reduceLT, Nat.reduceLeDiff, Int.reduceToNat, Int.cast_ofNat_Int, Nat.reduceBEq, Nat.reduceMul, Nat.reduceEqDiff, reduceCtorEq, Nat.reduceAdd])|refine tri_block ?_|((first|refine tri_skip ?_|refine tri_exit ?_); simp only [thenQ, blockQ, if_true, if_false, Nat.reduceEqDiff, reduceCtorEq])|(refine tri_cond (by rfl) (fun hb => ?_) (fun hb => ?_) <;> (try simp only [decide_eq_true_eq, decide_eq_false_iff_not, Bool.not_eq_true', Bool.not_eq_false', reduceCtorEq, Bool.true_eq_false, Bool.false_eq_true] at hb) <;> (try omega))|refine tri_unk (by rfl) ?_ ?_|refine And.intro (by first|omega|(unfold InR; omega)|assumption|decide|exact ⟨_, _, rfl⟩) ?_|(refine ⟨fun hc => ?_, fun hc => ?_⟩)|(intro hc; try omega))
    refine tri_loopI (fun i : Nat => AS.of [(0, .one (.val (.sl (.prod .int .int)) m)), (3, .one (.ref 16)), (4, .one (.box 4)), (6, .one (.box 6)), (7, .I i)] [(16, .flat 32 (.prod .int .int) (W ++ [x]))] [(4, .one (.val .bool (decide (W.length % 2 = 1)))), (6, .one (.val (.prod .int .int) x))])
      (fun i => i + 1 ≤ W.length ∧ ∀ k, k < i → ¬ metP W x k) (fun i => W.length - i) 0 ⟨hWp, fun k hk => absurd hk (Nat.not_lt_zero _)⟩ ?_ ?_
    · refine weak_of ?_ ?_ ?_ <;> simp only [push_cast, Int.reduceEq, Int.reduceLT, Int.reduceLE, Int.reduceNeg, Nat.reduceLT, Nat.reduceLeDiff, Int.reduceToNat, Int.cast_ofNat_Int, Nat.reduceBEq, Nat.reduceMul, Nat.reduceEqDiff, reduceCtorEq, Nat.reduceAdd]
      all_goals trace_state
    intro i ⟨hi, hno⟩ K2 hL2
    rcases Nat.lt_or_ge (i + 1) W.length with hil | hil
    · by_cases hmt : metP W x i
      · have hr := metF_some hil hmt hno
        rw [hr] at hR
        refine tri_weak (t := AS.of [(3, .one (.val (.sl (.prod .int .int)) (W ++ [x]))), (4, .one (.box 4)), (6, .one (.box 6)), (7, .I i)] [] [(4, .one (.val .bool (decide (W.length % 2 = 1)))), (6, .one (.val (.prod .int .int) x))]) ?_ ?_
        · refine weak_of ?_ ?_ ?_ <;> simp only [push_cast, Int.reduceEq, Int.reduceLT, Int.reduceLE, Int.reduceNeg, Nat.reduceLT, Nat.reduceLeDiff, Int.reduceToNat, Int.cast_ofNat_Int, Nat.reduceBEq, Nat.reduceMul, Nat.reduceEqDiff, reduceCtorEq, Nat.reduceAdd]
        rw [met_iff hil] at hmt
        repeat' (first|(refine goK (by assumption) ?_; iterate 4 (try clear hK K))|(refine tri_seqk fun K hK => ?_)|((first|refine tri_region hE rfl ?_|refine tri_ret ?_|((first|refine tri_drawP hE 1 rfl rfl (by kernel_rfl) ?_|refine tri_drawP hE 2 rfl rfl (by kernel_rfl) ?_|refine tri_drawP hE 3 rfl rfl (by kernel_rfl) ?_|refine tri_drawP hE 4 rfl rfl (by kernel_rfl) ?_); simp only [List.length_cons, List.length_nil, Nat.reduceAdd, Nat.reduceSub, List.take_succ_cons, List.take_zero, List.drop_succ_cons, List.drop_zero])); simp +contextual only [hnl, ↓kN, ↓kP, ↓kG, ↓qN, ↓qP, ↓qG, push_cast, Int.reduceEq, Int.reduceLT, Int.reduceLE, Int.reduceNeg, Nat.reduceLT, Nat.reduceLeDiff, Int.reduceToNat, Int.cast_ofNat_Int, Nat.reduceBEq, Nat.reduceMul, Nat.reduceEqDiff, reduceCtorEq, Nat.reduceAdd])|refine tri_block ?_|((first|refine tri_skip ?_|refine tri_exit ?_); simp only [thenQ, blockQ, if_true, if_false, Nat.reduceEqDiff, reduceCtorEq])|(refine tri_cond (by rfl) (fun hb => ?_) (fun hb => ?_) <;> (try simp only [decide_eq_true_eq, decide_eq_false_iff_not, Bool.not_eq_true', Bool.not_eq_false', reduceCtorEq, Bool.true_eq_false, Bool.false_eq_true] at hb) <;> (try omega))|refine tri_unk (by rfl) ?_ ?_|refine And.intro (by first|omega|(unfold InR; omega)|assumption|decide|exact ⟨_, _, rfl⟩) ?_|(refine ⟨fun hc => ?_, fun hc => ?_⟩)|(intro hc; try omega))
        all_goals first | exact hR | (exfalso; omega) | trace_state
      · have hm2 := hmt
        rw [met_iff hil] at hmt
        have hno2 : ∀ k, k < i + 1 → ¬ metP W x k := fun k hk => by
          rcases Nat.lt_or_ge k i with hk2 | hk2
          · exact hno k hk2
          · rw [show k = i by omega]; exact hm2
        repeat' (first|(refine goK (by assumption) ?_; iterate 4 (try clear hK K))|(refine tri_seqk fun K hK => ?_)|((first|refine tri_region hE rfl ?_|refine tri_ret ?_|((first|refine tri_drawP hE 1 rfl rfl (by kernel_rfl) ?_|refine tri_drawP hE 2 rfl rfl (by kernel_rfl) ?_|refine tri_drawP hE 3 rfl rfl (by kernel_rfl) ?_|refine tri_drawP hE 4 rfl rfl (by kernel_rfl) ?_); simp only [List.length_cons, List.length_nil, Nat.reduceAdd, Nat.reduceSub, List.take_succ_cons, List.take_zero, List.drop_succ_cons, List.drop_zero])); simp +contextual only [hnl, ↓kN, ↓kP, ↓kG, ↓qN, ↓qP, ↓qG, push_cast, Int.reduceEq, Int.reduceLT, Int.reduceLE, Int.reduceNeg, Nat.reduceLT, Nat.reduceLeDiff, Int.reduceToNat, Int.cast_ofNat_Int, Nat.reduceBEq, Nat.reduceMul, Nat.reduceEqDiff, reduceCtorEq, Nat.reduceAdd])|refine tri_block ?_|((first|refine tri_skip ?_|refine tri_exit ?_); simp only [thenQ, blockQ, if_true, if_false, Nat.reduceEqDiff, reduceCtorEq])|(refine tri_cond (by rfl) (fun hb => ?_) (fun hb => ?_) <;> (try simp only [decide_eq_true_eq, decide_eq_false_iff_not, Bool.not_eq_true', Bool.not_eq_false', reduceCtorEq, Bool.true_eq_false, Bool.false_eq_true] at hb) <;> (try omega))|refine tri_unk (by rfl) ?_ ?_|refine And.intro (by first|omega|(unfold InR; omega)|assumption|decide|exact ⟨_, _, rfl⟩) ?_|(refine ⟨fun hc => ?_, fun hc => ?_⟩)|(intro hc; try omega))
        all_goals first | (exfalso; omega) | (refine hL2 _ (i + 1) ⟨by omega, hno2⟩ (by omega) ?_) | trace_state
        all_goals refine weak_of ?_ ?_ ?_ <;> simp only [push_cast, Int.reduceEq, Int.reduceLT, Int.reduceLE, Int.reduceNeg, Nat.reduceLT, Nat.reduceLeDiff, Int.reduceToNat, Int.cast_ofNat_Int, Nat.reduceBEq, Nat.reduceMul, Nat.reduceEqDiff, reduceCtorEq, Nat.reduceAdd]
        all_goals first | exact (decide_eq_true (by assumption)).symm | exact (decide_eq_false (by assumption)).symm
    · obtain rfl : i = W.length - 1 := by omega
      have hr : metF W x = none := metF_none fun k hk => hno k (by omega)
      rw [hr] at hR
      have hg := hmo fun k hk => hno k (by omega)
      repeat' (first|(refine goK (by assumption) ?_; iterate 4 (try clear hK K))|(refine tri_seqk fun K hK => ?_)|((first|refine tri_region hE rfl ?_|refine tri_ret ?_|((first|refine tri_drawP hE 1 rfl rfl (by kernel_rfl) ?_|refine tri_drawP hE 2 rfl rfl (by kernel_rfl) ?_|refine tri_drawP hE 3 rfl rfl (by kernel_rfl) ?_|refine tri_drawP hE 4 rfl rfl (by kernel_rfl) ?_); simp only [List.length_cons, List.length_nil, Nat.reduceAdd, Nat.reduceSub, List.take_succ_cons, List.take_zero, List.drop_succ_cons, List.drop_zero])); simp +contextual only [hnl, ↓kN, ↓kP, ↓kG, ↓qN, ↓qP, ↓qG, push_cast, Int.reduceEq, Int.reduceLT, Int.reduceLE, Int.reduceNeg, Nat.reduceLT, Nat.reduceLeDiff, Int.reduceToNat, Int.cast_ofNat_Int, Nat.reduceBEq, Nat.reduceMul, Nat.reduceEqDiff, reduceCtorEq, Nat.reduceAdd])|refine tri_block ?_|((first|refine tri_skip ?_|refine tri_exit ?_); simp only [thenQ, blockQ, if_true, if_false, Nat.reduceEqDiff, reduceCtorEq])|(refine tri_cond (by rfl) (fun hb => ?_) (fun hb => ?_) <;> (try simp only [decide_eq_true_eq, decide_eq_false_iff_not, Bool.not_eq_true', Bool.not_eq_false', reduceCtorEq, Bool.true_eq_false, Bool.false_eq_true] at hb) <;> (try omega))|refine tri_unk (by rfl) ?_ ?_|refine And.intro (by first|omega|(unfold InR; omega)|assumption|decide|exact ⟨_, _, rfl⟩) ?_|(refine ⟨fun hc => ?_, fun hc => ?_⟩)|(intro hc; try omega))
      refine hL _ (W ++ [x]) ⟨hg, ?_⟩ (by rw [hlen2]; omega) ?_
      · rw [hlen2, show 3000 - (W.length + 1) + 1 = 3000 - W.length by omega]
        exact hR
      refine weak_of ?_ ?_ ?_ <;> simp only [push_cast, Int.reduceEq, Int.reduceLT, Int.reduceLE, Int.reduceNeg, Nat.reduceLT, Nat.reduceLeDiff, Int.reduceToNat, Int.cast_ofNat_Int, Nat.reduceBEq, Nat.reduceMul, Nat.reduceEqDiff, reduceCtorEq, Nat.reduceAdd]
      rw [hlen2, ← decide_not]
      exact decide_eq_decide.2 (by omega)
end Go.Proofs.Ytloipnalmkdldaa
