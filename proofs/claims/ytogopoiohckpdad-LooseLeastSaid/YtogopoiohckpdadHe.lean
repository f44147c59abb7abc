/- A plan is improved along a round, if there is one. Conditions: in each contract. -/
import Derived.Test.YtogopoiohckpdadHc
namespace Go.Proofs.Ytogopoiohckpdad
open Go.RowKit Go.VS Go.OT Go.LC
set_option linter.unusedSimpArgs false
set_option linter.unusedVariables false


/-- A plan of all of some masses, for a cost table; ends of rows and columns are free. -/
structure ImpPre (c : List (List Int)) (rc : RC) : Prop where
  hrc : rc = .deep 22 3 .int (deepJ rc)
  ex : ∃ a b : List Int, MQ a b c ∧ Pl a b (deepJ rc)
  cols : wid c ≤ 6

abbrev ImpArgs := List (List Int) × RC × Unit
def impL (c p : List (List Int)) : Bool := decide (0 ≤ (lwN c p (c.length + wid c)).last)
@[push_cast] def impCon : Con := ⟨[.dat (.sl (.sl .int)), .lend], fun (x : ImpArgs) => ImpPre x.1 x.2.1,
  fun (x : ImpArgs) => Out.mk [.own (.flat 3 .int (if impL x.1 (deepJ x.2.1) = true then [] else (lwN x.1 (deepJ x.2.1) (x.1.length + wid x.1)).far)), .val .bool (impL x.1 (deepJ x.2.1))]
    [(0, .deep 22 3 .int (if impL x.1 (deepJ x.2.1) = true then impV x.1 (deepJ x.2.1) (x.1.length + wid x.1) else deepJ x.2.1))]⟩

theorem MQ.dims {a b : List Int} {c : List (List Int)} (h : MQ a b c) : c.length = a.length ∧ wid c = b.length := by
  have h1 := h.hc.rows
  have h2 := h.a5
  exact ⟨h1, h.hc.cols 0 (by omega)⟩
theorem low_pre {a b : List Int} {c p : List (List Int)} (hq : MQ a b c) (hp : Pl a b p) (k : Nat) (hk : k ≤ c.length + wid c) : LowPre c p (.flat 3 .int (lwK c p (c.length + wid c) k).far) (.flat 3 .int (lwK c p (c.length + wid c) k).by') := by
  obtain ⟨d1, d2⟩ := MQ.dims hq
  have sim := lwK_sim (q := p) hq.hc hq.a5 hq.b5.2 k
  have h5 := hq.a5
  have h6 := hq.b5
  rw [← d1, ← d2] at sim
  refine ⟨by rw [flatI_flat], by rw [flatI_flat], by omega, by omega, by rw [d1, d2]; exact hq.hc, by rw [d1, d2]; exact hp.tab, ?_⟩
  rw [flatI_flat, flatI_flat]
  exact ⟨sim.l1, sim.l2, fun v hv => by have h7 := sim.bnd v hv; dsimp only; omega⟩

theorem lwK_next (c p : List (List Int)) (N k : Nat) : lwAll c p ⟨(lwK c p N k).far, (lwK c p N k).by', -1⟩ = lwK c p N (k + 1) := rfl
/-- What is known of the marks of a round. -/
structure Rd (c p : List (List Int)) (N : Nat) (f : Nat → Nat) (by0 : List Int) (x P : Nat) : Prop where
  by' : ∀ v, v < N → by0.getD v 0 = ((f v : Nat) : Int) ∧ f v < N
  lt : ∀ m, it f m x < N
  rnd : Round (cw c.length (gt c)) (eTo c.length (wid c) (gt p) c.length) f x P
  le : P ≤ N
theorem Rd.next {c p : List (List Int)} {N : Nat} {f : Nat → Nat} {by0 : List Int} {x P : Nat} (h : Rd c p N f by0 x P) (m : Nat) : by0.getD (it f m x) 0 = ((it f (m + 1) x : Nat) : Int) := (h.by' _ (h.lt m)).1
theorem imp_rd {a b : List Int} {c p : List (List Int)} (hq : MQ a b c) (hp : Pl a b p) (h : ¬ (lwN c p (c.length + wid c)).last < 0) :
    (lwN c p (c.length + wid c)).last.toNat < c.length + wid c ∧ (∀ v, v < c.length + wid c → (lwN c p (c.length + wid c)).by'.getD v 0 = ((byF (lwN c p (c.length + wid c)).by' v : Nat) : Int) ∧ byF (lwN c p (c.length + wid c)).by' v < c.length + wid c) ∧
    Rd c p (c.length + wid c) (byF (lwN c p (c.length + wid c)).by') (lwN c p (c.length + wid c)).by' (rx c p (c.length + wid c)) (rp c p (c.length + wid c)) := by
  obtain ⟨d1, d2⟩ := MQ.dims hq
  have himp := improve_ok hq hp
  have sim := lwK_sim (q := p) hq.hc hq.a5 hq.b5.2 (a.length + b.length)
  rw [← d1, ← d2] at himp sim
  obtain ⟨h1, h2, h3⟩ := himp.2 h
  have hL : lwN c p (c.length + wid c) = lwK c p (c.length + wid c) (c.length + wid c) := rfl
  rw [← hL] at sim
  have hby : ∀ v, v < c.length + wid c → (lwN c p (c.length + wid c)).by'.getD v 0 = ((byF (lwN c p (c.length + wid c)).by' v : Nat) : Int) ∧ byF (lwN c p (c.length + wid c)).by' v < c.length + wid c := fun v hv => by
    have k1 := sim.b v hv
    have k2 := sim.bl v hv
    unfold byF
    omega
  have hlt : ∀ m, it (byF (lwN c p (c.length + wid c)).by') m (rx c p (c.length + wid c)) < c.length + wid c := by
    intro m
    induction m with
    | zero => exact h2
    | succ m ih => exact (hby _ ih).2
  exact ⟨h1, hby, hby, hlt, h3, pigeon _ _ (fun m => it (byF (lwN c p (c.length + wid c)).by') m (rx c p (c.length + wid c))) (fun m _ => hlt m) (fun i j hij hj => h3.inj hij hj)⟩

set_option maxHeartbeats 4000000 in
theorem imp_spec : FnSpec Try.prog 81 impCon := by
  refine FnSpec.of_tri' (E := know [(85, lowCon)] [] [] [25, 27]) (know_ok (all_cons low_spec all_nil) all_nil all_nil) Try.func81 rfl rfl (by kernel_rfl) ?_
  intro C x hE hnl hfit hpre
  simp only [Try.ntmps81, Try.results81, maxLen, Nat.reduceSub, Nat.reducePow, Nat.reduceAdd, Int.cast_ofNat_Int, push_cast] at hnl hfit hpre ⊢
  obtain ⟨(c : List (List Int)), (rc : RC), _⟩ := x
  dsimp only at hfit hpre ⊢
  obtain ⟨h1, ⟨a, b, hq, hp⟩, hw6⟩ := hpre
  generalize deepJ rc = p at *
  subst h1
  obtain ⟨d1, d2⟩ := MQ.dims hq
  have ha5 := hq.a5
  have hb5 := hq.b5
  have hw : (c.getD 0 []).length = wid c := rfl
  have himp := improve_ok hq hp
  rw [← d1, ← d2] at himp
  have hL0 : impL c p = decide (0 ≤ (lwN c p (c.length + wid c)).last) := rfl
  replace hnl := And.intro hnl hw
  repeat' (first|(refine goK (by assumption) ?_; iterate 4 (try clear hK K))|(refine tri_seqk fun K hK => ?_)|((first|refine tri_region hE rfl ?_|refine tri_ret ?_|((first|refine tri_drawP hE 1 rfl rfl (by kernel_rfl) ?_|refine tri_drawP hE 2 rfl rfl (by kernel_rfl) ?_|refine tri_drawP hE 3 rfl rfl (by kernel_rfl) ?_|refine tri_drawP hE 4 rfl rfl (by kernel_rfl) ?_); simp only [List.length_cons, List.length_nil, Nat.reduceAdd, Nat.reduceSub, List.take_succ_cons, List.take_zero, List.drop_succ_cons, List.drop_zero])); simp +contextual only [hnl, ↓kN, ↓kP, ↓kG, ↓qN, ↓qP, ↓qG, push_cast, Int.reduceEq, Int.reduceLT, Int.reduceLE, Int.reduceNeg, Nat.reduceLT, Nat.reduceLeDiff, Int.reduceToNat, Int.cast_ofNat_Int, Nat.reduceBEq, Nat.reduceMul, Nat.reduceEqDiff, reduceCtorEq, Nat.reduceAdd])|refine tri_block ?_|((first|refine tri_skip ?_|refine tri_exit ?_); simp only [thenQ, blockQ, if_true, if_false, Nat.reduceEqDiff, reduceCtorEq])|(refine tri_cond (by rfl) (fun hb => ?_) (fun hb => ?_) <;> (try simp only [decide_eq_true_eq, decide_eq_false_iff_not, Bool.not_eq_true', Bool.not_eq_false', reduceCtorEq, Bool.true_eq_false, Bool.false_eq_true] at hb) <;> (try omega))|refine tri_unk (by rfl) ?_ ?_|refine And.intro (by first|omega|(unfold InR; omega)|assumption|decide|exact ⟨_, _, rfl⟩) ?_|(refine ⟨fun hc => ?_, fun hc => ?_⟩)|(intro hc; try omega))
  refine tri_thaw 7 25 25 (by simp only [push_cast, Int.reduceEq, Int.reduceLT, Int.reduceLE, Int.reduceNeg, Nat.reduceLT, Nat.reduceLeDiff, Int.reduceToNat, Int.cast_ofNat_Int, Nat.reduceBEq, Nat.reduceMul, Nat.reduceEqDiff, reduceCtorEq, Nat.reduceAdd]; rfl) (by omega) ?_
  refine tri_thaw 8 27 27 (by simp only [push_cast, Int.reduceEq, Int.reduceLT, Int.reduceLE, Int.reduceNeg, Nat.reduceLT, Nat.reduceLeDiff, Int.reduceToNat, Int.cast_ofNat_Int, Nat.reduceBEq, Nat.reduceMul, Nat.reduceEqDiff, reduceCtorEq, Nat.reduceAdd]; rfl) (by omega) ?_
  refine tri_loopI (fun k : Nat => AS.of [(0, .one (.val (.sl (.sl .int)) c)), (1, .one (.ref 0)), (6, .I ((c.length : Int) + (wid c : Int))), (7, .one (.ref 25)), (8, .one (.ref 27)), (9, .I (lwK c p (c.length + wid c) k).last), (10, .I k)]
    [(0, .deep 22 3 .int p), (25, .flat 3 .int (lwK c p (c.length + wid c) k).far), (27, .flat 3 .int (lwK c p (c.length + wid c) k).by')] []) (fun k => k ≤ c.length + wid c) (fun k => c.length + wid c - k) 0 (Nat.zero_le _) ?_ ?_
  · refine weak_of ?_ ?_ ?_ <;> simp only [push_cast, Int.reduceEq, Int.reduceLT, Int.reduceLE, Int.reduceNeg, Nat.reduceLT, Nat.reduceLeDiff, Int.reduceToNat, Int.cast_ofNat_Int, Nat.reduceBEq, Nat.reduceMul, Nat.reduceEqDiff, reduceCtorEq, Nat.reduceAdd]
    · rfl
    · have hN : ((c.length : Int) + (wid c : Int)).toNat = c.length + wid c := by omega
      rw [hN]
      exact ⟨.inl rfl, .inl rfl⟩
  intro k hk K' hL
  have hlow := low_pre hq hp k hk
  have hnx := lwK_next c p (c.length + wid c) k
  replace hnl := And.intro hnl hnx
  repeat' (first|(refine goK (by assumption) ?_; iterate 4 (try clear hK K))|(refine tri_seqk fun K hK => ?_)|((first|refine tri_region hE rfl ?_|refine tri_ret ?_|((first|refine tri_drawP hE 1 rfl rfl (by kernel_rfl) ?_|refine tri_drawP hE 2 rfl rfl (by kernel_rfl) ?_|refine tri_drawP hE 3 rfl rfl (by kernel_rfl) ?_|refine tri_drawP hE 4 rfl rfl (by kernel_rfl) ?_); simp only [List.length_cons, List.length_nil, Nat.reduceAdd, Nat.reduceSub, List.take_succ_cons, List.take_zero, List.drop_succ_cons, List.drop_zero])); simp +contextual only [hnl, ↓kN, ↓kP, ↓kG, ↓qN, ↓qP, ↓qG, push_cast, Int.reduceEq, Int.reduceLT, Int.reduceLE, Int.reduceNeg, Nat.reduceLT, Nat.reduceLeDiff, Int.reduceToNat, Int.cast_ofNat_Int, Nat.reduceBEq, Nat.reduceMul, Nat.reduceEqDiff, reduceCtorEq, Nat.reduceAdd])|refine tri_block ?_|((first|refine tri_skip ?_|refine tri_exit ?_); simp only [thenQ, blockQ, if_true, if_false, Nat.reduceEqDiff, reduceCtorEq])|(refine tri_cond (by rfl) (fun hb => ?_) (fun hb => ?_) <;> (try simp only [decide_eq_true_eq, decide_eq_false_iff_not, Bool.not_eq_true', Bool.not_eq_false', reduceCtorEq, Bool.true_eq_false, Bool.false_eq_true] at hb) <;> (try omega))|refine tri_unk (by rfl) ?_ ?_|refine And.intro (by first|omega|(unfold InR; omega)|assumption|decide|exact ⟨_, _, rfl⟩) ?_|(refine ⟨fun hc => ?_, fun hc => ?_⟩)|(intro hc; try omega))
  · refine hL _ (k + 1) (by omega) (by omega) ?_
    refine weak_of ?_ ?_ ?_ <;> simp only [push_cast, Int.reduceEq, Int.reduceLT, Int.reduceLE, Int.reduceNeg, Nat.reduceLT, Nat.reduceLeDiff, Int.reduceToNat, Int.cast_ofNat_Int, Nat.reduceBEq, Nat.reduceMul, Nat.reduceEqDiff, reduceCtorEq, Nat.reduceAdd]
    all_goals first | exact ⟨.inl rfl, .inl rfl⟩ | rfl
  · obtain rfl : k = c.length + wid c := by omega
    have hLN : lwK c p (c.length + wid c) (c.length + wid c) = lwN c p (c.length + wid c) := rfl
    rw [hLN] at hb ⊢
    have hi : impL c p = false := decide_eq_false (by omega)
    rw [hi]
    exact ⟨⟨rfl, rfl⟩, rfl⟩
  obtain rfl : k = c.length + wid c := by omega
  have hLN : lwK c p (c.length + wid c) (c.length + wid c) = lwN c p (c.length + wid c) := rfl
  rw [hLN] at hb ⊢
  have hi : impL c p = true := decide_eq_true (by omega)
  rw [hi]
  obtain ⟨r1, r2, r3⟩ := imp_rd hq hp hb
  obtain ⟨k1, k2, k3, k4⟩ := hp.turn hq.hb (by rw [← d1, ← d2]; exact r3.rnd)
  rw [← d1] at k1 k2
  have hV : impV c p (c.length + wid c) = turnK c.length p (byF (lwN c p (c.length + wid c)).by') (rx c p (c.length + wid c)) (rl c p (c.length + wid c)) (rp c p (c.length + wid c)) := rfl
  have hrl : rl c p (c.length + wid c) = leastK c.length p (byF (lwN c p (c.length + wid c)).by') (rx c p (c.length + wid c)) (rp c p (c.length + wid c)) := rfl
  have hrx : rx c p (c.length + wid c) = it (byF (lwN c p (c.length + wid c)).by') (c.length + wid c) (lwN c p (c.length + wid c)).last.toNat := rfl
  rw [← hrl] at k1 k2
  have hbl : (lwN c p (c.length + wid c)).by'.length = c.length + wid c := (lwK_sim (q := p) (R := c.length) (C := wid c) (by rw [d1, d2]; exact hq.hc) (by omega) (by omega) (c.length + wid c)).l2
  have hl0 : (lwN c p (c.length + wid c)).last = (((lwN c p (c.length + wid c)).last.toNat : Nat) : Int) := by omega
  generalize rl c p (c.length + wid c) = l at *
  generalize rp c p (c.length + wid c) = P at *
  clear hL hnx hlow
  rw [hl0]
  clear hl0 hLN himp hL0
  generalize (lwN c p (c.length + wid c)).far = fr0 at *
  generalize (lwN c p (c.length + wid c)).last.toNat = v0 at *
  generalize (lwN c p (c.length + wid c)).by' = by0 at *
  generalize byF by0 = f at *
  have hv0 : ∀ m, it f m v0 < c.length + wid c := by
    intro m
    induction m with
    | zero => exact r1
    | succ m ih => exact (r2 _ ih).2
  refine tri_loopI (fun k : Nat => AS.of [(0, .one (.val (.sl (.sl .int)) c)), (1, .one (.ref 0)), (6, .I ((c.length : Int) + (wid c : Int))), (8, .one (.ref 27)), (9, .I ((it f k v0 : Nat) : Int)), (11, .I k)]
    [(0, .deep 22 3 .int p), (27, .flat 3 .int by0)] []) (fun k => k ≤ c.length + wid c) (fun k => c.length + wid c - k) 0 (Nat.zero_le _) ?_ ?_
  · refine weak_of ?_ ?_ ?_ <;> simp only [push_cast, Int.reduceEq, Int.reduceLT, Int.reduceLE, Int.reduceNeg, Nat.reduceLT, Nat.reduceLeDiff, Int.reduceToNat, Int.cast_ofNat_Int, Nat.reduceBEq, Nat.reduceMul, Nat.reduceEqDiff, reduceCtorEq, Nat.reduceAdd]
    all_goals first | rfl | skip
  intro k hk K2 hL2
  have hvk := hv0 k
  have hnx2 : by0.getD (it f k v0) 0 = ((it f (k + 1) v0 : Nat) : Int) := (r2 _ hvk).1
  replace hnl := And.intro hnl hnx2
  repeat' (first|(refine goK (by assumption) ?_; iterate 4 (try clear hK K))|(refine tri_seqk fun K hK => ?_)|((first|refine tri_region hE rfl ?_|refine tri_ret ?_|((first|refine tri_drawP hE 1 rfl rfl (by kernel_rfl) ?_|refine tri_drawP hE 2 rfl rfl (by kernel_rfl) ?_|refine tri_drawP hE 3 rfl rfl (by kernel_rfl) ?_|refine tri_drawP hE 4 rfl rfl (by kernel_rfl) ?_); simp only [List.length_cons, List.length_nil, Nat.reduceAdd, Nat.reduceSub, List.take_succ_cons, List.take_zero, List.drop_succ_cons, List.drop_zero])); simp +contextual only [hnl, ↓kN, ↓kP, ↓kG, ↓qN, ↓qP, ↓qG, push_cast, Int.reduceEq, Int.reduceLT, Int.reduceLE, Int.reduceNeg, Nat.reduceLT, Nat.reduceLeDiff, Int.reduceToNat, Int.cast_ofNat_Int, Nat.reduceBEq, Nat.reduceMul, Nat.reduceEqDiff, reduceCtorEq, Nat.reduceAdd])|refine tri_block ?_|((first|refine tri_skip ?_|refine tri_exit ?_); simp only [thenQ, blockQ, if_true, if_false, Nat.reduceEqDiff, reduceCtorEq])|(refine tri_cond (by rfl) (fun hb => ?_) (fun hb => ?_) <;> (try simp only [decide_eq_true_eq, decide_eq_false_iff_not, Bool.not_eq_true', Bool.not_eq_false', reduceCtorEq, Bool.true_eq_false, Bool.false_eq_true] at hb) <;> (try omega))|refine tri_unk (by rfl) ?_ ?_|refine And.intro (by first|omega|(unfold InR; omega)|assumption|decide|exact ⟨_, _, rfl⟩) ?_|(refine ⟨fun hc => ?_, fun hc => ?_⟩)|(intro hc; try omega))
  · refine hL2 _ (k + 1) (by omega) (by omega) ?_
    refine weak_of ?_ ?_ ?_ <;> simp only [push_cast, Int.reduceEq, Int.reduceLT, Int.reduceLE, Int.reduceNeg, Nat.reduceLT, Nat.reduceLeDiff, Int.reduceToNat, Int.cast_ofNat_Int, Nat.reduceBEq, Nat.reduceMul, Nat.reduceEqDiff, reduceCtorEq, Nat.reduceAdd]
    all_goals first | rfl | skip
  obtain rfl : k = c.length + wid c := by omega
  rw [← hrx]
  clear hnx2 hvk hL2 hrx
  generalize rx c p (c.length + wid c) = x at *
  have hpl := hp.tab.rows
  refine tri_loopI (fun m : Nat => AS.of [(0, .one (.val (.sl (.sl .int)) c)), (1, .one (.ref 0)), (8, .one (.ref 27)), (9, .I ((it f m x : Nat) : Int)), (12, .I x), (13, .I (leastK c.length p f x m)), (14, .one (.val .bool (decide (m = 0))))]
    [(0, .deep 22 3 .int p), (27, .flat 3 .int by0)] []) (fun m => m ≤ P) (fun m => P - m) 0 (Nat.zero_le _) ?_ ?_
  · refine weak_of ?_ ?_ ?_ <;> simp only [push_cast, Int.reduceEq, Int.reduceLT, Int.reduceLE, Int.reduceNeg, Nat.reduceLT, Nat.reduceLeDiff, Int.reduceToNat, Int.cast_ofNat_Int, Nat.reduceBEq, Nat.reduceMul, Nat.reduceEqDiff, reduceCtorEq, Nat.reduceAdd]
    exact ⟨rfl, rfl⟩
  intro m hm K3 hL3
  have hnx := r3.next m
  have hvm := r3.lt m
  have hs := step_cases r3.rnd m
  rcases Nat.lt_or_ge m P with hmP | hmP
  · have hne : m ≠ 0 → it f m x ≠ x := fun h => r3.rnd.first m (by omega) hmP
    rcases hs with hs | hs
    · obtain ⟨i, j, hi, hj, s1, s2⟩ := hs
      have hls : leastK c.length p f x (m + 1) = leastK c.length p f x m := if_neg (by omega)
      have tp : 0 ≤ gt p i j ∧ gt p i j ≤ 200 := hp.tab.at' i j (by omega) (by omega)
      unfold gt at tp
      have tpr := hp.tab.cols i (by omega)
      rw [s1] at hnx hne ⊢
      rw [s2] at hnx
      have hsub : (c.length : Int) + (j : Int) - (c.length : Int) = (j : Int) := by omega
      have hsum : ((c.length : Int) + (j : Int)).toNat = c.length + j := by omega
      have hcast : ((c.length + j : Nat) : Int) = (c.length : Int) + (j : Int) := by omega
      have hlt : ¬ (c.length : Int) + (j : Int) < (c.length : Int) := by omega
      by_cases hm0 : m = 0
      · subst hm0
        replace hnl := And.intro hnl (And.intro hnx (And.intro hsub hsum))
        repeat' (first|(refine goK (by assumption) ?_; iterate 4 (try clear hK K))|(refine tri_seqk fun K hK => ?_)|((first|refine tri_region hE rfl ?_|refine tri_ret ?_|((first|refine tri_drawP hE 1 rfl rfl (by kernel_rfl) ?_|refine tri_drawP hE 2 rfl rfl (by kernel_rfl) ?_|refine tri_drawP hE 3 rfl rfl (by kernel_rfl) ?_|refine tri_drawP hE 4 rfl rfl (by kernel_rfl) ?_); simp only [List.length_cons, List.length_nil, Nat.reduceAdd, Nat.reduceSub, List.take_succ_cons, List.take_zero, List.drop_succ_cons, List.drop_zero])); simp +contextual only [hnl, ↓kN, ↓kP, ↓kG, ↓qN, ↓qP, ↓qG, push_cast, Int.reduceEq, Int.reduceLT, Int.reduceLE, Int.reduceNeg, Nat.reduceLT, Nat.reduceLeDiff, Int.reduceToNat, Int.cast_ofNat_Int, Nat.reduceBEq, Nat.reduceMul, Nat.reduceEqDiff, reduceCtorEq, Nat.reduceAdd])|refine tri_block ?_|((first|refine tri_skip ?_|refine tri_exit ?_); simp only [thenQ, blockQ, if_true, if_false, Nat.reduceEqDiff, reduceCtorEq])|(refine tri_cond (by rfl) (fun hb => ?_) (fun hb => ?_) <;> (try simp only [decide_eq_true_eq, decide_eq_false_iff_not, Bool.not_eq_true', Bool.not_eq_false', reduceCtorEq, Bool.true_eq_false, Bool.false_eq_true] at hb) <;> (try omega))|refine tri_unk (by rfl) ?_ ?_|refine And.intro (by first|omega|(unfold InR; omega)|assumption|decide|exact ⟨_, _, rfl⟩) ?_|(refine ⟨fun hc => ?_, fun hc => ?_⟩)|(intro hc; try omega))
        all_goals refine hL3 _ (0 + 1) (by omega) (by omega) ?_
        all_goals refine weak_of ?_ ?_ ?_ <;> simp only [push_cast, Int.reduceEq, Int.reduceLT, Int.reduceLE, Int.reduceNeg, Nat.reduceLT, Nat.reduceLeDiff, Int.reduceToNat, Int.cast_ofNat_Int, Nat.reduceBEq, Nat.reduceMul, Nat.reduceEqDiff, reduceCtorEq, Nat.reduceAdd]
        all_goals exact ⟨by rw [s2], by rw [hls]⟩
      · have hne2 := hne hm0
        have hne3 : ¬ (c.length : Int) + (j : Int) = (x : Int) := by omega
        replace hnl := And.intro hnl (And.intro (eq_false hm0) (And.intro (eq_false hne3) (And.intro hnx (And.intro hsub hsum))))
        repeat' (first|(refine goK (by assumption) ?_; iterate 4 (try clear hK K))|(refine tri_seqk fun K hK => ?_)|((first|refine tri_region hE rfl ?_|refine tri_ret ?_|((first|refine tri_drawP hE 1 rfl rfl (by kernel_rfl) ?_|refine tri_drawP hE 2 rfl rfl (by kernel_rfl) ?_|refine tri_drawP hE 3 rfl rfl (by kernel_rfl) ?_|refine tri_drawP hE 4 rfl rfl (by kernel_rfl) ?_); simp only [List.length_cons, List.length_nil, Nat.reduceAdd, Nat.reduceSub, List.take_succ_cons, List.take_zero, List.drop_succ_cons, List.drop_zero])); simp +contextual only [hnl, ↓kN, ↓kP, ↓kG, ↓qN, ↓qP, ↓qG, push_cast, Int.reduceEq, Int.reduceLT, Int.reduceLE, Int.reduceNeg, Nat.reduceLT, Nat.reduceLeDiff, Int.reduceToNat, Int.cast_ofNat_Int, Nat.reduceBEq, Nat.reduceMul, Nat.reduceEqDiff, reduceCtorEq, Nat.reduceAdd])|refine tri_block ?_|((first|refine tri_skip ?_|refine tri_exit ?_); simp only [thenQ, blockQ, if_true, if_false, Nat.reduceEqDiff, reduceCtorEq])|(refine tri_cond (by rfl) (fun hb => ?_) (fun hb => ?_) <;> (try simp only [decide_eq_true_eq, decide_eq_false_iff_not, Bool.not_eq_true', Bool.not_eq_false', reduceCtorEq, Bool.true_eq_false, Bool.false_eq_true] at hb) <;> (try omega))|refine tri_unk (by rfl) ?_ ?_|refine And.intro (by first|omega|(unfold InR; omega)|assumption|decide|exact ⟨_, _, rfl⟩) ?_|(refine ⟨fun hc => ?_, fun hc => ?_⟩)|(intro hc; try omega))
        all_goals refine hL3 _ (m + 1) (by omega) (by omega) ?_
        all_goals refine weak_of ?_ ?_ ?_ <;> simp only [push_cast, Int.reduceEq, Int.reduceLT, Int.reduceLE, Int.reduceNeg, Nat.reduceLT, Nat.reduceLeDiff, Int.reduceToNat, Int.cast_ofNat_Int, Nat.reduceBEq, Nat.reduceMul, Nat.reduceEqDiff, reduceCtorEq, Nat.reduceAdd]
        all_goals exact ⟨by rw [s2], by rw [hls]⟩
    · obtain ⟨i, j, hi, hj, h0, s1, s2⟩ := hs
      have hls : leastK c.length p f x (m + 1) = if leastK c.length p f x m < 0 ∨ (p.getD i []).getD j 0 < leastK c.length p f x m then (p.getD i []).getD j 0 else leastK c.length p f x m := by
        have e : f (it f m x) - c.length = j := by
          have : f (it f m x) = c.length + j := s2
          omega
        have e2 : leastK c.length p f x (m + 1) = if it f m x < c.length then (if leastK c.length p f x m < 0 ∨ (p.getD (it f m x) []).getD (f (it f m x) - c.length) 0 < leastK c.length p f x m then (p.getD (it f m x) []).getD (f (it f m x) - c.length) 0 else leastK c.length p f x m) else leastK c.length p f x m := rfl
        rw [e2, if_pos (by omega), e, s1]
      have tp : 0 ≤ gt p i j ∧ gt p i j ≤ 200 := hp.tab.at' i j (by omega) (by omega)
      unfold gt at tp
      have tpr := hp.tab.cols i (by omega)
      rw [s1] at hnx hne ⊢
      rw [s2] at hnx
      have hsub : (c.length : Int) + (j : Int) - (c.length : Int) = (j : Int) := by omega
      have hsum : ((c.length : Int) + (j : Int)).toNat = c.length + j := by omega
      have hcast : ((c.length + j : Nat) : Int) = (c.length : Int) + (j : Int) := by omega
      by_cases hm0 : m = 0
      · subst hm0
        replace hnl := And.intro hnl (And.intro hnx (And.intro hsub hsum))
        repeat' (first|(refine goK (by assumption) ?_; iterate 4 (try clear hK K))|(refine tri_seqk fun K hK => ?_)|((first|refine tri_region hE rfl ?_|refine tri_ret ?_|((first|refine tri_drawP hE 1 rfl rfl (by kernel_rfl) ?_|refine tri_drawP hE 2 rfl rfl (by kernel_rfl) ?_|refine tri_drawP hE 3 rfl rfl (by kernel_rfl) ?_|refine tri_drawP hE 4 rfl rfl (by kernel_rfl) ?_); simp only [List.length_cons, List.length_nil, Nat.reduceAdd, Nat.reduceSub, List.take_succ_cons, List.take_zero, List.drop_succ_cons, List.drop_zero])); simp +contextual only [hnl, ↓kN, ↓kP, ↓kG, ↓qN, ↓qP, ↓qG, push_cast, Int.reduceEq, Int.reduceLT, Int.reduceLE, Int.reduceNeg, Nat.reduceLT, Nat.reduceLeDiff, Int.reduceToNat, Int.cast_ofNat_Int, Nat.reduceBEq, Nat.reduceMul, Nat.reduceEqDiff, reduceCtorEq, Nat.reduceAdd])|refine tri_block ?_|((first|refine tri_skip ?_|refine tri_exit ?_); simp only [thenQ, blockQ, if_true, if_false, Nat.reduceEqDiff, reduceCtorEq])|(refine tri_cond (by rfl) (fun hb => ?_) (fun hb => ?_) <;> (try simp only [decide_eq_true_eq, decide_eq_false_iff_not, Bool.not_eq_true', Bool.not_eq_false', reduceCtorEq, Bool.true_eq_false, Bool.false_eq_true] at hb) <;> (try omega))|refine tri_unk (by rfl) ?_ ?_|refine And.intro (by first|omega|(unfold InR; omega)|assumption|decide|exact ⟨_, _, rfl⟩) ?_|(refine ⟨fun hc => ?_, fun hc => ?_⟩)|(intro hc; try omega))
        all_goals refine hL3 _ (0 + 1) (by omega) (by omega) ?_
        all_goals refine weak_of ?_ ?_ ?_ <;> simp only [push_cast, Int.reduceEq, Int.reduceLT, Int.reduceLE, Int.reduceNeg, Nat.reduceLT, Nat.reduceLeDiff, Int.reduceToNat, Int.cast_ofNat_Int, Nat.reduceBEq, Nat.reduceMul, Nat.reduceEqDiff, reduceCtorEq, Nat.reduceAdd]
        all_goals exact ⟨by rw [s2]; exact hcast.symm, by rw [hls]; first | rw [if_pos (by omega)] | rw [if_neg (by omega)]⟩
      · have hne2 := hne hm0
        have hne3 : ¬ (i : Int) = (x : Int) := by omega
        replace hnl := And.intro hnl (And.intro (eq_false hm0) (And.intro (eq_false hne3) (And.intro hnx (And.intro hsub hsum))))
        repeat' (first|(refine goK (by assumption) ?_; iterate 4 (try clear hK K))|(refine tri_seqk fun K hK => ?_)|((first|refine tri_region hE rfl ?_|refine tri_ret ?_|((first|refine tri_drawP hE 1 rfl rfl (by kernel_rfl) ?_|refine tri_drawP hE 2 rfl rfl (by kernel_rfl) ?_|refine tri_drawP hE 3 rfl rfl (by kernel_rfl) ?_|refine tri_drawP hE 4 rfl rfl (by kernel_rfl) ?_); simp only [List.length_cons, List.length_nil, Nat.reduceAdd, Nat.reduceSub, List.take_succ_cons, List.take_zero, List.drop_succ_cons, List.drop_zero])); simp +contextual only [hnl, ↓kN, ↓kP, ↓kG, ↓qN, ↓qP, ↓qG, push_cast, Int.reduceEq, Int.reduceLT, Int.reduceLE, Int.reduceNeg, Nat.reduceLT, Nat.reduceLeDiff, Int.reduceToNat, Int.cast_ofNat_Int, Nat.reduceBEq, Nat.reduceMul, Nat.reduceEqDiff, reduceCtorEq, Nat.reduceAdd])|refine tri_block ?_|((first|refine tri_skip ?_|refine tri_exit ?_); simp only [thenQ, blockQ, if_true, if_false, Nat.reduceEqDiff, reduceCtorEq])|(refine tri_cond (by rfl) (fun hb => ?_) (fun hb => ?_) <;> (try simp only [decide_eq_true_eq, decide_eq_false_iff_not, Bool.not_eq_true', Bool.not_eq_false', reduceCtorEq, Bool.true_eq_false, Bool.false_eq_true] at hb) <;> (try omega))|refine tri_unk (by rfl) ?_ ?_|refine And.intro (by first|omega|(unfold InR; omega)|assumption|decide|exact ⟨_, _, rfl⟩) ?_|(refine ⟨fun hc => ?_, fun hc => ?_⟩)|(intro hc; try omega))
        all_goals refine hL3 _ (m + 1) (by omega) (by omega) ?_
        all_goals refine weak_of ?_ ?_ ?_ <;> simp only [push_cast, Int.reduceEq, Int.reduceLT, Int.reduceLE, Int.reduceNeg, Nat.reduceLT, Nat.reduceLeDiff, Int.reduceToNat, Int.cast_ofNat_Int, Nat.reduceBEq, Nat.reduceMul, Nat.reduceEqDiff, reduceCtorEq, Nat.reduceAdd]
        all_goals exact ⟨by rw [s2]; exact hcast.symm, by rw [hls]; first | rw [if_pos (by omega)] | rw [if_neg (by omega)]⟩
  obtain rfl : m = P := by omega
  have hbk := r3.rnd.back
  have hp1 : ¬ m = 0 := by have := r3.rnd.pos; omega
  replace hnl := And.intro hnl (And.intro hbk (eq_false hp1))
  repeat' (first|(refine goK (by assumption) ?_; iterate 4 (try clear hK K))|(refine tri_seqk fun K hK => ?_)|((first|refine tri_region hE rfl ?_|refine tri_ret ?_|((first|refine tri_drawP hE 1 rfl rfl (by kernel_rfl) ?_|refine tri_drawP hE 2 rfl rfl (by kernel_rfl) ?_|refine tri_drawP hE 3 rfl rfl (by kernel_rfl) ?_|refine tri_drawP hE 4 rfl rfl (by kernel_rfl) ?_); simp only [List.length_cons, List.length_nil, Nat.reduceAdd, Nat.reduceSub, List.take_succ_cons, List.take_zero, List.drop_succ_cons, List.drop_zero])); simp +contextual only [hnl, ↓kN, ↓kP, ↓kG, ↓qN, ↓qP, ↓qG, push_cast, Int.reduceEq, Int.reduceLT, Int.reduceLE, Int.reduceNeg, Nat.reduceLT, Nat.reduceLeDiff, Int.reduceToNat, Int.cast_ofNat_Int, Nat.reduceBEq, Nat.reduceMul, Nat.reduceEqDiff, reduceCtorEq, Nat.reduceAdd])|refine tri_block ?_|((first|refine tri_skip ?_|refine tri_exit ?_); simp only [thenQ, blockQ, if_true, if_false, Nat.reduceEqDiff, reduceCtorEq])|(refine tri_cond (by rfl) (fun hb => ?_) (fun hb => ?_) <;> (try simp only [decide_eq_true_eq, decide_eq_false_iff_not, Bool.not_eq_true', Bool.not_eq_false', reduceCtorEq, Bool.true_eq_false, Bool.false_eq_true] at hb) <;> (try omega))|refine tri_unk (by rfl) ?_ ?_|refine And.intro (by first|omega|(unfold InR; omega)|assumption|decide|exact ⟨_, _, rfl⟩) ?_|(refine ⟨fun hc => ?_, fun hc => ?_⟩)|(intro hc; try omega))
  rw [← hrl]
  clear hL3 hnx hvm hs hbk hm hmP
  have hsz : Sz c.length (wid c) p := by rw [d1, d2]; exact hp.tab.sz
  have hP12 : m ≤ 12 := by have := r3.le; omega
  refine tri_loopI (fun k : Nat => AS.of [(0, .one (.val (.sl (.sl .int)) c)), (1, .one (.ref 0)), (8, .one (.ref 27)), (9, .I ((it f k x : Nat) : Int)), (12, .I x), (13, .I l), (16, .one (.val .bool (decide (k = 0))))]
    [(0, .deep 22 3 .int (turnK c.length p f x l k)), (27, .flat 3 .int by0)] []) (fun k => k ≤ m) (fun k => m - k) 0 (Nat.zero_le _) ?_ ?_
  · refine weak_of ?_ ?_ ?_ <;> simp only [push_cast, Int.reduceEq, Int.reduceLT, Int.reduceLE, Int.reduceNeg, Nat.reduceLT, Nat.reduceLeDiff, Int.reduceToNat, Int.cast_ofNat_Int, Nat.reduceBEq, Nat.reduceMul, Nat.reduceEqDiff, reduceCtorEq, Nat.reduceAdd]
    · rfl
    · exact .inl rfl
  intro k hk K4 hL4
  have hnx := r3.next k
  have hvm := r3.lt k
  have hs := step_cases r3.rnd k
  have hT := turned r3.rnd hsz (l := l) (by omega) k hk
  have hlm : 0 ≤ l * (k : Int) ∧ l * (k : Int) ≤ 2400 := ⟨Int.mul_nonneg (by omega) (by omega), by have := Int.mul_le_mul (show l ≤ 200 by omega) (show (k : Int) ≤ 12 by omega) (by omega) (by omega); omega⟩
  rcases Nat.lt_or_ge k m with hmP | hmP
  · have hne : k ≠ 0 → it f k x ≠ x := fun h => r3.rnd.first k (by omega) hmP
    rcases hs with hs | hs
    · obtain ⟨i, j, hi, hj, s1, s2⟩ := hs
      have hls : turnK c.length p f x l (k + 1) = Go.OT.addAt (turnK c.length p f x l k) i j l := by
        have e : f (it f k x) = i := s2
        have e2 : turnK c.length p f x l (k + 1) = if it f k x < c.length then Go.OT.addAt (turnK c.length p f x l k) (it f k x) (f (it f k x) - c.length) (-l) else Go.OT.addAt (turnK c.length p f x l k) (f (it f k x)) (it f k x - c.length) l := rfl
        rw [e2, if_neg (by omega), e, show it f k x - c.length = j by omega]
      generalize turnK c.length p f x l k = q at hT hls ⊢
      have t1 := hT.sz.rows
      have t2 := hT.sz.cols i hi
      have t3 : _ ≤ (q.getD i []).getD j 0 ∧ (q.getD i []).getD j 0 ≤ _ := hT.near i j hi hj
      have tp : 0 ≤ gt p i j ∧ gt p i j ≤ 200 := hp.tab.at' i j (by omega) (by omega)
      unfold gt at tp
      unfold gt at t3
      have tpr := hp.tab.cols i (by omega)
      rw [s1] at hnx hne ⊢
      rw [s2] at hnx
      have hsub : (c.length : Int) + (j : Int) - (c.length : Int) = (j : Int) := by omega
      have hsum : ((c.length : Int) + (j : Int)).toNat = c.length + j := by omega
      have hcast : ((c.length + j : Nat) : Int) = (c.length : Int) + (j : Int) := by omega
      have hlt : ¬ (c.length : Int) + (j : Int) < (c.length : Int) := by omega
      by_cases hk0 : k = 0
      · subst hk0
        replace hnl := And.intro hnl (And.intro hnx (And.intro hsub hsum))
        repeat' (first|(refine goK (by assumption) ?_; iterate 4 (try clear hK K))|(refine tri_seqk fun K hK => ?_)|((first|refine tri_region hE rfl ?_|refine tri_ret ?_|((first|refine tri_drawP hE 1 rfl rfl (by kernel_rfl) ?_|refine tri_drawP hE 2 rfl rfl (by kernel_rfl) ?_|refine tri_drawP hE 3 rfl rfl (by kernel_rfl) ?_|refine tri_drawP hE 4 rfl rfl (by kernel_rfl) ?_); simp only [List.length_cons, List.length_nil, Nat.reduceAdd, Nat.reduceSub, List.take_succ_cons, List.take_zero, List.drop_succ_cons, List.drop_zero])); simp +contextual only [hnl, ↓kN, ↓kP, ↓kG, ↓qN, ↓qP, ↓qG, push_cast, Int.reduceEq, Int.reduceLT, Int.reduceLE, Int.reduceNeg, Nat.reduceLT, Nat.reduceLeDiff, Int.reduceToNat, Int.cast_ofNat_Int, Nat.reduceBEq, Nat.reduceMul, Nat.reduceEqDiff, reduceCtorEq, Nat.reduceAdd])|refine tri_block ?_|((first|refine tri_skip ?_|refine tri_exit ?_); simp only [thenQ, blockQ, if_true, if_false, Nat.reduceEqDiff, reduceCtorEq])|(refine tri_cond (by rfl) (fun hb => ?_) (fun hb => ?_) <;> (try simp only [decide_eq_true_eq, decide_eq_false_iff_not, Bool.not_eq_true', Bool.not_eq_false', reduceCtorEq, Bool.true_eq_false, Bool.false_eq_true] at hb) <;> (try omega))|refine tri_unk (by rfl) ?_ ?_|refine And.intro (by first|omega|(unfold InR; omega)|assumption|decide|exact ⟨_, _, rfl⟩) ?_|(refine ⟨fun hc => ?_, fun hc => ?_⟩)|(intro hc; try omega))
        refine hL4 _ (0 + 1) (by omega) (by omega) ?_
        refine weak_of ?_ ?_ ?_ <;> simp only [push_cast, Int.reduceEq, Int.reduceLT, Int.reduceLE, Int.reduceNeg, Nat.reduceLT, Nat.reduceLeDiff, Int.reduceToNat, Int.cast_ofNat_Int, Nat.reduceBEq, Nat.reduceMul, Nat.reduceEqDiff, reduceCtorEq, Nat.reduceAdd]
        · exact congrArg (fun z : Nat => ((z : Nat) : Int)) s2.symm
        · exact .inl (congrArg (RC.deep 22 3 .int) hls.symm)
      · have hne2 := hne hk0
        have hne3 : ¬ (c.length : Int) + (j : Int) = (x : Int) := by omega
        replace hnl := And.intro hnl (And.intro (eq_false hk0) (And.intro (eq_false hne3) (And.intro hnx (And.intro hsub hsum))))
        repeat' (first|(refine goK (by assumption) ?_; iterate 4 (try clear hK K))|(refine tri_seqk fun K hK => ?_)|((first|refine tri_region hE rfl ?_|refine tri_ret ?_|((first|refine tri_drawP hE 1 rfl rfl (by kernel_rfl) ?_|refine tri_drawP hE 2 rfl rfl (by kernel_rfl) ?_|refine tri_drawP hE 3 rfl rfl (by kernel_rfl) ?_|refine tri_drawP hE 4 rfl rfl (by kernel_rfl) ?_); simp only [List.length_cons, List.length_nil, Nat.reduceAdd, Nat.reduceSub, List.take_succ_cons, List.take_zero, List.drop_succ_cons, List.drop_zero])); simp +contextual only [hnl, ↓kN, ↓kP, ↓kG, ↓qN, ↓qP, ↓qG, push_cast, Int.reduceEq, Int.reduceLT, Int.reduceLE, Int.reduceNeg, Nat.reduceLT, Nat.reduceLeDiff, Int.reduceToNat, Int.cast_ofNat_Int, Nat.reduceBEq, Nat.reduceMul, Nat.reduceEqDiff, reduceCtorEq, Nat.reduceAdd])|refine tri_block ?_|((first|refine tri_skip ?_|refine tri_exit ?_); simp only [thenQ, blockQ, if_true, if_false, Nat.reduceEqDiff, reduceCtorEq])|(refine tri_cond (by rfl) (fun hb => ?_) (fun hb => ?_) <;> (try simp only [decide_eq_true_eq, decide_eq_false_iff_not, Bool.not_eq_true', Bool.not_eq_false', reduceCtorEq, Bool.true_eq_false, Bool.false_eq_true] at hb) <;> (try omega))|refine tri_unk (by rfl) ?_ ?_|refine And.intro (by first|omega|(unfold InR; omega)|assumption|decide|exact ⟨_, _, rfl⟩) ?_|(refine ⟨fun hc => ?_, fun hc => ?_⟩)|(intro hc; try omega))
        refine hL4 _ (k + 1) (by omega) (by omega) ?_
        refine weak_of ?_ ?_ ?_ <;> simp only [push_cast, Int.reduceEq, Int.reduceLT, Int.reduceLE, Int.reduceNeg, Nat.reduceLT, Nat.reduceLeDiff, Int.reduceToNat, Int.cast_ofNat_Int, Nat.reduceBEq, Nat.reduceMul, Nat.reduceEqDiff, reduceCtorEq, Nat.reduceAdd]
        · exact congrArg (fun z : Nat => ((z : Nat) : Int)) s2.symm
        · exact .inl (congrArg (RC.deep 22 3 .int) hls.symm)
    · obtain ⟨i, j, hi, hj, h0, s1, s2⟩ := hs
      have hls : turnK c.length p f x l (k + 1) = Go.OT.addAt (turnK c.length p f x l k) i j (-l) := by
        have e : f (it f k x) - c.length = j := by
          have : f (it f k x) = c.length + j := s2
          omega
        have e2 : turnK c.length p f x l (k + 1) = if it f k x < c.length then Go.OT.addAt (turnK c.length p f x l k) (it f k x) (f (it f k x) - c.length) (-l) else Go.OT.addAt (turnK c.length p f x l k) (f (it f k x)) (it f k x - c.length) l := rfl
        rw [e2, if_pos (by omega), e, s1]
      generalize turnK c.length p f x l k = q at hT hls ⊢
      have t1 := hT.sz.rows
      have t2 := hT.sz.cols i hi
      have t3 : _ ≤ (q.getD i []).getD j 0 ∧ (q.getD i []).getD j 0 ≤ _ := hT.near i j hi hj
      have tp : 0 ≤ gt p i j ∧ gt p i j ≤ 200 := hp.tab.at' i j (by omega) (by omega)
      unfold gt at tp
      unfold gt at t3
      have tpr := hp.tab.cols i (by omega)
      rw [s1] at hnx hne ⊢
      rw [s2] at hnx
      have hsub : (c.length : Int) + (j : Int) - (c.length : Int) = (j : Int) := by omega
      have hsum : ((c.length : Int) + (j : Int)).toNat = c.length + j := by omega
      have hcast : ((c.length + j : Nat) : Int) = (c.length : Int) + (j : Int) := by omega
      by_cases hk0 : k = 0
      · subst hk0
        replace hnl := And.intro hnl (And.intro hnx (And.intro hsub hsum))
        repeat' (first|(refine goK (by assumption) ?_; iterate 4 (try clear hK K))|(refine tri_seqk fun K hK => ?_)|((first|refine tri_region hE rfl ?_|refine tri_ret ?_|((first|refine tri_drawP hE 1 rfl rfl (by kernel_rfl) ?_|refine tri_drawP hE 2 rfl rfl (by kernel_rfl) ?_|refine tri_drawP hE 3 rfl rfl (by kernel_rfl) ?_|refine tri_drawP hE 4 rfl rfl (by kernel_rfl) ?_); simp only [List.length_cons, List.length_nil, Nat.reduceAdd, Nat.reduceSub, List.take_succ_cons, List.take_zero, List.drop_succ_cons, List.drop_zero])); simp +contextual only [hnl, ↓kN, ↓kP, ↓kG, ↓qN, ↓qP, ↓qG, push_cast, Int.reduceEq, Int.reduceLT, Int.reduceLE, Int.reduceNeg, Nat.reduceLT, Nat.reduceLeDiff, Int.reduceToNat, Int.cast_ofNat_Int, Nat.reduceBEq, Nat.reduceMul, Nat.reduceEqDiff, reduceCtorEq, Nat.reduceAdd])|refine tri_block ?_|((first|refine tri_skip ?_|refine tri_exit ?_); simp only [thenQ, blockQ, if_true, if_false, Nat.reduceEqDiff, reduceCtorEq])|(refine tri_cond (by rfl) (fun hb => ?_) (fun hb => ?_) <;> (try simp only [decide_eq_true_eq, decide_eq_false_iff_not, Bool.not_eq_true', Bool.not_eq_false', reduceCtorEq, Bool.true_eq_false, Bool.false_eq_true] at hb) <;> (try omega))|refine tri_unk (by rfl) ?_ ?_|refine And.intro (by first|omega|(unfold InR; omega)|assumption|decide|exact ⟨_, _, rfl⟩) ?_|(refine ⟨fun hc => ?_, fun hc => ?_⟩)|(intro hc; try omega))
        refine hL4 _ (0 + 1) (by omega) (by omega) ?_
        refine weak_of ?_ ?_ ?_ <;> simp only [push_cast, Int.reduceEq, Int.reduceLT, Int.reduceLE, Int.reduceNeg, Nat.reduceLT, Nat.reduceLeDiff, Int.reduceToNat, Int.cast_ofNat_Int, Nat.reduceBEq, Nat.reduceMul, Nat.reduceEqDiff, reduceCtorEq, Nat.reduceAdd]
        · exact hcast.symm.trans (congrArg (fun z : Nat => ((z : Nat) : Int)) s2.symm)
        · exact .inl (congrArg (RC.deep 22 3 .int) hls.symm)
      · have hne2 := hne hk0
        have hne3 : ¬ (i : Int) = (x : Int) := by omega
        replace hnl := And.intro hnl (And.intro (eq_false hk0) (And.intro (eq_false hne3) (And.intro hnx (And.intro hsub hsum))))
        repeat' (first|(refine goK (by assumption) ?_; iterate 4 (try clear hK K))|(refine tri_seqk fun K hK => ?_)|((first|refine tri_region hE rfl ?_|refine tri_ret ?_|((first|refine tri_drawP hE 1 rfl rfl (by kernel_rfl) ?_|refine tri_drawP hE 2 rfl rfl (by kernel_rfl) ?_|refine tri_drawP hE 3 rfl rfl (by kernel_rfl) ?_|refine tri_drawP hE 4 rfl rfl (by kernel_rfl) ?_); simp only [List.length_cons, List.length_nil, Nat.reduceAdd, Nat.reduceSub, List.take_succ_cons, List.take_zero, List.drop_succ_cons, List.drop_zero])); simp +contextual only [hnl, ↓kN, ↓kP, ↓kG, ↓qN, ↓qP, ↓qG, push_cast, Int.reduceEq, Int.reduceLT, Int.reduceLE, Int.reduceNeg, Nat.reduceLT, Nat.reduceLeDiff, Int.reduceToNat, Int.cast_ofNat_Int, Nat.reduceBEq, Nat.reduceMul, Nat.reduceEqDiff, reduceCtorEq, Nat.reduceAdd])|refine tri_block ?_|((first|refine tri_skip ?_|refine tri_exit ?_); simp only [thenQ, blockQ, if_true, if_false, Nat.reduceEqDiff, reduceCtorEq])|(refine tri_cond (by rfl) (fun hb => ?_) (fun hb => ?_) <;> (try simp only [decide_eq_true_eq, decide_eq_false_iff_not, Bool.not_eq_true', Bool.not_eq_false', reduceCtorEq, Bool.true_eq_false, Bool.false_eq_true] at hb) <;> (try omega))|refine tri_unk (by rfl) ?_ ?_|refine And.intro (by first|omega|(unfold InR; omega)|assumption|decide|exact ⟨_, _, rfl⟩) ?_|(refine ⟨fun hc => ?_, fun hc => ?_⟩)|(intro hc; try omega))
        refine hL4 _ (k + 1) (by omega) (by omega) ?_
        refine weak_of ?_ ?_ ?_ <;> simp only [push_cast, Int.reduceEq, Int.reduceLT, Int.reduceLE, Int.reduceNeg, Nat.reduceLT, Nat.reduceLeDiff, Int.reduceToNat, Int.cast_ofNat_Int, Nat.reduceBEq, Nat.reduceMul, Nat.reduceEqDiff, reduceCtorEq, Nat.reduceAdd]
        · exact hcast.symm.trans (congrArg (fun z : Nat => ((z : Nat) : Int)) s2.symm)
        · exact .inl (congrArg (RC.deep 22 3 .int) hls.symm)
  obtain rfl : k = m := by omega
  have hbk := r3.rnd.back
  replace hnl := And.intro hnl (And.intro hbk (eq_false hp1))
  repeat' (first|(refine goK (by assumption) ?_; iterate 4 (try clear hK K))|(refine tri_seqk fun K hK => ?_)|((first|refine tri_region hE rfl ?_|refine tri_ret ?_|((first|refine tri_drawP hE 1 rfl rfl (by kernel_rfl) ?_|refine tri_drawP hE 2 rfl rfl (by kernel_rfl) ?_|refine tri_drawP hE 3 rfl rfl (by kernel_rfl) ?_|refine tri_drawP hE 4 rfl rfl (by kernel_rfl) ?_); simp only [List.length_cons, List.length_nil, Nat.reduceAdd, Nat.reduceSub, List.take_succ_cons, List.take_zero, List.drop_succ_cons, List.drop_zero])); simp +contextual only [hnl, ↓kN, ↓kP, ↓kG, ↓qN, ↓qP, ↓qG, push_cast, Int.reduceEq, Int.reduceLT, Int.reduceLE, Int.reduceNeg, Nat.reduceLT, Nat.reduceLeDiff, Int.reduceToNat, Int.cast_ofNat_Int, Nat.reduceBEq, Nat.reduceMul, Nat.reduceEqDiff, reduceCtorEq, Nat.reduceAdd])|refine tri_block ?_|((first|refine tri_skip ?_|refine tri_exit ?_); simp only [thenQ, blockQ, if_true, if_false, Nat.reduceEqDiff, reduceCtorEq])|(refine tri_cond (by rfl) (fun hb => ?_) (fun hb => ?_) <;> (try simp only [decide_eq_true_eq, decide_eq_false_iff_not, Bool.not_eq_true', Bool.not_eq_false', reduceCtorEq, Bool.true_eq_false, Bool.false_eq_true] at hb) <;> (try omega))|refine tri_unk (by rfl) ?_ ?_|refine And.intro (by first|omega|(unfold InR; omega)|assumption|decide|exact ⟨_, _, rfl⟩) ?_|(refine ⟨fun hc => ?_, fun hc => ?_⟩)|(intro hc; try omega))
  rw [if_pos hi, if_pos hi, hi, hV]
  exact ⟨⟨rfl, rfl⟩, rfl⟩
end Go.Proofs.Ytogopoiohckpdad
