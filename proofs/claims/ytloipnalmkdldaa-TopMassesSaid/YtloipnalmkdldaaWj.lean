/- The plan along the corner is a plan between its masses, and a forest; the statement MassCorners as a contract. Conditions: in each contract. -/
import Derived.Test.YtloipnalmkdldaaWi
import Derived.Test.YtloipnalmkdldaaWf
import Derived.Test.YtloipnalmkdldaaFo
namespace Go.Proofs.Ytloipnalmkdldaa
open Go.RowKit Go.VS Go.OT
set_option linter.unusedSimpArgs false
set_option linter.unusedVariables false

def cut (lo hi x : Int) : Int := min (max x lo) hi
theorem ovl_sumL {a b : List Int} (hnb : ∀ i, 0 ≤ ga b i) {i : Nat} (h : bel a i ≤ bel a (i + 1)) : ∀ n, lsum (tbl n fun j => ovl a b i j) = cut (bel a i) (bel a (i + 1)) (bel b n) - cut (bel a i) (bel a (i + 1)) (bel b 0)
  | 0 => by simp [tbl, lsum]
  | n + 1 => by
    have h1 := bel_mono hnb (i := n) (k := n + 1) (by omega)
    rw [lsum_tbl_succ, ovl_sumL hnb h n]
    unfold ovl cut
    omega
theorem ovl_sym (a b : List Int) (i j : Nat) : ovl a b i j = ovl b a j i := by
  unfold ovl
  omega
/-- Rows of overlaps add up to the mass. -/
theorem ovl_row {a b : List Int} (ha : okMass a = true) (hb : okMass b = true) (hs : lsum a = lsum b) {i : Nat} (hi : i < a.length) : lsum (tbl b.length fun j => ovl a b i j) = a.getD i 0 := by
  have hna := ga_nn fun x hx => (okMass_mem ha x hx).1
  have hnb := ga_nn fun x hx => (okMass_mem hb x hx).1
  have h1 := bel_mono hna (i := i) (k := i + 1) (by omega)
  have h2 := bel_mono hna (i := i + 1) (k := a.length) (by omega)
  have h0 := bel_mono hna (i := 0) (k := i) (by omega)
  have e1 := bel_lsum a a.length (Nat.le_refl _)
  have e2 := bel_lsum b b.length (Nat.le_refl _)
  rw [List.take_length] at e1 e2
  have e3 := bel_succ a i
  have z1 : bel a 0 = 0 := rfl
  have z2 : bel b 0 = 0 := rfl
  rw [ovl_sumL hnb h1, ← e2, ← hs, e1, z2]
  unfold cut
  have : ga a i = a.getD i 0 := rfl
  omega
theorem ovl_bnd {a b : List Int} (ha : okMass a = true) {i j : Nat} (hi : i < a.length) : 0 ≤ ovl a b i j ∧ ovl a b i j ≤ 30 := by
  have hna := ga_nn fun x hx => (okMass_mem ha x hx).1
  have h1 := okMass_mem ha _ (getD_mem (0 : Int) hi)
  have e3 := bel_succ a i
  have : ga a i = a.getD i 0 := rfl
  unfold ovl
  omega
theorem corn_row {a b : List Int} {i : Nat} (hi : i < a.length) : (tbl a.length fun i => tbl b.length fun j => ovl a b i j).getD i [] = tbl b.length fun j => ovl a b i j := tbl_get _ _ hi
/-- The plan along the corner leads from its one mass to the other. -/
theorem corner_check {a b : List Int} (h : errPair a b = 0) : InPlan (cornerF a b) ∧ errCheck a b (cornerF a b) = 0 ∧ isFoE (cornerF a b) = true := by
  obtain ⟨ha, hb, hs⟩ := errPair_ok h
  have la := okMass_len ha
  have lb := okMass_len hb
  rw [corner_tbl ha hb]
  have hw : wid (tbl a.length fun i => tbl b.length fun j => ovl a b i j) = b.length := by
    unfold wid
    rw [corn_row (by omega), tbl_len]
  have hin : InPlan (tbl a.length fun i => tbl b.length fun j => ovl a b i j) := by
    refine ⟨by rw [tbl_len]; exact la, by rw [hw]; exact lb, fun r hr => ?_, fun r hr x hx => ?_⟩
    · obtain ⟨i, hi, rfl⟩ := List.mem_map.1 hr
      rw [tbl_len, hw]
    · obtain ⟨i, hi, rfl⟩ := List.mem_map.1 hr
      obtain ⟨j, hj, rfl⟩ := List.mem_map.1 hx
      have := ovl_bnd (b := b) (j := j) ha (List.mem_range.1 hi)
      omega
  have hrow : rowsP (tbl a.length fun i => tbl b.length fun j => ovl a b i j) = a := by
    conv => rhs; rw [list_tbl a 0]
    unfold rowsP tbl
    rw [List.map_map]
    exact List.map_congr_left fun i hi => ovl_row ha hb hs (List.mem_range.1 hi)
  have hcol : colsP (tbl a.length fun i => tbl b.length fun j => ovl a b i j) = b := by
    unfold colsP
    rw [hw]
    conv => rhs; rw [list_tbl b 0]
    refine tbl_congr fun j hj => ?_
    rw [← ovl_row hb ha hs.symm hj]
    unfold colP
    congr 1
    unfold tbl
    rw [List.map_map]
    refine List.map_congr_left fun i hi => ?_
    show (tbl b.length fun j => ovl a b i j).getD j 0 = _
    rw [tbl_get _ _ hj, ovl_sym]
  refine ⟨hin, ?_, ?_⟩
  · unfold errCheck
    rw [if_pos ha, if_pos hb, if_pos (okPlan_iff.2 hin), if_pos hs, if_pos ⟨hrow, hcol⟩]
  · unfold isFoE
    refine decide_eq_true ⟨errPlan_0 hin, chain_forest (lk_nodup _) fun x hx y hy => ?_⟩
    obtain ⟨x1, x2, x3, x4, x5⟩ := (lkI _ _).mem x hx
    obtain ⟨y1, y2, y3, y4, y5⟩ := (lkI _ _).mem y hy
    rw [tbl_len] at x3 y3
    rw [hw] at x4 y4
    rw [corn_row (by omega), tbl_get _ _ (by omega)] at x5 y5
    have := ovl_chain (fun x hx => (okMass_mem ha x hx).1) (fun x hx => (okMass_mem hb x hx).1) x5 y5
    omega

@[push_cast] def trueConAB : Con := ⟨[.dat (.sl .int), .dat (.sl .int)], fun _ => True, fun _ => { res := [.val .bool true] }⟩
set_option maxHeartbeats 2000000 in
theorem corners_fn : FnSpec Try.prog 4 trueConAB := by
  refine FnSpec.of_tri' (E := know [(13, manyCon), (8, knownCon), (14, cornerCon), (15, cornerCon), (16, sameTCon), (11, isFoCon), (17, checkCon)] [] [] []) (know_ok (all_cons many_spec (all_cons known_spec (all_cons corner_spec (all_cons rcorner_spec (all_cons sameT_spec (all_cons isFo_spec (all_cons check_spec all_nil))))))) all_nil all_nil) Try.func4 rfl rfl (by kernel_rfl) ?_
  intro C x hE hnl hfit hpre
  simp only [Try.ntmps4, Try.results4, maxLen, Nat.reduceSub, Nat.reducePow, Nat.reduceAdd, Int.cast_ofNat_Int, push_cast] at hnl hfit hpre ⊢
  obtain ⟨(a : List Int), (b : List Int), _⟩ := x
  dsimp only at hfit hpre ⊢
  by_cases h : errPair a b = 0
  · obtain ⟨h1, h2, h3⟩ := corner_check h
    have h4 := errPlan_0 h1
    replace hnl := And.intro hnl (And.intro h (And.intro h2 (And.intro h3 (And.intro h4 boolsF))))
    repeat' (first|(refine goK (by assumption) ?_; iterate 4 (try clear hK K))|(refine tri_seqk fun K hK => ?_)|((first|refine tri_region hE rfl ?_|refine tri_ret ?_|((first|refine tri_drawP hE 1 rfl rfl (by kernel_rfl) ?_|refine tri_drawP hE 2 rfl rfl (by kernel_rfl) ?_|refine tri_drawP hE 3 rfl rfl (by kernel_rfl) ?_|refine tri_drawP hE 4 rfl rfl (by kernel_rfl) ?_); simp only [List.length_cons, List.length_nil, Nat.reduceAdd, Nat.reduceSub, List.take_succ_cons, List.take_zero, List.drop_succ_cons, List.drop_zero])); simp +contextual only [hnl, ↓kN, ↓kP, ↓kG, ↓qN, ↓qP, ↓qG, push_cast, Int.reduceEq, Int.reduceLT, Int.reduceLE, Int.reduceNeg, Nat.reduceLT, Nat.reduceLeDiff, Int.reduceToNat, Int.cast_ofNat_Int, Nat.reduceBEq, Nat.reduceMul, Nat.reduceEqDiff, reduceCtorEq, Nat.reduceAdd])|refine tri_block ?_|((first|refine tri_skip ?_|refine tri_exit ?_); simp only [thenQ, blockQ, if_true, if_false, Nat.reduceEqDiff, reduceCtorEq])|(refine tri_cond (by rfl) (fun hb => ?_) (fun hb => ?_) <;> (try simp only [decide_eq_true_eq, decide_eq_false_iff_not, Bool.not_eq_true', Bool.not_eq_false', reduceCtorEq, Bool.true_eq_false, Bool.false_eq_true] at hb) <;> (try omega))|refine tri_unk (by rfl) ?_ ?_|refine And.intro (by first|omega|(unfold InR; omega)|assumption|decide|exact ⟨_, _, rfl⟩) ?_|(refine ⟨fun hc => ?_, fun hc => ?_⟩)|(intro hc; try omega))
    all_goals trace_state
  · replace hnl := And.intro hnl (And.intro (eq_false h) boolsF)
    repeat' (first|(refine goK (by assumption) ?_; iterate 4 (try clear hK K))|(refine tri_seqk fun K hK => ?_)|((first|refine tri_region hE rfl ?_|refine tri_ret ?_|((first|refine tri_drawP hE 1 rfl rfl (by kernel_rfl) ?_|refine tri_drawP hE 2 rfl rfl (by kernel_rfl) ?_|refine tri_drawP hE 3 rfl rfl (by kernel_rfl) ?_|refine tri_drawP hE 4 rfl rfl (by kernel_rfl) ?_); simp only [List.length_cons, List.length_nil, Nat.reduceAdd, Nat.reduceSub, List.take_succ_cons, List.take_zero, List.drop_succ_cons, List.drop_zero])); simp +contextual only [hnl, ↓kN, ↓kP, ↓kG, ↓qN, ↓qP, ↓qG, push_cast, Int.reduceEq, Int.reduceLT, Int.reduceLE, Int.reduceNeg, Nat.reduceLT, Nat.reduceLeDiff, Int.reduceToNat, Int.cast_ofNat_Int, Nat.reduceBEq, Nat.reduceMul, Nat.reduceEqDiff, reduceCtorEq, Nat.reduceAdd])|refine tri_block ?_|((first|refine tri_skip ?_|refine tri_exit ?_); simp only [thenQ, blockQ, if_true, if_false, Nat.reduceEqDiff, reduceCtorEq])|(refine tri_cond (by rfl) (fun hb => ?_) (fun hb => ?_) <;> (try simp only [decide_eq_true_eq, decide_eq_false_iff_not, Bool.not_eq_true', Bool.not_eq_false', reduceCtorEq, Bool.true_eq_false, Bool.false_eq_true] at hb) <;> (try omega))|refine tri_unk (by rfl) ?_ ?_|refine And.intro (by first|omega|(unfold InR; omega)|assumption|decide|exact ⟨_, _, rfl⟩) ?_|(refine ⟨fun hc => ?_, fun hc => ?_⟩)|(intro hc; try omega))
    all_goals trace_state
end Go.Proofs.Ytloipnalmkdldaa
