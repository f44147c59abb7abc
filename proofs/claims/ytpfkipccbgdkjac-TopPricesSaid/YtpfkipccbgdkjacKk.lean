/- Which links are cyclic, and an exchange with a gain, by the program. Conditions: in each contract. -/
import Derived.Test.YtpfkipccbgdkjacKj
namespace Go.Proofs.Ytpfkipccbgdkjac
open Go.RowKit Go.VS Go.OT Go.LC
set_option linter.unusedSimpArgs false
set_option linter.unusedVariables false

@[push_cast] def lossClo : Clo := ⟨[], [.prod (.sl (.sl .int)) (.sl (.prod .int .int)), .int, .int], .int, fun _ (x : Exch × Int × Int × Unit) => LossPre x.1 x.2.1 x.2.2.1, fun _ (x : Exch × Int × Int × Unit) => lossV x.1.1 x.1.2 x.2.1.toNat x.2.2.1.toNat⟩
theorem lossClo_spec : CloSpec Try.prog 36 lossClo := CloSpec.of loss_spec

@[push_cast] def isCon : Con := ⟨[.dat (.sl (.sl .int)), .dat (.sl (.prod .int .int))], fun _ => True, fun (x : List (List Int) × List Pr × Unit) => { res := [.val .bool (decide (errLinks x.1 x.2.1 = 0 ∧ CycP x.1 x.2.1)), .val .int (errLinks x.1 x.2.1)] }⟩
def roundR (c : List (List Int)) (l : List Pr) : List Pr := if errLinks c l = 0 then roundL c l else []
@[push_cast] def rndCon : Con := ⟨[.dat (.sl (.sl .int)), .dat (.sl (.prod .int .int))], fun _ => True, fun (x : List (List Int) × List Pr × Unit) => { res := [.own (.flat 74 (.prod .int .int) (roundR x.1 x.2.1)), .val .bool (decide (0 < (roundR x.1 x.2.1).length)), .val .int (errLinks x.1 x.2.1)] }⟩

theorem cy_pre {c : List (List Int)} {l : List Pr} (hc : InTab 0 99 c) (h : Lnk c l) : CyPre (l.length : Int) (fun z => LossPre (c, l) z.1 z.2.1, fun z => lossV c l z.1.toNat z.2.1.toNat) := by
  refine ⟨by have := h.le25 hc; omega, fun i j hi hj => ?_, fun i j hi hj => h.w hc i j hi hj⟩
  have e : ((l.length : Nat) : Int).toNat = l.length := rfl
  rw [e] at hi hj
  exact ⟨hc, h.at', by dsimp only; omega, by dsimp only; omega⟩

theorem pis_spec : FnSpec Try.prog 14 isCon := by
  refine FnSpec.of_tri' (E := know [(34, linksCon), (35, cycCon)] [(36, lossClo)] [] []) (know_ok (all_cons plinks_spec (all_cons cyc_spec all_nil)) (all_cons lossClo_spec all_nil) all_nil) Try.func14 rfl rfl (by kernel_rfl) ?_
  intro C x hE hnl hfit hpre
  simp only [Try.ntmps14, Try.results14, maxLen, Nat.reduceSub, Nat.reducePow, Nat.reduceAdd, Int.cast_ofNat_Int, push_cast] at hnl hfit hpre ⊢
  obtain ⟨(c : List (List Int)), (l : List Pr), _⟩ := x
  dsimp only at hfit hpre ⊢
  by_cases he : errLinks c l = 0
  · obtain ⟨hc, hl⟩ := errLinks_ok he
    have hp := cy_pre hc hl
    have hz := cyL_len0 hc hl
    replace hnl := And.intro hnl he
    repeat' (first|(refine goK (by assumption) ?_; iterate 4 (try clear hK K))|(refine tri_seqk fun K hK => ?_)|((first|refine tri_region hE rfl ?_|refine tri_ret ?_); simp +contextual only [hnl, ↓kN, ↓kP, ↓kG, ↓qN, ↓qP, ↓qG, push_cast, Int.reduceEq, Int.reduceLT, Int.reduceLE, Int.reduceNeg, Nat.reduceLT, Nat.reduceLeDiff, Int.reduceToNat, Int.cast_ofNat_Int, Nat.reduceBEq, Nat.reduceMul, Nat.reduceEqDiff, reduceCtorEq, Nat.reduceAdd])|refine tri_block ?_|((first|refine tri_skip ?_|refine tri_exit ?_); simp only [thenQ, blockQ, if_true, if_false, Nat.reduceEqDiff, reduceCtorEq])|(refine tri_cond (by rfl) (fun hb => ?_) (fun hb => ?_) <;> (try simp only [decide_eq_true_eq, decide_eq_false_iff_not, Bool.not_eq_true', Bool.not_eq_false', reduceCtorEq, Bool.true_eq_false, Bool.false_eq_true] at hb) <;> (try omega))|refine tri_unk (by rfl) ?_ ?_|refine And.intro (by first|omega|(unfold InR; omega)|assumption|decide|exact ⟨_, _, rfl⟩) ?_|(refine ⟨fun hc => ?_, fun hc => ?_⟩)|(intro hc; try omega))
    have hz' : ((cyL (wF fun z => lossV c l z.1.toNat z.2.1.toNat) l.length).length : Int) = 0 ↔ CycP c l := by
      show ((cyL (lossV c l) l.length).length : Int) = 0 ↔ _
      rw [← hz]
      omega
    exact decide_eq_decide.2 hz'
  · replace hnl := And.intro hnl (eq_false he)
    repeat' (first|(refine goK (by assumption) ?_; iterate 4 (try clear hK K))|(refine tri_seqk fun K hK => ?_)|((first|refine tri_region hE rfl ?_|refine tri_ret ?_); simp +contextual only [hnl, ↓kN, ↓kP, ↓kG, ↓qN, ↓qP, ↓qG, push_cast, Int.reduceEq, Int.reduceLT, Int.reduceLE, Int.reduceNeg, Nat.reduceLT, Nat.reduceLeDiff, Int.reduceToNat, Int.cast_ofNat_Int, Nat.reduceBEq, Nat.reduceMul, Nat.reduceEqDiff, reduceCtorEq, Nat.reduceAdd])|refine tri_block ?_|((first|refine tri_skip ?_|refine tri_exit ?_); simp only [thenQ, blockQ, if_true, if_false, Nat.reduceEqDiff, reduceCtorEq])|(refine tri_cond (by rfl) (fun hb => ?_) (fun hb => ?_) <;> (try simp only [decide_eq_true_eq, decide_eq_false_iff_not, Bool.not_eq_true', Bool.not_eq_false', reduceCtorEq, Bool.true_eq_false, Bool.false_eq_true] at hb) <;> (try omega))|refine tri_unk (by rfl) ?_ ?_|refine And.intro (by first|omega|(unfold InR; omega)|assumption|decide|exact ⟨_, _, rfl⟩) ?_|(refine ⟨fun hc => ?_, fun hc => ?_⟩)|(intro hc; try omega))
    exact (decide_eq_false fun h => h.1).symm

theorem prnd_spec : FnSpec Try.prog 16 rndCon := by
  refine FnSpec.of_tri' (E := know [(34, linksCon), (35, cycCon)] [(36, lossClo)] [] []) (know_ok (all_cons plinks_spec (all_cons cyc_spec all_nil)) (all_cons lossClo_spec all_nil) all_nil) Try.func16 rfl rfl (by kernel_rfl) ?_
  intro C x hE hnl hfit hpre
  simp only [Try.ntmps16, Try.results16, maxLen, Nat.reduceSub, Nat.reducePow, Nat.reduceAdd, Int.cast_ofNat_Int, push_cast] at hnl hfit hpre ⊢
  obtain ⟨(c : List (List Int)), (l : List Pr), _⟩ := x
  dsimp only at hfit hpre ⊢
  by_cases he : errLinks c l = 0
  · obtain ⟨hc, hl⟩ := errLinks_ok he
    have hp := cy_pre hc hl
    have e1 : roundR c l = roundL c l := if_pos he
    have h25 : (cyL (lossV c l) l.length).length ≤ 1000 := by
      by_cases hn : CycP c l
      · rw [cyL_nil hn]; exact Nat.zero_le _
      · obtain ⟨_, o2⟩ := cy_ok (hl.w hc) (hl.le25 hc)
        obtain ⟨_, hr⟩ := o2 hn
        have h1 := hr.short
        have h2 := hl.le25 hc
        rw [cyL_len hn]
        omega
    replace hnl := And.intro hnl he
    rw [e1]
    repeat' (first|(refine goK (by assumption) ?_; iterate 4 (try clear hK K))|(refine tri_seqk fun K hK => ?_)|((first|refine tri_region hE rfl ?_|refine tri_ret ?_); simp +contextual only [hnl, ↓kN, ↓kP, ↓kG, ↓qN, ↓qP, ↓qG, push_cast, Int.reduceEq, Int.reduceLT, Int.reduceLE, Int.reduceNeg, Nat.reduceLT, Nat.reduceLeDiff, Int.reduceToNat, Int.cast_ofNat_Int, Nat.reduceBEq, Nat.reduceMul, Nat.reduceEqDiff, reduceCtorEq, Nat.reduceAdd])|refine tri_block ?_|((first|refine tri_skip ?_|refine tri_exit ?_); simp only [thenQ, blockQ, if_true, if_false, Nat.reduceEqDiff, reduceCtorEq])|(refine tri_cond (by rfl) (fun hb => ?_) (fun hb => ?_) <;> (try simp only [decide_eq_true_eq, decide_eq_false_iff_not, Bool.not_eq_true', Bool.not_eq_false', reduceCtorEq, Bool.true_eq_false, Bool.false_eq_true] at hb) <;> (try omega))|refine tri_unk (by rfl) ?_ ?_|refine And.intro (by first|omega|(unfold InR; omega)|assumption|decide|exact ⟨_, _, rfl⟩) ?_|(refine ⟨fun hc => ?_, fun hc => ?_⟩)|(intro hc; try omega))
    have hmem : ∀ k, k < (cyL (wF fun z => lossV c l z.1.toNat z.2.1.toNat) l.length).length → 0 ≤ (cyL (wF fun z => lossV c l z.1.toNat z.2.1.toNat) l.length).getD k 0 ∧ (cyL (wF fun z => lossV c l z.1.toNat z.2.1.toNat) l.length).getD k 0 < l.length := fun k hk => cyL_mem hc hl hk
    have hR : roundL c l = tbl (cyL (wF fun z => lossV c l z.1.toNat z.2.1.toNat) l.length).length fun m => l.getD ((cyL (wF fun z => lossV c l z.1.toNat z.2.1.toNat) l.length).getD m 0).toNat (0, 0) := map_tbl _ 0 _
    have h25' : (cyL (wF fun z => lossV c l z.1.toNat z.2.1.toNat) l.length).length ≤ 1000 := h25
    rw [hR]
    generalize cyL (wF fun z => lossV c l z.1.toNat z.2.1.toNat) l.length = L at *
    refine tri_loopI (fun k : Nat => AS.of [(1, .one (.val (.sl (.prod .int .int)) l)), (8, .one (.ref 35)), (23, .one (.ref 23)), (24, .I L.length), (25, .I k)] [(23, .flat 3 .int L), (35, .flat 74 (.prod .int .int) (tbl k fun m => l.getD (L.getD m 0).toNat (0, 0)))] []) (fun k => k ≤ L.length) (fun k => L.length - k) 0 (Nat.zero_le _) ?_ ?_
    · refine weak_of ?_ ?_ ?_ <;> simp only [push_cast, Int.reduceEq, Int.reduceLT, Int.reduceLE, Int.reduceNeg, Nat.reduceLT, Nat.reduceLeDiff, Int.reduceToNat, Int.cast_ofNat_Int, Nat.reduceBEq, Nat.reduceMul, Nat.reduceEqDiff, reduceCtorEq, Nat.reduceAdd]
      all_goals exact ⟨by omega, tbl_zero _⟩
    intro k hk K' hL
    have hlen : (tbl k fun m => l.getD (L.getD m 0).toNat (0, 0)).length = k := tbl_len _ _
    replace hnl := And.intro hnl hlen
    rcases Nat.lt_or_ge k L.length with hk' | hk'
    · have hm := hmem k hk'
      repeat' (first|(refine goK (by assumption) ?_; iterate 4 (try clear hK K))|(refine tri_seqk fun K hK => ?_)|((first|refine tri_region hE rfl ?_|refine tri_ret ?_); simp +contextual only [hnl, ↓kN, ↓kP, ↓kG, ↓qN, ↓qP, ↓qG, push_cast, Int.reduceEq, Int.reduceLT, Int.reduceLE, Int.reduceNeg, Nat.reduceLT, Nat.reduceLeDiff, Int.reduceToNat, Int.cast_ofNat_Int, Nat.reduceBEq, Nat.reduceMul, Nat.reduceEqDiff, reduceCtorEq, Nat.reduceAdd])|refine tri_block ?_|((first|refine tri_skip ?_|refine tri_exit ?_); simp only [thenQ, blockQ, if_true, if_false, Nat.reduceEqDiff, reduceCtorEq])|(refine tri_cond (by rfl) (fun hb => ?_) (fun hb => ?_) <;> (try simp only [decide_eq_true_eq, decide_eq_false_iff_not, Bool.not_eq_true', Bool.not_eq_false', reduceCtorEq, Bool.true_eq_false, Bool.false_eq_true] at hb) <;> (try omega))|refine tri_unk (by rfl) ?_ ?_|refine And.intro (by first|omega|(unfold InR; omega)|assumption|decide|exact ⟨_, _, rfl⟩) ?_|(refine ⟨fun hc => ?_, fun hc => ?_⟩)|(intro hc; try omega))
      refine hL _ (k + 1) (by omega) (by omega) ?_
      refine weak_of ?_ ?_ ?_ <;> simp only [push_cast, Int.reduceEq, Int.reduceLT, Int.reduceLE, Int.reduceNeg, Nat.reduceLT, Nat.reduceLeDiff, Int.reduceToNat, Int.cast_ofNat_Int, Nat.reduceBEq, Nat.reduceMul, Nat.reduceEqDiff, reduceCtorEq, Nat.reduceAdd]
      all_goals first | (left; rw [tbl_succ]) | skip
    · obtain rfl : k = L.length := by omega
      repeat' (first|(refine goK (by assumption) ?_; iterate 4 (try clear hK K))|(refine tri_seqk fun K hK => ?_)|((first|refine tri_region hE rfl ?_|refine tri_ret ?_); simp +contextual only [hnl, ↓kN, ↓kP, ↓kG, ↓qN, ↓qP, ↓qG, push_cast, Int.reduceEq, Int.reduceLT, Int.reduceLE, Int.reduceNeg, Nat.reduceLT, Nat.reduceLeDiff, Int.reduceToNat, Int.cast_ofNat_Int, Nat.reduceBEq, Nat.reduceMul, Nat.reduceEqDiff, reduceCtorEq, Nat.reduceAdd])|refine tri_block ?_|((first|refine tri_skip ?_|refine tri_exit ?_); simp only [thenQ, blockQ, if_true, if_false, Nat.reduceEqDiff, reduceCtorEq])|(refine tri_cond (by rfl) (fun hb => ?_) (fun hb => ?_) <;> (try simp only [decide_eq_true_eq, decide_eq_false_iff_not, Bool.not_eq_true', Bool.not_eq_false', reduceCtorEq, Bool.true_eq_false, Bool.false_eq_true] at hb) <;> (try omega))|refine tri_unk (by rfl) ?_ ?_|refine And.intro (by first|omega|(unfold InR; omega)|assumption|decide|exact ⟨_, _, rfl⟩) ?_|(refine ⟨fun hc => ?_, fun hc => ?_⟩)|(intro hc; try omega))
      rw [hR, hlen]
      exact ⟨rfl, decide_eq_decide.2 (by omega)⟩
  · have e1 : roundR c l = [] := if_neg he
    replace hnl := And.intro hnl (And.intro (eq_false he) e1)
    repeat' (first|(refine goK (by assumption) ?_; iterate 4 (try clear hK K))|(refine tri_seqk fun K hK => ?_)|((first|refine tri_region hE rfl ?_|refine tri_ret ?_); simp +contextual only [hnl, ↓kN, ↓kP, ↓kG, ↓qN, ↓qP, ↓qG, push_cast, Int.reduceEq, Int.reduceLT, Int.reduceLE, Int.reduceNeg, Nat.reduceLT, Nat.reduceLeDiff, Int.reduceToNat, Int.cast_ofNat_Int, Nat.reduceBEq, Nat.reduceMul, Nat.reduceEqDiff, reduceCtorEq, Nat.reduceAdd])|refine tri_block ?_|((first|refine tri_skip ?_|refine tri_exit ?_); simp only [thenQ, blockQ, if_true, if_false, Nat.reduceEqDiff, reduceCtorEq])|(refine tri_cond (by rfl) (fun hb => ?_) (fun hb => ?_) <;> (try simp only [decide_eq_true_eq, decide_eq_false_iff_not, Bool.not_eq_true', Bool.not_eq_false', reduceCtorEq, Bool.true_eq_false, Bool.false_eq_true] at hb) <;> (try omega))|refine tri_unk (by rfl) ?_ ?_|refine And.intro (by first|omega|(unfold InR; omega)|assumption|decide|exact ⟨_, _, rfl⟩) ?_|(refine ⟨fun hc => ?_, fun hc => ?_⟩)|(intro hc; try omega))
    all_goals skip
end Go.Proofs.Ytpfkipccbgdkjac
