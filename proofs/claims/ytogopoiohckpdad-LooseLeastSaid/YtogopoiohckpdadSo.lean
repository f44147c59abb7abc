/- The document's loose plans: dumps on both sides. Conditions: in each contract. -/
import Derived.Test.YtogopoiohckpdadSm
import Derived.Test.YtogopoiohckpdadHh
namespace Go.Proofs.Ytogopoiohckpdad
open Go.RowKit Go.VS Go.OT
set_option linter.unusedSimpArgs false
set_option linter.unusedVariables false

/-- Masses with a dump, and the table with the costs of dumps. -/
def dumA (a b : List Int) (m : Int) : List Int := a ++ [lsum b - m]
def dumC (c : List (List Int)) (d e : Int) : List (List Int) := (c.map fun r => r ++ [d]) ++ [List.replicate (wid c) d ++ [e]]
abbrev DumArgs := List Int × List Int × List (List Int) × Int × Int × Int × Unit
structure DumP (a b : List Int) (c : List (List Int)) (m : Int) : Prop where
  f : ForOK a b c
  lo : 0 ≤ m
  hi : m ≤ lsum a ∧ m ≤ lsum b
@[push_cast] def dumCon : Con := ⟨[.dat (.sl .int), .dat (.sl .int), .dat (.sl (.sl .int)), .dat .int, .dat .int, .dat .int], fun (x : DumArgs) => DumP x.1 x.2.1 x.2.2.1 x.2.2.2.1,
  fun (x : DumArgs) => { res := [.own (.flat 3 .int (dumA x.1 x.2.1 x.2.2.2.1)), .own (.flat 3 .int (dumA x.2.1 x.1 x.2.2.2.1)), .own (.deep 22 3 .int (dumC x.2.2.1 x.2.2.2.2.1 x.2.2.2.2.2.1))] }⟩
theorem dum_spec : FnSpec Try.prog 41 dumCon := by
  refine FnSpec.of_tri' (E := know [(51, totalCon)] [] [] [21, 30, 46]) (know_ok (all_cons qtotal_spec all_nil) all_nil all_nil) Try.func41 rfl rfl (by kernel_rfl) ?_
  intro C x hE hnl hfit hpre
  simp only [Try.ntmps41, Try.results41, maxLen, Nat.reduceSub, Nat.reducePow, Nat.reduceAdd, Int.cast_ofNat_Int, push_cast] at hnl hfit hpre ⊢
  obtain ⟨(a : List Int), (b : List Int), (c : List (List Int)), (m : Int), (d : Int), (e : Int), _⟩ := x
  dsimp only at hfit hpre ⊢
  obtain ⟨hf, hm0, hm1, hm2⟩ := hpre
  obtain ⟨s1, s2, s3, s4⟩ := MC.sums hf
  have ha5 := hf.mc.a5
  have hb5 := hf.mc.b5
  have hr := hf.rows
  have hw := hf.cols
  replace hnl := And.intro hnl (And.intro (fun m => eq_true (s1 m)) (fun m => eq_true (s2 m)))
  repeat' (first|(refine goK (by assumption) ?_; iterate 4 (try clear hK K))|(refine tri_seqk fun K hK => ?_)|((first|refine tri_region hE rfl ?_|refine tri_ret ?_|((first|refine tri_drawP hE 1 rfl rfl (by kernel_rfl) ?_|refine tri_drawP hE 2 rfl rfl (by kernel_rfl) ?_|refine tri_drawP hE 3 rfl rfl (by kernel_rfl) ?_|refine tri_drawP hE 4 rfl rfl (by kernel_rfl) ?_); simp only [List.length_cons, List.length_nil, Nat.reduceAdd, Nat.reduceSub, List.take_succ_cons, List.take_zero, List.drop_succ_cons, List.drop_zero])); simp +contextual only [hnl, ↓kN, ↓kP, ↓kG, ↓qN, ↓qP, ↓qG, push_cast, Int.reduceEq, Int.reduceLT, Int.reduceLE, Int.reduceNeg, Nat.reduceLT, Nat.reduceLeDiff, Int.reduceToNat, Int.cast_ofNat_Int, Nat.reduceBEq, Nat.reduceMul, Nat.reduceEqDiff, reduceCtorEq, Nat.reduceAdd])|refine tri_block ?_|((first|refine tri_skip ?_|refine tri_exit ?_); simp only [thenQ, blockQ, if_true, if_false, Nat.reduceEqDiff, reduceCtorEq])|(refine tri_cond (by rfl) (fun hb => ?_) (fun hb => ?_) <;> (try simp only [decide_eq_true_eq, decide_eq_false_iff_not, Bool.not_eq_true', Bool.not_eq_false', reduceCtorEq, Bool.true_eq_false, Bool.false_eq_true] at hb) <;> (try omega))|refine tri_unk (by rfl) ?_ ?_|refine And.intro (by first|omega|(unfold InR; omega)|assumption|decide|exact ⟨_, _, rfl⟩) ?_|(refine ⟨fun hc => ?_, fun hc => ?_⟩)|(intro hc; try omega))
  refine tri_loopI (fun k : Nat => AS.of [(1, .one (.val (.sl .int) b)), (2, .one (.val (.sl (.sl .int)) c)), (4, .I d), (5, .I e), (15, .one (.ref 21)), (16, .one (.ref 30)), (17, .one (.ref 56)), (18, .one .nils), (19, .I k)] [(21, .flat 3 .int (dumA a b m)), (30, .flat 3 .int (dumA b a m)), (56, .deep 22 3 .int ((c.take k).map fun r => r ++ [d]))] []) (fun k => k ≤ c.length) (fun k => c.length - k) 0 (Nat.zero_le _) ?_ ?_
  · refine weak_of ?_ ?_ ?_ <;> simp only [push_cast, Int.reduceEq, Int.reduceLT, Int.reduceLE, Int.reduceNeg, Nat.reduceLT, Nat.reduceLeDiff, Int.reduceToNat, Int.cast_ofNat_Int, Nat.reduceBEq, Nat.reduceMul, Nat.reduceEqDiff, reduceCtorEq, Nat.reduceAdd]
    exact ⟨.inl rfl, .inl rfl, by omega⟩
  intro k hk K' hL
  rcases Nat.lt_or_ge k c.length with hkc | hkc
  · have hrow : (c.getD k []).length = wid c := hf.hc.len hkc
    have hml : (List.map (fun r => r ++ [d]) (List.take k c)).length ≤ 6 := by rw [List.length_map, List.length_take]; omega
    have hms : List.map (fun r => r ++ [d]) (List.take k c) ++ [c.getD k [] ++ [d]] = List.map (fun r => r ++ [d]) (List.take (k + 1) c) := by
      rw [List.take_succ_eq_append_getElem hkc, List.map_append]
      simp [List.getD_eq_getElem?_getD, hkc]
    have hrl : List.length (c.getD k []) ≤ 1000000 := by rw [hrow]; omega
    have hml2 : (List.map (fun r => r ++ [d]) (List.take k c)).length ≤ 1000000 := by omega
    replace hnl := And.intro hnl (And.intro hrl hml2)
    repeat' (first|(refine goK (by assumption) ?_; iterate 4 (try clear hK K))|(refine tri_seqk fun K hK => ?_)|((first|refine tri_region hE rfl ?_|refine tri_ret ?_|((first|refine tri_drawP hE 1 rfl rfl (by kernel_rfl) ?_|refine tri_drawP hE 2 rfl rfl (by kernel_rfl) ?_|refine tri_drawP hE 3 rfl rfl (by kernel_rfl) ?_|refine tri_drawP hE 4 rfl rfl (by kernel_rfl) ?_); simp only [List.length_cons, List.length_nil, Nat.reduceAdd, Nat.reduceSub, List.take_succ_cons, List.take_zero, List.drop_succ_cons, List.drop_zero])); simp +contextual only [hnl, ↓kN, ↓kP, ↓kG, ↓qN, ↓qP, ↓qG, push_cast, Int.reduceEq, Int.reduceLT, Int.reduceLE, Int.reduceNeg, Nat.reduceLT, Nat.reduceLeDiff, Int.reduceToNat, Int.cast_ofNat_Int, Nat.reduceBEq, Nat.reduceMul, Nat.reduceEqDiff, reduceCtorEq, Nat.reduceAdd])|refine tri_block ?_|((first|refine tri_skip ?_|refine tri_exit ?_); simp only [thenQ, blockQ, if_true, if_false, Nat.reduceEqDiff, reduceCtorEq])|(refine tri_cond (by rfl) (fun hb => ?_) (fun hb => ?_) <;> (try simp only [decide_eq_true_eq, decide_eq_false_iff_not, Bool.not_eq_true', Bool.not_eq_false', reduceCtorEq, Bool.true_eq_false, Bool.false_eq_true] at hb) <;> (try omega))|refine tri_unk (by rfl) ?_ ?_|refine And.intro (by first|omega|(unfold InR; omega)|assumption|decide|exact ⟨_, _, rfl⟩) ?_|(refine ⟨fun hc => ?_, fun hc => ?_⟩)|(intro hc; try omega))
    rw [hms]
    refine hL _ (k + 1) (by omega) (by omega) ?_
    refine weak_of ?_ ?_ ?_ <;> simp only [push_cast, Int.reduceEq, Int.reduceLT, Int.reduceLE, Int.reduceNeg, Nat.reduceLT, Nat.reduceLeDiff, Int.reduceToNat, Int.cast_ofNat_Int, Nat.reduceBEq, Nat.reduceMul, Nat.reduceEqDiff, reduceCtorEq, Nat.reduceAdd]
    all_goals exact .inl rfl
  · obtain rfl : k = c.length := by omega
    repeat' (first|(refine goK (by assumption) ?_; iterate 4 (try clear hK K))|(refine tri_seqk fun K hK => ?_)|((first|refine tri_region hE rfl ?_|refine tri_ret ?_|((first|refine tri_drawP hE 1 rfl rfl (by kernel_rfl) ?_|refine tri_drawP hE 2 rfl rfl (by kernel_rfl) ?_|refine tri_drawP hE 3 rfl rfl (by kernel_rfl) ?_|refine tri_drawP hE 4 rfl rfl (by kernel_rfl) ?_); simp only [List.length_cons, List.length_nil, Nat.reduceAdd, Nat.reduceSub, List.take_succ_cons, List.take_zero, List.drop_succ_cons, List.drop_zero])); simp +contextual only [hnl, ↓kN, ↓kP, ↓kG, ↓qN, ↓qP, ↓qG, push_cast, Int.reduceEq, Int.reduceLT, Int.reduceLE, Int.reduceNeg, Nat.reduceLT, Nat.reduceLeDiff, Int.reduceToNat, Int.cast_ofNat_Int, Nat.reduceBEq, Nat.reduceMul, Nat.reduceEqDiff, reduceCtorEq, Nat.reduceAdd])|refine tri_block ?_|((first|refine tri_skip ?_|refine tri_exit ?_); simp only [thenQ, blockQ, if_true, if_false, Nat.reduceEqDiff, reduceCtorEq])|(refine tri_cond (by rfl) (fun hb => ?_) (fun hb => ?_) <;> (try simp only [decide_eq_true_eq, decide_eq_false_iff_not, Bool.not_eq_true', Bool.not_eq_false', reduceCtorEq, Bool.true_eq_false, Bool.false_eq_true] at hb) <;> (try omega))|refine tri_unk (by rfl) ?_ ?_|refine And.intro (by first|omega|(unfold InR; omega)|assumption|decide|exact ⟨_, _, rfl⟩) ?_|(refine ⟨fun hc => ?_, fun hc => ?_⟩)|(intro hc; try omega))
    refine tri_loopI (fun k : Nat => AS.of [(1, .one (.val (.sl .int) b)), (4, .I d), (5, .I e), (15, .one (.ref 21)), (16, .one (.ref 30)), (17, .one (.ref 56)), (18, .one (.ref 66)), (20, .I k)] [(21, .flat 3 .int (dumA a b m)), (30, .flat 3 .int (dumA b a m)), (56, .deep 22 3 .int (c.map fun r => r ++ [d])), (66, .flat 3 .int (List.replicate k d))] []) (fun k => k ≤ b.length) (fun k => b.length - k) 0 (Nat.zero_le _) ?_ ?_
    · refine weak_of ?_ ?_ ?_ <;> simp only [push_cast, Int.reduceEq, Int.reduceLT, Int.reduceLE, Int.reduceNeg, Nat.reduceLT, Nat.reduceLeDiff, Int.reduceToNat, Int.cast_ofNat_Int, Nat.reduceBEq, Nat.reduceMul, Nat.reduceEqDiff, reduceCtorEq, Nat.reduceAdd]
      exact ⟨.inl (by rw [List.take_length]), by omega, rfl⟩
    intro k hk2 K2 hL2
    have hl1 : (List.replicate k d).length ≤ 1000000 := by rw [List.length_replicate]; omega
    have hl2 : (List.map (fun r => r ++ [d]) c).length ≤ 1000000 := by rw [List.length_map]; omega
    have hl3 : List.replicate k d ++ [d] = List.replicate (k + 1) d := List.replicate_succ'.symm
    replace hnl := And.intro hnl (And.intro hl1 hl2)
    repeat' (first|(refine goK (by assumption) ?_; iterate 4 (try clear hK K))|(refine tri_seqk fun K hK => ?_)|((first|refine tri_region hE rfl ?_|refine tri_ret ?_|((first|refine tri_drawP hE 1 rfl rfl (by kernel_rfl) ?_|refine tri_drawP hE 2 rfl rfl (by kernel_rfl) ?_|refine tri_drawP hE 3 rfl rfl (by kernel_rfl) ?_|refine tri_drawP hE 4 rfl rfl (by kernel_rfl) ?_); simp only [List.length_cons, List.length_nil, Nat.reduceAdd, Nat.reduceSub, List.take_succ_cons, List.take_zero, List.drop_succ_cons, List.drop_zero])); simp +contextual only [hnl, ↓kN, ↓kP, ↓kG, ↓qN, ↓qP, ↓qG, push_cast, Int.reduceEq, Int.reduceLT, Int.reduceLE, Int.reduceNeg, Nat.reduceLT, Nat.reduceLeDiff, Int.reduceToNat, Int.cast_ofNat_Int, Nat.reduceBEq, Nat.reduceMul, Nat.reduceEqDiff, reduceCtorEq, Nat.reduceAdd])|refine tri_block ?_|((first|refine tri_skip ?_|refine tri_exit ?_); simp only [thenQ, blockQ, if_true, if_false, Nat.reduceEqDiff, reduceCtorEq])|(refine tri_cond (by rfl) (fun hb => ?_) (fun hb => ?_) <;> (try simp only [decide_eq_true_eq, decide_eq_false_iff_not, Bool.not_eq_true', Bool.not_eq_false', reduceCtorEq, Bool.true_eq_false, Bool.false_eq_true] at hb) <;> (try omega))|refine tri_unk (by rfl) ?_ ?_|refine And.intro (by first|omega|(unfold InR; omega)|assumption|decide|exact ⟨_, _, rfl⟩) ?_|(refine ⟨fun hc => ?_, fun hc => ?_⟩)|(intro hc; try omega))
    · rw [hl3]
      refine hL2 _ (k + 1) (by omega) (by omega) ?_
      refine weak_of ?_ ?_ ?_ <;> simp only [push_cast, Int.reduceEq, Int.reduceLT, Int.reduceLE, Int.reduceNeg, Nat.reduceLT, Nat.reduceLeDiff, Int.reduceToNat, Int.cast_ofNat_Int, Nat.reduceBEq, Nat.reduceMul, Nat.reduceEqDiff, reduceCtorEq, Nat.reduceAdd]
      all_goals exact .inl rfl
    · obtain rfl : k = b.length := by omega
      simp only [dumC, hw]
end Go.Proofs.Ytogopoiohckpdad
