/- The plan along the corner, as the program makes it. Conditions: in each contract. -/
import Derived.Test.YtloipnalmkdldaaFc
namespace Go.Proofs.Ytloipnalmkdldaa
open Go.RowKit Go.VS
set_option linter.unusedSimpArgs false
set_option linter.unusedVariables false

/-- The walk along the corner, from a place on. -/
def walk : Nat → List Int → List Int → List (List Int) → Nat → Nat → List (List Int)
  | 0, _, _, out, _, _ => out
  | f + 1, a, b, out, i, j => if i < a.length ∧ j < b.length then
      (let n := min (a.getD i 0) (b.getD j 0)
       let o := out.set i ((out.getD i []).set j n)
       if b.getD j 0 - n = 0 then walk f (a.set i (a.getD i 0 - n)) (b.set j (b.getD j 0 - n)) o i (j + 1)
       else walk f (a.set i (a.getD i 0 - n)) (b.set j (b.getD j 0 - n)) o (i + 1) j)
      else out

def cornerF (a b : List Int) : List (List Int) := walk (a.length + b.length) a b (List.replicate a.length (List.replicate b.length 0)) 0 0

@[push_cast] def cornerCon : Con := ⟨[.dat (.sl .int), .dat (.sl .int)], fun _ => True, fun (x : List Int × List Int × Unit) =>
  if errPair x.1 x.2.1 = 0 then { res := [.own (.deep 33 3 .int (cornerF x.1 x.2.1)), .val .int 0] } else { res := [.val (.sl (.sl .int)) [], .val .int (errPair x.1 x.2.1)] }⟩

theorem errPair_ok {a b : List Int} (h : errPair a b = 0) : okMass a = true ∧ okMass b = true ∧ lsum a = lsum b := by
  unfold errPair at h
  split at h
  · split at h
    · split at h
      · exact ⟨by assumption, by assumption, by assumption⟩
      · simp at h
    · simp at h
  · simp at h

def inMass (l : List Int) : Prop := ∀ x ∈ l, 0 ≤ x ∧ x ≤ 30

theorem inMass_set {l : List Int} (h : inMass l) {i : Nat} {n : Int} (h1 : 0 ≤ n ∧ n ≤ 30) : inMass (l.set i n) := by
  intro x hx
  rcases List.mem_or_eq_of_mem_set hx with h2 | h2
  · exact h x h2
  · rw [h2]; exact h1

theorem getD_set_self {α : Type} {l : List α} {j : Nat} {x d : α} (h : j < l.length) : (l.set j x).getD j d = x := by
  simp [List.getD_eq_getElem?_getD, h]

theorem mem_set_len {o : List (List Int)} {i m : Nat} {r : List Int} (h : ∀ r ∈ o, r.length = m) (hr : r.length = m) : ∀ q ∈ o.set i r, q.length = m := by
  intro q hq
  rcases List.mem_or_eq_of_mem_set hq with h2 | h2
  · exact h q h2
  · rw [h2]; exact hr

theorem corner_spec : FnSpec Try.prog 14 cornerCon := by
  refine FnSpec.of_tri' (E := know [(31, pairCon), (33, cloneCon), (32, tableCon)] [] [] []) (know_ok (all_cons pair_spec (all_cons clone_spec (all_cons table_spec all_nil))) all_nil all_nil) Try.func14 rfl rfl (by kernel_rfl) ?_
  intro C x hE hnl hfit hpre
  simp only [Try.ntmps14, Try.results14, maxLen, Nat.reduceSub, Nat.reducePow, Nat.reduceAdd, Int.cast_ofNat_Int, push_cast] at hnl hfit hpre ⊢
  obtain ⟨(a : List Int), (b : List Int), _⟩ := x
  dsimp only at hfit hpre ⊢
  by_cases he : errPair a b = 0
  · rw [if_pos he]
    obtain ⟨oa, ob, hs⟩ := errPair_ok he
    have la := okMass_len oa
    have lb := okMass_len ob
    repeat' (first|(refine goK (by assumption) ?_; iterate 4 (try clear hK K))|(refine tri_seqk fun K hK => ?_)|((first|refine tri_region hE rfl ?_|refine tri_ret ?_|((first|refine tri_drawP hE 1 rfl rfl (by kernel_rfl) ?_|refine tri_drawP hE 2 rfl rfl (by kernel_rfl) ?_|refine tri_drawP hE 3 rfl rfl (by kernel_rfl) ?_|refine tri_drawP hE 4 rfl rfl (by kernel_rfl) ?_); simp only [List.length_cons, List.length_nil, Nat.reduceAdd, Nat.reduceSub, List.take_succ_cons, List.take_zero, List.drop_succ_cons, List.drop_zero])); simp +contextual only [hnl, ↓kN, ↓kP, ↓kG, ↓qN, ↓qP, ↓qG, push_cast, Int.reduceEq, Int.reduceLT, Int.reduceLE, Int.reduceNeg, Nat.reduceLT, Nat.reduceLeDiff, Int.reduceToNat, Int.cast_ofNat_Int, Nat.reduceBEq, Nat.reduceMul, Nat.reduceEqDiff, reduceCtorEq, Nat.reduceAdd])|refine tri_block ?_|((first|refine tri_skip ?_|refine tri_exit ?_); simp only [thenQ, blockQ, if_true, if_false, Nat.reduceEqDiff, reduceCtorEq])|(refine tri_cond (by rfl) (fun hb => ?_) (fun hb => ?_) <;> (try simp only [decide_eq_true_eq, decide_eq_false_iff_not, Bool.not_eq_true', Bool.not_eq_false', reduceCtorEq, Bool.true_eq_false, Bool.false_eq_true] at hb) <;> (try omega))|refine tri_unk (by rfl) ?_ ?_|refine And.intro (by first|omega|(unfold InR; omega)|assumption|decide|exact ⟨_, _, rfl⟩) ?_|(refine ⟨fun hc => ?_, fun hc => ?_⟩)|(intro hc; try omega))
    refine tri_loopI (fun x : List Int × List Int × List (List Int) × Nat × Nat => AS.of [(0, .one (.ref 23)), (1, .one (.ref 25)), (7, .one (.ref 21)), (8, .I x.2.2.2.1), (9, .I x.2.2.2.2)]
        [(23, .flat 3 .int x.1), (25, .flat 3 .int x.2.1), (21, .deep 33 3 .int x.2.2.1)] [])
      (fun x => x.1.length = a.length ∧ x.2.1.length = b.length ∧ x.2.2.1.length = a.length ∧ (∀ r ∈ x.2.2.1, r.length = b.length) ∧ inMass x.1 ∧ inMass x.2.1 ∧ x.2.2.2.1 ≤ a.length ∧ x.2.2.2.2 ≤ b.length ∧
        walk ((a.length - x.2.2.2.1) + (b.length - x.2.2.2.2)) x.1 x.2.1 x.2.2.1 x.2.2.2.1 x.2.2.2.2 = cornerF a b)
      (fun x => (a.length - x.2.2.2.1) + (b.length - x.2.2.2.2)) (a, b, List.replicate a.length (List.replicate b.length 0), 0, 0)
      ⟨rfl, rfl, by simp, fun r hr => by rw [List.eq_of_mem_replicate hr]; simp, okMass_mem oa, okMass_mem ob, Nat.zero_le _, Nat.zero_le _, rfl⟩ ?_ ?_
    · refine weak_of ?_ ?_ ?_ <;> simp only [push_cast, Int.reduceEq, Int.reduceLT, Int.reduceLE, Int.reduceNeg, Nat.reduceLT, Nat.reduceLeDiff, Int.reduceToNat, Int.cast_ofNat_Int, Nat.reduceBEq, Nat.reduceMul, Nat.reduceEqDiff, reduceCtorEq, Nat.reduceAdd]
    rintro ⟨a', b', o, i, j⟩ ⟨e1, e2, e3, e4, e5, e6, e7, e8, e9⟩ K' hL
    dsimp only at e1 e2 e3 e4 e5 e6 e7 e8 e9 hL ⊢
    repeat' (first|(refine goK (by assumption) ?_; iterate 4 (try clear hK K))|(refine tri_seqk fun K hK => ?_)|((first|refine tri_region hE rfl ?_|refine tri_ret ?_|((first|refine tri_drawP hE 1 rfl rfl (by kernel_rfl) ?_|refine tri_drawP hE 2 rfl rfl (by kernel_rfl) ?_|refine tri_drawP hE 3 rfl rfl (by kernel_rfl) ?_|refine tri_drawP hE 4 rfl rfl (by kernel_rfl) ?_); simp only [List.length_cons, List.length_nil, Nat.reduceAdd, Nat.reduceSub, List.take_succ_cons, List.take_zero, List.drop_succ_cons, List.drop_zero])); simp +contextual only [hnl, ↓kN, ↓kP, ↓kG, ↓qN, ↓qP, ↓qG, push_cast, Int.reduceEq, Int.reduceLT, Int.reduceLE, Int.reduceNeg, Nat.reduceLT, Nat.reduceLeDiff, Int.reduceToNat, Int.cast_ofNat_Int, Nat.reduceBEq, Nat.reduceMul, Nat.reduceEqDiff, reduceCtorEq, Nat.reduceAdd])|refine tri_block ?_|((first|refine tri_skip ?_|refine tri_exit ?_); simp only [thenQ, blockQ, if_true, if_false, Nat.reduceEqDiff, reduceCtorEq])|(refine tri_cond (by rfl) (fun hb => ?_) (fun hb => ?_) <;> (try simp only [decide_eq_true_eq, decide_eq_false_iff_not, Bool.not_eq_true', Bool.not_eq_false', reduceCtorEq, Bool.true_eq_false, Bool.false_eq_true] at hb) <;> (try omega))|refine tri_unk (by rfl) ?_ ?_|refine And.intro (by first|omega|(unfold InR; omega)|assumption|decide|exact ⟨_, _, rfl⟩) ?_|(refine ⟨fun hc => ?_, fun hc => ?_⟩)|(intro hc; try omega))
    · have hrow : (o.getD i []).length = b.length := e4 _ (getD_mem [] (by omega))
      have hai : 0 ≤ a'.getD i 0 ∧ a'.getD i 0 ≤ 30 := e5 _ (getD_mem 0 (by omega))
      have hbj : 0 ≤ b'.getD j 0 ∧ b'.getD j 0 ≤ 30 := e6 _ (getD_mem 0 (by omega))
      have l1 : (b'.set j (b'.getD j 0 - min (a'.getD i 0) (b'.getD j 0))).length = b.length := by rw [List.length_set]; exact e2
      have hwalk : (a.length - i) + (b.length - j) = ((a.length - i) + (b.length - j) - 1) + 1 := by omega
      rw [hwalk] at e9
      simp only [walk] at e9
      rw [if_pos ⟨by omega, by omega⟩] at e9
      repeat' (first|(refine goK (by assumption) ?_; iterate 4 (try clear hK K))|(refine tri_seqk fun K hK => ?_)|((first|refine tri_region hE rfl ?_|refine tri_ret ?_|((first|refine tri_drawP hE 1 rfl rfl (by kernel_rfl) ?_|refine tri_drawP hE 2 rfl rfl (by kernel_rfl) ?_|refine tri_drawP hE 3 rfl rfl (by kernel_rfl) ?_|refine tri_drawP hE 4 rfl rfl (by kernel_rfl) ?_); simp only [List.length_cons, List.length_nil, Nat.reduceAdd, Nat.reduceSub, List.take_succ_cons, List.take_zero, List.drop_succ_cons, List.drop_zero])); simp +contextual only [hnl, ↓kN, ↓kP, ↓kG, ↓qN, ↓qP, ↓qG, push_cast, Int.reduceEq, Int.reduceLT, Int.reduceLE, Int.reduceNeg, Nat.reduceLT, Nat.reduceLeDiff, Int.reduceToNat, Int.cast_ofNat_Int, Nat.reduceBEq, Nat.reduceMul, Nat.reduceEqDiff, reduceCtorEq, Nat.reduceAdd])|refine tri_block ?_|((first|refine tri_skip ?_|refine tri_exit ?_); simp only [thenQ, blockQ, if_true, if_false, Nat.reduceEqDiff, reduceCtorEq])|(refine tri_cond (by rfl) (fun hb => ?_) (fun hb => ?_) <;> (try simp only [decide_eq_true_eq, decide_eq_false_iff_not, Bool.not_eq_true', Bool.not_eq_false', reduceCtorEq, Bool.true_eq_false, Bool.false_eq_true] at hb) <;> (try omega))|refine tri_unk (by rfl) ?_ ?_|refine And.intro (by first|omega|(unfold InR; omega)|assumption|decide|exact ⟨_, _, rfl⟩) ?_|(refine ⟨fun hc => ?_, fun hc => ?_⟩)|(intro hc; try omega))
      · refine hL _ (a'.set i (a'.getD i 0 - min (a'.getD i 0) (b'.getD j 0)), b'.set j (b'.getD j 0 - min (a'.getD i 0) (b'.getD j 0)), o.set i ((o.getD i []).set j (min (a'.getD i 0) (b'.getD j 0))), i, j + 1) ⟨?_, ?_, ?_, ?_, ?_, ?_, ?_, ?_, ?_⟩ ?_ ?_
        · simp only [List.length_set]; exact e1
        · simp only [List.length_set]; exact e2
        · simp only [List.length_set]; exact e3
        · exact mem_set_len e4 (by rw [List.length_set]; exact hrow)
        · exact inMass_set e5 (by omega)
        · exact inMass_set e6 (by omega)
        · dsimp only; omega
        · dsimp only; omega
        · rw [getD_set_self (by omega)] at hb
          rw [if_pos hb] at e9
          rw [← e9]
          dsimp only
          congr 1
          omega
        · dsimp only; omega
        refine weak_of ?_ ?_ ?_ <;> simp only [push_cast, Int.reduceEq, Int.reduceLT, Int.reduceLE, Int.reduceNeg, Nat.reduceLT, Nat.reduceLeDiff, Int.reduceToNat, Int.cast_ofNat_Int, Nat.reduceBEq, Nat.reduceMul, Nat.reduceEqDiff, reduceCtorEq, Nat.reduceAdd]
      · refine hL _ (a'.set i (a'.getD i 0 - min (a'.getD i 0) (b'.getD j 0)), b'.set j (b'.getD j 0 - min (a'.getD i 0) (b'.getD j 0)), o.set i ((o.getD i []).set j (min (a'.getD i 0) (b'.getD j 0))), i + 1, j) ⟨?_, ?_, ?_, ?_, ?_, ?_, ?_, ?_, ?_⟩ ?_ ?_
        · simp only [List.length_set]; exact e1
        · simp only [List.length_set]; exact e2
        · simp only [List.length_set]; exact e3
        · exact mem_set_len e4 (by rw [List.length_set]; exact hrow)
        · exact inMass_set e5 (by omega)
        · exact inMass_set e6 (by omega)
        · dsimp only; omega
        · dsimp only; omega
        · rw [getD_set_self (by omega)] at hb
          rw [if_neg hb] at e9
          rw [← e9]
          dsimp only
          congr 1
          omega
        · dsimp only; omega
        refine weak_of ?_ ?_ ?_ <;> simp only [push_cast, Int.reduceEq, Int.reduceLT, Int.reduceLE, Int.reduceNeg, Nat.reduceLT, Nat.reduceLeDiff, Int.reduceToNat, Int.cast_ofNat_Int, Nat.reduceBEq, Nat.reduceMul, Nat.reduceEqDiff, reduceCtorEq, Nat.reduceAdd]
    · have hend : ¬ (i < a'.length ∧ j < b'.length) := by omega
      rw [← e9]
      cases hf : (a.length - i) + (b.length - j) <;> simp [walk, hend]
    · have hend : ¬ (i < a'.length ∧ j < b'.length) := by omega
      rw [← e9]
      cases hf : (a.length - i) + (b.length - j) <;> simp [walk, hend]
  · rw [if_neg he]
    repeat' (first|(refine goK (by assumption) ?_; iterate 4 (try clear hK K))|(refine tri_seqk fun K hK => ?_)|((first|refine tri_region hE rfl ?_|refine tri_ret ?_|((first|refine tri_drawP hE 1 rfl rfl (by kernel_rfl) ?_|refine tri_drawP hE 2 rfl rfl (by kernel_rfl) ?_|refine tri_drawP hE 3 rfl rfl (by kernel_rfl) ?_|refine tri_drawP hE 4 rfl rfl (by kernel_rfl) ?_); simp only [List.length_cons, List.length_nil, Nat.reduceAdd, Nat.reduceSub, List.take_succ_cons, List.take_zero, List.drop_succ_cons, List.drop_zero])); simp +contextual only [hnl, ↓kN, ↓kP, ↓kG, ↓qN, ↓qP, ↓qG, push_cast, Int.reduceEq, Int.reduceLT, Int.reduceLE, Int.reduceNeg, Nat.reduceLT, Nat.reduceLeDiff, Int.reduceToNat, Int.cast_ofNat_Int, Nat.reduceBEq, Nat.reduceMul, Nat.reduceEqDiff, reduceCtorEq, Nat.reduceAdd])|refine tri_block ?_|((first|refine tri_skip ?_|refine tri_exit ?_); simp only [thenQ, blockQ, if_true, if_false, Nat.reduceEqDiff, reduceCtorEq])|(refine tri_cond (by rfl) (fun hb => ?_) (fun hb => ?_) <;> (try simp only [decide_eq_true_eq, decide_eq_false_iff_not, Bool.not_eq_true', Bool.not_eq_false', reduceCtorEq, Bool.true_eq_false, Bool.false_eq_true] at hb) <;> (try omega))|refine tri_unk (by rfl) ?_ ?_|refine And.intro (by first|omega|(unfold InR; omega)|assumption|decide|exact ⟨_, _, rfl⟩) ?_|(refine ⟨fun hc => ?_, fun hc => ?_⟩)|(intro hc; try omega))
end Go.Proofs.Ytloipnalmkdldaa
