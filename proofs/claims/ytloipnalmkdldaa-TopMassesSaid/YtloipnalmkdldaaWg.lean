/- slices.DeleteFunc, IndexFunc and Clone of lists of pairs. Conditions: in each contract. -/
import Derived.Test.YtloipnalmkdldaaWe
import Derived.Test.YtloipnalmkdldaaV9
namespace Go.Proofs.Ytloipnalmkdldaa
open Go.RowKit Go.VS Go.OT
set_option linter.unusedSimpArgs false
set_option linter.unusedVariables false

structure StopW (p : Prop) : Prop where
  h : p
abbrev FnP := (Pr × Unit → Prop) × (Pr × Unit → Bool)
@[push_cast] def indexPCon : Con := ⟨[.dat (.sl (.prod .int .int)), .fnc [.prod .int .int] .bool], fun (x : List Pr × FnP × Unit) => ∀ y ∈ x.1, x.2.1.1 (y, ()),
  fun (x : List Pr × FnP × Unit) => { res := [.val .int (findI (fun y => x.2.1.2 (y, ())) x.1)] }⟩
@[push_cast] def clonePCon : Con := ⟨[.dat (.sl (.prod .int .int))], fun (x : List Pr × Unit) => x.1.length ≤ 1000, fun (x : List Pr × Unit) => { res := [.own (.flat 32 (.prod .int .int) x.1)] }⟩

theorem indexP_spec : FnSpec Try.prog 53 indexPCon := by
  refine FnSpec.of_tri' (E := know [] [] [] []) (know_ok all_nil all_nil all_nil) Try.func53 rfl rfl (by kernel_rfl) ?_
  intro C x hE hnl hfit hpre
  simp only [Try.ntmps53, Try.results53, maxLen, Nat.reduceSub, Nat.reducePow, Nat.reduceAdd, Int.cast_ofNat_Int, push_cast] at hnl hfit hpre ⊢
  obtain ⟨(l : List Pr), ⟨q, p⟩, _⟩ := x
  dsimp only at hfit hpre ⊢
  repeat' (first|(refine goK (by assumption) ?_; iterate 4 (try clear hK K))|(refine tri_seqk fun K hK => ?_)|((first|refine tri_region hE rfl ?_|refine tri_ret ?_); simp +contextual only [hnl, ↓kN, ↓kP, ↓kG, ↓qN, ↓qP, ↓qG, push_cast, Int.reduceEq, Int.reduceLT, Int.reduceLE, Int.reduceNeg, Nat.reduceLT, Nat.reduceLeDiff, Int.reduceToNat, Int.cast_ofNat_Int, Nat.reduceBEq, Nat.reduceMul, Nat.reduceEqDiff, reduceCtorEq, Nat.reduceAdd])|refine tri_block ?_|((first|refine tri_skip ?_|refine tri_exit ?_); simp only [thenQ, blockQ, if_true, if_false, Nat.reduceEqDiff, reduceCtorEq])|(refine tri_cond (by rfl) (fun hb => ?_) (fun hb => ?_) <;> (try simp only [decide_eq_true_eq, decide_eq_false_iff_not, Bool.not_eq_true', Bool.not_eq_false', reduceCtorEq, Bool.true_eq_false, Bool.false_eq_true] at hb) <;> (try omega))|refine tri_unk (by rfl) ?_ ?_|refine And.intro (by first|omega|(unfold InR; omega)|assumption|decide|exact ⟨_, _, rfl⟩) ?_|(refine ⟨fun hc => ?_, fun hc => ?_⟩)|(intro hc; try omega))
  refine tri_loopI (fun k : Nat => AS.of [(0, .one (.val (.sl (.prod .int .int)) l)), (1, .one (.fnv [.prod .int .int] .bool q p)), (6, .one (.val (.sl (.prod .int .int)) l)), (7, .I l.length), (8, .I k)] [] []) (fun k => k ≤ l.length ∧ findI (fun y => p (y, ())) l = (if findI (fun y => p (y, ())) (l.drop k) < 0 then -1 else findI (fun y => p (y, ())) (l.drop k) + k)) (fun k => l.length - k) 0 ⟨Nat.zero_le _, ?_⟩ ?_ ?_
  · simp only [List.drop_zero]
    split
    · exact findI_neg _ l (by assumption)
    · simp
  · refine weak_of ?_ ?_ ?_ <;> simp only [push_cast, Int.reduceEq, Int.reduceLT, Int.reduceLE, Int.reduceNeg, Nat.reduceLT, Nat.reduceLeDiff, Int.reduceToNat, Int.cast_ofNat_Int, Nat.reduceBEq, Nat.reduceMul, Nat.reduceEqDiff, reduceCtorEq, Nat.reduceAdd]
  intro k ⟨hk, hf⟩ K' hL
  repeat' (first|(refine goK (by assumption) ?_; iterate 4 (try clear hK K))|(refine tri_seqk fun K hK => ?_)|((first|refine tri_region hE rfl ?_|refine tri_ret ?_); simp +contextual only [hnl, ↓kN, ↓kP, ↓kG, ↓qN, ↓qP, ↓qG, push_cast, Int.reduceEq, Int.reduceLT, Int.reduceLE, Int.reduceNeg, Nat.reduceLT, Nat.reduceLeDiff, Int.reduceToNat, Int.cast_ofNat_Int, Nat.reduceBEq, Nat.reduceMul, Nat.reduceEqDiff, reduceCtorEq, Nat.reduceAdd])|refine tri_block ?_|((first|refine tri_skip ?_|refine tri_exit ?_); simp only [thenQ, blockQ, if_true, if_false, Nat.reduceEqDiff, reduceCtorEq])|(refine tri_cond (by rfl) (fun hb => ?_) (fun hb => ?_) <;> (try simp only [decide_eq_true_eq, decide_eq_false_iff_not, Bool.not_eq_true', Bool.not_eq_false', reduceCtorEq, Bool.true_eq_false, Bool.false_eq_true] at hb) <;> (try omega))|refine tri_unk (by rfl) ?_ ?_|refine And.intro (by first|omega|(unfold InR; omega)|assumption|decide|exact ⟨_, _, rfl⟩) ?_|(refine ⟨fun hc => ?_, fun hc => ?_⟩)|(intro hc; try omega))
  · rw [drop_getD (0, 0) (by omega)] at hf
    refine ⟨hpre _ (getD_mem (0, 0) (by omega)), ?_⟩
    repeat' (first|(refine goK (by assumption) ?_; iterate 4 (try clear hK K))|(refine tri_seqk fun K hK => ?_)|((first|refine tri_region hE rfl ?_|refine tri_ret ?_); simp +contextual only [hnl, ↓kN, ↓kP, ↓kG, ↓qN, ↓qP, ↓qG, push_cast, Int.reduceEq, Int.reduceLT, Int.reduceLE, Int.reduceNeg, Nat.reduceLT, Nat.reduceLeDiff, Int.reduceToNat, Int.cast_ofNat_Int, Nat.reduceBEq, Nat.reduceMul, Nat.reduceEqDiff, reduceCtorEq, Nat.reduceAdd])|refine tri_block ?_|((first|refine tri_skip ?_|refine tri_exit ?_); simp only [thenQ, blockQ, if_true, if_false, Nat.reduceEqDiff, reduceCtorEq])|(refine tri_cond (by rfl) (fun hb => ?_) (fun hb => ?_) <;> (try simp only [decide_eq_true_eq, decide_eq_false_iff_not, Bool.not_eq_true', Bool.not_eq_false', reduceCtorEq, Bool.true_eq_false, Bool.false_eq_true] at hb) <;> (try omega))|refine tri_unk (by rfl) ?_ ?_|refine And.intro (by first|omega|(unfold InR; omega)|assumption|decide|exact ⟨_, _, rfl⟩) ?_|(refine ⟨fun hc => ?_, fun hc => ?_⟩)|(intro hc; try omega))
    · rw [hf]
      simp only [findI, hb, if_true]
      simp
    · refine hL _ (k + 1) ⟨by omega, ?_⟩ (by omega) ?_
      · rw [hf]
        simp only [findI, hb]
        have := findI_ge (fun y => p (y, ())) (l.drop (k + 1))
        simp
        split <;> split <;> omega
      refine weak_of ?_ ?_ ?_ <;> simp only [push_cast, Int.reduceEq, Int.reduceLT, Int.reduceLE, Int.reduceNeg, Nat.reduceLT, Nat.reduceLeDiff, Int.reduceToNat, Int.cast_ofNat_Int, Nat.reduceBEq, Nat.reduceMul, Nat.reduceEqDiff, reduceCtorEq, Nat.reduceAdd]
  · obtain rfl : k = l.length := by omega
    rw [hf]
    simp [findI]

theorem cloneP_spec : FnSpec Try.prog 50 clonePCon := by
  refine FnSpec.of_tri' (E := know [] [] [] [5]) (know_ok all_nil all_nil all_nil) Try.func50 rfl rfl (by kernel_rfl) ?_
  intro C x hE hnl hfit hpre
  simp only [Try.ntmps50, Try.results50, maxLen, Nat.reduceSub, Nat.reducePow, Nat.reduceAdd, Int.cast_ofNat_Int, push_cast] at hnl hfit hpre ⊢
  obtain ⟨(l : List Pr), _⟩ := x
  dsimp only at hfit hpre ⊢
  cases l with
  | nil =>
    repeat' (first|(refine goK (by assumption) ?_; iterate 4 (try clear hK K))|(refine tri_seqk fun K hK => ?_)|((first|refine tri_region hE rfl ?_|refine tri_ret ?_|((first|refine tri_drawP hE 1 rfl rfl (by kernel_rfl) ?_|refine tri_drawP hE 2 rfl rfl (by kernel_rfl) ?_|refine tri_drawP hE 3 rfl rfl (by kernel_rfl) ?_|refine tri_drawP hE 4 rfl rfl (by kernel_rfl) ?_); simp only [List.length_cons, List.length_nil, Nat.reduceAdd, Nat.reduceSub, List.take_succ_cons, List.take_zero, List.drop_succ_cons, List.drop_zero])); simp +contextual only [hnl, ↓kN, ↓kP, ↓kG, ↓qN, ↓qP, ↓qG, push_cast, Int.reduceEq, Int.reduceLT, Int.reduceLE, Int.reduceNeg, Nat.reduceLT, Nat.reduceLeDiff, Int.reduceToNat, Int.cast_ofNat_Int, Nat.reduceBEq, Nat.reduceMul, Nat.reduceEqDiff, reduceCtorEq, Nat.reduceAdd])|refine tri_block ?_|((first|refine tri_skip ?_|refine tri_exit ?_); simp only [thenQ, blockQ, if_true, if_false, Nat.reduceEqDiff, reduceCtorEq])|(refine tri_cond (by rfl) (fun hb => ?_) (fun hb => ?_) <;> (try simp only [decide_eq_true_eq, decide_eq_false_iff_not, Bool.not_eq_true', Bool.not_eq_false', reduceCtorEq, Bool.true_eq_false, Bool.false_eq_true] at hb) <;> (try omega))|refine tri_unk (by rfl) ?_ ?_|refine And.intro (by first|omega|(unfold InR; omega)|assumption|decide|exact ⟨_, _, rfl⟩) ?_|(refine ⟨fun hc => ?_, fun hc => ?_⟩)|(intro hc; try omega))
    skip
  | cons y l =>
    simp only [List.length_cons] at hpre
    repeat' (first|(refine goK (by assumption) ?_; iterate 4 (try clear hK K))|(refine tri_seqk fun K hK => ?_)|((first|refine tri_region hE rfl ?_|refine tri_ret ?_|((first|refine tri_drawP hE 1 rfl rfl (by kernel_rfl) ?_|refine tri_drawP hE 2 rfl rfl (by kernel_rfl) ?_|refine tri_drawP hE 3 rfl rfl (by kernel_rfl) ?_|refine tri_drawP hE 4 rfl rfl (by kernel_rfl) ?_); simp only [List.length_cons, List.length_nil, Nat.reduceAdd, Nat.reduceSub, List.take_succ_cons, List.take_zero, List.drop_succ_cons, List.drop_zero])); simp +contextual only [hnl, ↓kN, ↓kP, ↓kG, ↓qN, ↓qP, ↓qG, push_cast, Int.reduceEq, Int.reduceLT, Int.reduceLE, Int.reduceNeg, Nat.reduceLT, Nat.reduceLeDiff, Int.reduceToNat, Int.cast_ofNat_Int, Nat.reduceBEq, Nat.reduceMul, Nat.reduceEqDiff, reduceCtorEq, Nat.reduceAdd])|refine tri_block ?_|((first|refine tri_skip ?_|refine tri_exit ?_); simp only [thenQ, blockQ, if_true, if_false, Nat.reduceEqDiff, reduceCtorEq])|(refine tri_cond (by rfl) (fun hb => ?_) (fun hb => ?_) <;> (try simp only [decide_eq_true_eq, decide_eq_false_iff_not, Bool.not_eq_true', Bool.not_eq_false', reduceCtorEq, Bool.true_eq_false, Bool.false_eq_true] at hb) <;> (try omega))|refine tri_unk (by rfl) ?_ ?_|refine And.intro (by first|omega|(unfold InR; omega)|assumption|decide|exact ⟨_, _, rfl⟩) ?_|(refine ⟨fun hc => ?_, fun hc => ?_⟩)|(intro hc; try omega))

def flatP : RC → List Pr
  | .flat _ (.prod .int .int) xs => xs
  | _ => []
structure DelPre (rc : RC) : Prop where
  hrc : rc = .flat 32 (.prod .int .int) (flatP rc)
  len : (flatP rc).length ≤ 1000
@[push_cast] def delCon : Con := ⟨[.lend, .fnc [.prod .int .int] .bool], fun (x : RC × FnP × Unit) => DelPre x.1 ∧ ∀ y ∈ flatP x.1, x.2.1.1 (y, ()),
  fun (x : RC × FnP × Unit) => { res := [.val (.sl (.prod .int .int)) ((flatP x.1).filter fun y => !x.2.1.2 (y, ()))] }⟩

/-- What holds on the way: k kept, the rest from j on as it was. -/
structure DelI (d : Pr → Bool) (xs : List Pr) (k j : Nat) (ys : List Pr) : Prop where
  kj : k < j
  jn : j ≤ xs.length
  len : ys.length = xs.length
  take : ys.take k = (xs.take j).filter (fun y => !d y)
  drop : ys.drop j = xs.drop j
theorem DelI.at {d : Pr → Bool} {xs ys : List Pr} {k j : Nat} (h : DelI d xs k j ys) (hj : j < xs.length) : ys.getD j (0, 0) = xs.getD j (0, 0) := by
  have h1 := congrArg (fun l => l[0]?) h.drop
  simp only [List.getElem?_drop, Nat.add_zero] at h1
  rw [List.getD_eq_getElem?_getD, List.getD_eq_getElem?_getD, h1]
theorem drop_succ' {xs ys : List Pr} {j : Nat} (h : ys.drop j = xs.drop j) : ys.drop (j + 1) = xs.drop (j + 1) := by
  rw [← List.drop_drop, ← List.drop_drop, h]
theorem take_succ' {xs : List Pr} {j : Nat} (hj : j < xs.length) : xs.take (j + 1) = xs.take j ++ [xs.getD j (0, 0)] := by
  rw [List.take_add_one, List.getElem?_eq_getElem hj, List.getD_eq_getElem?_getD, List.getElem?_eq_getElem hj]
  rfl
theorem filt1 (f : Pr → Bool) (a : Pr) : [a].filter f = if f a = true then [a] else [] := by rw [List.filter_cons, List.filter_nil]
theorem DelI.skip {d : Pr → Bool} {xs ys : List Pr} {k j : Nat} (h : DelI d xs k j ys) (hj : j < xs.length) (hd : d (xs.getD j (0, 0)) = true) : DelI d xs k (j + 1) ys :=
  ⟨by have := h.kj; omega, by omega, h.len, by rw [take_succ' hj, List.filter_append, h.take, filt1, hd]; simp, drop_succ' h.drop⟩
theorem DelI.keep {d : Pr → Bool} {xs ys : List Pr} {k j : Nat} (h : DelI d xs k j ys) (hj : j < xs.length) (hd : d (xs.getD j (0, 0)) = false) : DelI d xs (k + 1) (j + 1) (ys.set k (xs.getD j (0, 0))) := by
  have hk := h.kj
  have hl := h.len
  refine ⟨by omega, by omega, by rw [List.length_set]; exact hl, ?_, ?_⟩
  · rw [take_succ' hj, List.filter_append, ← h.take]
    have : (ys.set k (xs.getD j (0, 0))).take (k + 1) = ys.take k ++ [xs.getD j (0, 0)] := by
      rw [List.take_add_one, List.getElem?_set, if_pos rfl, if_pos (by omega), List.take_set_of_le (Nat.le_refl _)]
      rfl
    rw [this, filt1, hd]
    rfl
  · rw [List.drop_set_of_lt (by omega)]
    exact drop_succ' h.drop
theorem DelI.done {d : Pr → Bool} {xs ys : List Pr} {k : Nat} (h : DelI d xs k xs.length ys) : ys.take k = xs.filter fun y => !d y := by
  rw [h.take, List.take_length]
theorem DelI.first {d : Pr → Bool} {xs : List Pr} {i : Nat} (h : findI d xs = i) : i < xs.length ∧ DelI d xs i (i + 1) xs := by
  have key : ∀ (xs : List Pr) (i : Nat), findI d xs = i → i < xs.length ∧ d (xs.getD i (0, 0)) = true ∧ (xs.take i).filter (fun y => !d y) = xs.take i := by
    intro xs
    induction xs with
    | nil => intro i h; simp [findI] at h
    | cons x xs ih =>
      intro i h
      simp only [findI] at h
      have hge := findI_ge d xs
      split at h
      · rename_i hx
        obtain rfl : i = 0 := by omega
        exact ⟨by simp, by simpa using hx, rfl⟩
      · rename_i hx
        split at h
        · omega
        · obtain ⟨m, rfl⟩ : ∃ m, i = m + 1 := ⟨i - 1, by omega⟩
          obtain ⟨h1, h2, h3⟩ := ih m (by omega)
          refine ⟨by simp; omega, by simpa using h2, ?_⟩
          rw [List.take_succ_cons, List.filter_cons, h3]
          simp [hx]
  obtain ⟨h1, h2, h3⟩ := key xs i h
  refine ⟨h1, by omega, by omega, rfl, ?_, rfl⟩
  rw [take_succ' h1, List.filter_append, h3, filt1, h2]
  simp
theorem findI_none {d : Pr → Bool} {xs : List Pr} (h : findI d xs = -1) : (xs.filter fun y => !d y) = xs := by
  rw [List.filter_eq_self]
  intro y hy
  cases hd : d y with
  | false => rfl
  | true =>
    have := (findI_any d xs).2 (List.any_eq_true.2 ⟨y, hy, hd⟩)
    omega

theorem del_spec : FnSpec Try.prog 49 delCon := by
  refine FnSpec.of_tri' (E := know [(53, indexPCon)] [] [] []) (know_ok (all_cons indexP_spec all_nil) all_nil all_nil) Try.func49 rfl rfl (by kernel_rfl) ?_
  intro C x hE hnl hfit hpre
  simp only [Try.ntmps49, Try.results49, maxLen, Nat.reduceSub, Nat.reducePow, Nat.reduceAdd, Int.cast_ofNat_Int, push_cast] at hnl hfit hpre ⊢
  obtain ⟨(rc : RC), ⟨(q : Pr × Unit → Prop), (d : Pr × Unit → Bool)⟩, _⟩ := x
  dsimp only at hfit hpre ⊢
  obtain ⟨⟨h1, h2⟩, h3⟩ := hpre
  generalize flatP rc = xs at *
  subst h1
  have hge := findI_ge (fun y => d (y, ())) xs
  rcases (by omega : findI (fun y => d (y, ())) xs < 0 ∨ 0 ≤ findI (fun y => d (y, ())) xs) with hf | hf
  · have hf1 : findI (fun y => d (y, ())) xs = -1 := by omega
    have hn := findI_none hf1
    replace hnl := And.intro hnl (And.intro hf1 hn)
    repeat' (first|(refine goK (by assumption) ?_; iterate 4 (try clear hK K))|(refine tri_seqk fun K hK => ?_)|((first|refine tri_region hE rfl ?_|refine tri_ret ?_|((first|refine tri_drawP hE 1 rfl rfl (by kernel_rfl) ?_|refine tri_drawP hE 2 rfl rfl (by kernel_rfl) ?_|refine tri_drawP hE 3 rfl rfl (by kernel_rfl) ?_|refine tri_drawP hE 4 rfl rfl (by kernel_rfl) ?_); simp only [List.length_cons, List.length_nil, Nat.reduceAdd, Nat.reduceSub, List.take_succ_cons, List.take_zero, List.drop_succ_cons, List.drop_zero])); simp +contextual only [hnl, ↓kN, ↓kP, ↓kG, ↓qN, ↓qP, ↓qG, push_cast, Int.reduceEq, Int.reduceLT, Int.reduceLE, Int.reduceNeg, Nat.reduceLT, Nat.reduceLeDiff, Int.reduceToNat, Int.cast_ofNat_Int, Nat.reduceBEq, Nat.reduceMul, Nat.reduceEqDiff, reduceCtorEq, Nat.reduceAdd])|refine tri_block ?_|((first|refine tri_skip ?_|refine tri_exit ?_); simp only [thenQ, blockQ, if_true, if_false, Nat.reduceEqDiff, reduceCtorEq])|(refine tri_cond (by rfl) (fun hb => ?_) (fun hb => ?_) <;> (try simp only [decide_eq_true_eq, decide_eq_false_iff_not, Bool.not_eq_true', Bool.not_eq_false', reduceCtorEq, Bool.true_eq_false, Bool.false_eq_true] at hb) <;> (try omega))|refine tri_unk (by rfl) ?_ ?_|refine And.intro (by first|omega|(unfold InR; omega)|assumption|decide|exact ⟨_, _, rfl⟩) ?_|(refine ⟨fun hc => ?_, fun hc => ?_⟩)|(intro hc; try omega))
    all_goals skip
  · obtain ⟨i, hi⟩ : ∃ i : Nat, findI (fun y => d (y, ())) xs = i := ⟨_, (Int.toNat_of_nonneg hf).symm⟩
    obtain ⟨hin, hI0⟩ := DelI.first hi
    have hi1 : ((i : Int) = -1) = False := eq_false (by omega)
    replace hnl := And.intro hnl (And.intro hi hi1)
    repeat' (first|(refine goK (by assumption) ?_; iterate 4 (try clear hK K))|(refine tri_seqk fun K hK => ?_)|((first|refine tri_region hE rfl ?_|refine tri_ret ?_|((first|refine tri_drawP hE 1 rfl rfl (by kernel_rfl) ?_|refine tri_drawP hE 2 rfl rfl (by kernel_rfl) ?_|refine tri_drawP hE 3 rfl rfl (by kernel_rfl) ?_|refine tri_drawP hE 4 rfl rfl (by kernel_rfl) ?_); simp only [List.length_cons, List.length_nil, Nat.reduceAdd, Nat.reduceSub, List.take_succ_cons, List.take_zero, List.drop_succ_cons, List.drop_zero])); simp +contextual only [hnl, ↓kN, ↓kP, ↓kG, ↓qN, ↓qP, ↓qG, push_cast, Int.reduceEq, Int.reduceLT, Int.reduceLE, Int.reduceNeg, Nat.reduceLT, Nat.reduceLeDiff, Int.reduceToNat, Int.cast_ofNat_Int, Nat.reduceBEq, Nat.reduceMul, Nat.reduceEqDiff, reduceCtorEq, Nat.reduceAdd])|refine tri_block ?_|((first|refine tri_skip ?_|refine tri_exit ?_); simp only [thenQ, blockQ, if_true, if_false, Nat.reduceEqDiff, reduceCtorEq])|(refine tri_cond (by rfl) (fun hb => ?_) (fun hb => ?_) <;> (try simp only [decide_eq_true_eq, decide_eq_false_iff_not, Bool.not_eq_true', Bool.not_eq_false', reduceCtorEq, Bool.true_eq_false, Bool.false_eq_true] at hb) <;> (try omega))|refine tri_unk (by rfl) ?_ ?_|refine And.intro (by first|omega|(unfold InR; omega)|assumption|decide|exact ⟨_, _, rfl⟩) ?_|(refine ⟨fun hc => ?_, fun hc => ?_⟩)|(intro hc; try omega))
    refine tri_loopI (fun x : Nat × Nat × List Pr => AS.of [(0, .one (.ref 0)), (1, .one (.fnv [.prod .int .int] .bool q d)), (5, .I x.1), (6, .I x.2.1)] [(0, .flat 32 (.prod .int .int) x.2.2)] []) (fun x => DelI (fun y => d (y, ())) xs x.1 x.2.1 x.2.2) (fun x => xs.length - x.2.1) (i, i + 1, xs) hI0 ?_ ?_
    · refine weak_of ?_ ?_ ?_ <;> simp only [push_cast, Int.reduceEq, Int.reduceLT, Int.reduceLE, Int.reduceNeg, Nat.reduceLT, Nat.reduceLeDiff, Int.reduceToNat, Int.cast_ofNat_Int, Nat.reduceBEq, Nat.reduceMul, Nat.reduceEqDiff, reduceCtorEq, Nat.reduceAdd]
    rintro ⟨k, j, ys⟩ hI K' hL
    dsimp only at hI hL ⊢
    have g1 := hI.kj
    have g2 := hI.jn
    have g3 := hI.len
    rcases Nat.lt_or_ge j xs.length with hj | hj
    · have g4 := hI.at hj
      cases hd : d (xs.getD j (0, 0), ()) with
      | true =>
        have gs := hI.skip hj hd
        replace hnl := And.intro hnl (And.intro g3 (And.intro g4 hd))
        repeat' (first|(refine goK (by assumption) ?_; iterate 4 (try clear hK K))|(refine tri_seqk fun K hK => ?_)|((first|refine tri_region hE rfl ?_|refine tri_ret ?_|((first|refine tri_drawP hE 1 rfl rfl (by kernel_rfl) ?_|refine tri_drawP hE 2 rfl rfl (by kernel_rfl) ?_|refine tri_drawP hE 3 rfl rfl (by kernel_rfl) ?_|refine tri_drawP hE 4 rfl rfl (by kernel_rfl) ?_); simp only [List.length_cons, List.length_nil, Nat.reduceAdd, Nat.reduceSub, List.take_succ_cons, List.take_zero, List.drop_succ_cons, List.drop_zero])); simp +contextual only [hnl, ↓kN, ↓kP, ↓kG, ↓qN, ↓qP, ↓qG, push_cast, Int.reduceEq, Int.reduceLT, Int.reduceLE, Int.reduceNeg, Nat.reduceLT, Nat.reduceLeDiff, Int.reduceToNat, Int.cast_ofNat_Int, Nat.reduceBEq, Nat.reduceMul, Nat.reduceEqDiff, reduceCtorEq, Nat.reduceAdd])|refine tri_block ?_|((first|refine tri_skip ?_|refine tri_exit ?_); simp only [thenQ, blockQ, if_true, if_false, Nat.reduceEqDiff, reduceCtorEq])|(refine tri_cond (by rfl) (fun hb => ?_) (fun hb => ?_) <;> (try simp only [decide_eq_true_eq, decide_eq_false_iff_not, Bool.not_eq_true', Bool.not_eq_false', reduceCtorEq, Bool.true_eq_false, Bool.false_eq_true] at hb) <;> (try omega))|refine tri_unk (by rfl) ?_ ?_|refine And.intro (by first|omega|(unfold InR; omega)|assumption|decide|exact ⟨_, _, rfl⟩) ?_|(refine ⟨fun hc => ?_, fun hc => ?_⟩)|(intro hc; try omega))
        all_goals refine ⟨h3 _ (getD_mem (0, 0) hj), ?_⟩
        repeat' (first|(refine goK (by assumption) ?_; iterate 4 (try clear hK K))|(refine tri_seqk fun K hK => ?_)|((first|refine tri_region hE rfl ?_|refine tri_ret ?_|((first|refine tri_drawP hE 1 rfl rfl (by kernel_rfl) ?_|refine tri_drawP hE 2 rfl rfl (by kernel_rfl) ?_|refine tri_drawP hE 3 rfl rfl (by kernel_rfl) ?_|refine tri_drawP hE 4 rfl rfl (by kernel_rfl) ?_); simp only [List.length_cons, List.length_nil, Nat.reduceAdd, Nat.reduceSub, List.take_succ_cons, List.take_zero, List.drop_succ_cons, List.drop_zero])); simp +contextual only [hnl, ↓kN, ↓kP, ↓kG, ↓qN, ↓qP, ↓qG, push_cast, Int.reduceEq, Int.reduceLT, Int.reduceLE, Int.reduceNeg, Nat.reduceLT, Nat.reduceLeDiff, Int.reduceToNat, Int.cast_ofNat_Int, Nat.reduceBEq, Nat.reduceMul, Nat.reduceEqDiff, reduceCtorEq, Nat.reduceAdd])|refine tri_block ?_|((first|refine tri_skip ?_|refine tri_exit ?_); simp only [thenQ, blockQ, if_true, if_false, Nat.reduceEqDiff, reduceCtorEq])|(refine tri_cond (by rfl) (fun hb => ?_) (fun hb => ?_) <;> (try simp only [decide_eq_true_eq, decide_eq_false_iff_not, Bool.not_eq_true', Bool.not_eq_false', reduceCtorEq, Bool.true_eq_false, Bool.false_eq_true] at hb) <;> (try omega))|refine tri_unk (by rfl) ?_ ?_|refine And.intro (by first|omega|(unfold InR; omega)|assumption|decide|exact ⟨_, _, rfl⟩) ?_|(refine ⟨fun hc => ?_, fun hc => ?_⟩)|(intro hc; try omega))
        all_goals refine hL _ (k, j + 1, ys) gs (by dsimp only; omega) ?_
        all_goals refine weak_of ?_ ?_ ?_ <;> simp only [push_cast, Int.reduceEq, Int.reduceLT, Int.reduceLE, Int.reduceNeg, Nat.reduceLT, Nat.reduceLeDiff, Int.reduceToNat, Int.cast_ofNat_Int, Nat.reduceBEq, Nat.reduceMul, Nat.reduceEqDiff, reduceCtorEq, Nat.reduceAdd]
        all_goals skip
      | false =>
        have gs := hI.keep hj hd
        replace hnl := And.intro hnl (And.intro g3 (And.intro g4 hd))
        repeat' (first|(refine goK (by assumption) ?_; iterate 4 (try clear hK K))|(refine tri_seqk fun K hK => ?_)|((first|refine tri_region hE rfl ?_|refine tri_ret ?_|((first|refine tri_drawP hE 1 rfl rfl (by kernel_rfl) ?_|refine tri_drawP hE 2 rfl rfl (by kernel_rfl) ?_|refine tri_drawP hE 3 rfl rfl (by kernel_rfl) ?_|refine tri_drawP hE 4 rfl rfl (by kernel_rfl) ?_); simp only [List.length_cons, List.length_nil, Nat.reduceAdd, Nat.reduceSub, List.take_succ_cons, List.take_zero, List.drop_succ_cons, List.drop_zero])); simp +contextual only [hnl, ↓kN, ↓kP, ↓kG, ↓qN, ↓qP, ↓qG, push_cast, Int.reduceEq, Int.reduceLT, Int.reduceLE, Int.reduceNeg, Nat.reduceLT, Nat.reduceLeDiff, Int.reduceToNat, Int.cast_ofNat_Int, Nat.reduceBEq, Nat.reduceMul, Nat.reduceEqDiff, reduceCtorEq, Nat.reduceAdd])|refine tri_block ?_|((first|refine tri_skip ?_|refine tri_exit ?_); simp only [thenQ, blockQ, if_true, if_false, Nat.reduceEqDiff, reduceCtorEq])|(refine tri_cond (by rfl) (fun hb => ?_) (fun hb => ?_) <;> (try simp only [decide_eq_true_eq, decide_eq_false_iff_not, Bool.not_eq_true', Bool.not_eq_false', reduceCtorEq, Bool.true_eq_false, Bool.false_eq_true] at hb) <;> (try omega))|refine tri_unk (by rfl) ?_ ?_|refine And.intro (by first|omega|(unfold InR; omega)|assumption|decide|exact ⟨_, _, rfl⟩) ?_|(refine ⟨fun hc => ?_, fun hc => ?_⟩)|(intro hc; try omega))
        all_goals refine ⟨h3 _ (getD_mem (0, 0) hj), ?_⟩
        repeat' (first|(refine goK (by assumption) ?_; iterate 4 (try clear hK K))|(refine tri_seqk fun K hK => ?_)|((first|refine tri_region hE rfl ?_|refine tri_ret ?_|((first|refine tri_drawP hE 1 rfl rfl (by kernel_rfl) ?_|refine tri_drawP hE 2 rfl rfl (by kernel_rfl) ?_|refine tri_drawP hE 3 rfl rfl (by kernel_rfl) ?_|refine tri_drawP hE 4 rfl rfl (by kernel_rfl) ?_); simp only [List.length_cons, List.length_nil, Nat.reduceAdd, Nat.reduceSub, List.take_succ_cons, List.take_zero, List.drop_succ_cons, List.drop_zero])); simp +contextual only [hnl, ↓kN, ↓kP, ↓kG, ↓qN, ↓qP, ↓qG, push_cast, Int.reduceEq, Int.reduceLT, Int.reduceLE, Int.reduceNeg, Nat.reduceLT, Nat.reduceLeDiff, Int.reduceToNat, Int.cast_ofNat_Int, Nat.reduceBEq, Nat.reduceMul, Nat.reduceEqDiff, reduceCtorEq, Nat.reduceAdd])|refine tri_block ?_|((first|refine tri_skip ?_|refine tri_exit ?_); simp only [thenQ, blockQ, if_true, if_false, Nat.reduceEqDiff, reduceCtorEq])|(refine tri_cond (by rfl) (fun hb => ?_) (fun hb => ?_) <;> (try simp only [decide_eq_true_eq, decide_eq_false_iff_not, Bool.not_eq_true', Bool.not_eq_false', reduceCtorEq, Bool.true_eq_false, Bool.false_eq_true] at hb) <;> (try omega))|refine tri_unk (by rfl) ?_ ?_|refine And.intro (by first|omega|(unfold InR; omega)|assumption|decide|exact ⟨_, _, rfl⟩) ?_|(refine ⟨fun hc => ?_, fun hc => ?_⟩)|(intro hc; try omega))
        all_goals refine hL _ (k + 1, j + 1, ys.set k (xs.getD j (0, 0))) gs (by dsimp only; omega) ?_
        all_goals refine weak_of ?_ ?_ ?_ <;> simp only [push_cast, Int.reduceEq, Int.reduceLT, Int.reduceLE, Int.reduceNeg, Nat.reduceLT, Nat.reduceLeDiff, Int.reduceToNat, Int.cast_ofNat_Int, Nat.reduceBEq, Nat.reduceMul, Nat.reduceEqDiff, reduceCtorEq, Nat.reduceAdd]
        all_goals skip
    · obtain rfl : j = xs.length := by omega
      clear hL
      have gd := hI.done
      have gl : ((xs.filter fun y => !d (y, ())) ++ List.replicate (xs.length - k) ((0, 0) : Pr)).length = xs.length := by
        rw [← gd, List.length_append, List.length_take, List.length_replicate]; omega
      have gk : (xs.filter fun y => !d (y, ())).length = k := by
        rw [← gd, List.length_take]; omega
      have gt' : ((xs.filter fun y => !d (y, ())) ++ List.replicate (xs.length - k) ((0, 0) : Pr)).take k = xs.filter fun y => !d (y, ()) := by
        rw [List.take_left' gk]
      replace hnl := And.intro hnl (And.intro g3 (And.intro gd (And.intro gl gt')))
      repeat' (first | (refine tri_clear hE (sh := .prod .int .int) 2 (by kernel_rfl) rfl rfl ?_; simp only [List.length_cons, List.length_nil, Nat.reduceAdd, Nat.reduceSub, List.take_succ_cons, List.take_zero, List.drop_succ_cons, List.drop_zero]; simp +contextual only [hnl, ↓kN, ↓kP, ↓kG, ↓qN, ↓qP, ↓qG, clearS, push_cast, Int.reduceEq, Int.reduceLT, Int.reduceLE, Int.reduceNeg, Nat.reduceLT, Nat.reduceLeDiff, Int.reduceToNat, Int.cast_ofNat_Int, Nat.reduceBEq, Nat.reduceMul, Nat.reduceEqDiff, reduceCtorEq, Nat.reduceAdd]) | (first|(refine goK (by assumption) ?_; iterate 4 (try clear hK K))|(refine tri_seqk fun K hK => ?_)|((first|refine tri_region hE rfl ?_|refine tri_ret ?_|((first|refine tri_drawP hE 1 rfl rfl (by kernel_rfl) ?_|refine tri_drawP hE 2 rfl rfl (by kernel_rfl) ?_|refine tri_drawP hE 3 rfl rfl (by kernel_rfl) ?_|refine tri_drawP hE 4 rfl rfl (by kernel_rfl) ?_); simp only [List.length_cons, List.length_nil, Nat.reduceAdd, Nat.reduceSub, List.take_succ_cons, List.take_zero, List.drop_succ_cons, List.drop_zero])); simp +contextual only [hnl, ↓kN, ↓kP, ↓kG, ↓qN, ↓qP, ↓qG, push_cast, Int.reduceEq, Int.reduceLT, Int.reduceLE, Int.reduceNeg, Nat.reduceLT, Nat.reduceLeDiff, Int.reduceToNat, Int.cast_ofNat_Int, Nat.reduceBEq, Nat.reduceMul, Nat.reduceEqDiff, reduceCtorEq, Nat.reduceAdd])|refine tri_block ?_|((first|refine tri_skip ?_|refine tri_exit ?_); simp only [thenQ, blockQ, if_true, if_false, Nat.reduceEqDiff, reduceCtorEq])|(refine tri_cond (by rfl) (fun hb => ?_) (fun hb => ?_) <;> (try simp only [decide_eq_true_eq, decide_eq_false_iff_not, Bool.not_eq_true', Bool.not_eq_false', reduceCtorEq, Bool.true_eq_false, Bool.false_eq_true] at hb) <;> (try omega))|refine tri_unk (by rfl) ?_ ?_|refine And.intro (by first|omega|(unfold InR; omega)|assumption|decide|exact ⟨_, _, rfl⟩) ?_|(refine ⟨fun hc => ?_, fun hc => ?_⟩)|(intro hc; try omega)))
      all_goals refine ⟨⟨Int.natCast_nonneg k, Int.ofNat_le.2 (by omega)⟩, ?_⟩
      repeat' (first | (refine tri_weak (t := AS.of [(4, .one (.val (.sl (.prod .int .int)) (xs.filter fun y => !d (y, ()))))] [] []) ?_ (StopW.h ?_); · (refine weak_of ?_ ?_ ?_ <;> simp only [push_cast, Int.reduceEq, Int.reduceLT, Int.reduceLE, Int.reduceNeg, Nat.reduceLT, Nat.reduceLeDiff, Int.reduceToNat, Int.cast_ofNat_Int, Nat.reduceBEq, Nat.reduceMul, Nat.reduceEqDiff, reduceCtorEq, Nat.reduceAdd]; exact ⟨by rw [gl]; omega, gt'.symm⟩)) | (first|(refine goK (by assumption) ?_; iterate 4 (try clear hK K))|(refine tri_seqk fun K hK => ?_)|((first|refine tri_region hE rfl ?_|refine tri_ret ?_|((first|refine tri_drawP hE 1 rfl rfl (by kernel_rfl) ?_|refine tri_drawP hE 2 rfl rfl (by kernel_rfl) ?_|refine tri_drawP hE 3 rfl rfl (by kernel_rfl) ?_|refine tri_drawP hE 4 rfl rfl (by kernel_rfl) ?_); simp only [List.length_cons, List.length_nil, Nat.reduceAdd, Nat.reduceSub, List.take_succ_cons, List.take_zero, List.drop_succ_cons, List.drop_zero])); simp +contextual only [hnl, ↓kN, ↓kP, ↓kG, ↓qN, ↓qP, ↓qG, push_cast, Int.reduceEq, Int.reduceLT, Int.reduceLE, Int.reduceNeg, Nat.reduceLT, Nat.reduceLeDiff, Int.reduceToNat, Int.cast_ofNat_Int, Nat.reduceBEq, Nat.reduceMul, Nat.reduceEqDiff, reduceCtorEq, Nat.reduceAdd])|refine tri_block ?_|((first|refine tri_skip ?_|refine tri_exit ?_); simp only [thenQ, blockQ, if_true, if_false, Nat.reduceEqDiff, reduceCtorEq])|(refine tri_cond (by rfl) (fun hb => ?_) (fun hb => ?_) <;> (try simp only [decide_eq_true_eq, decide_eq_false_iff_not, Bool.not_eq_true', Bool.not_eq_false', reduceCtorEq, Bool.true_eq_false, Bool.false_eq_true] at hb) <;> (try omega))|refine tri_unk (by rfl) ?_ ?_|refine And.intro (by first|omega|(unfold InR; omega)|assumption|decide|exact ⟨_, _, rfl⟩) ?_|(refine ⟨fun hc => ?_, fun hc => ?_⟩)|(intro hc; try omega)))
      all_goals refine ⟨?_⟩
      repeat' (first|(refine goK (by assumption) ?_; iterate 4 (try clear hK K))|(refine tri_seqk fun K hK => ?_)|((first|refine tri_region hE rfl ?_|refine tri_ret ?_|((first|refine tri_drawP hE 1 rfl rfl (by kernel_rfl) ?_|refine tri_drawP hE 2 rfl rfl (by kernel_rfl) ?_|refine tri_drawP hE 3 rfl rfl (by kernel_rfl) ?_|refine tri_drawP hE 4 rfl rfl (by kernel_rfl) ?_); simp only [List.length_cons, List.length_nil, Nat.reduceAdd, Nat.reduceSub, List.take_succ_cons, List.take_zero, List.drop_succ_cons, List.drop_zero])); simp +contextual only [hnl, ↓kN, ↓kP, ↓kG, ↓qN, ↓qP, ↓qG, push_cast, Int.reduceEq, Int.reduceLT, Int.reduceLE, Int.reduceNeg, Nat.reduceLT, Nat.reduceLeDiff, Int.reduceToNat, Int.cast_ofNat_Int, Nat.reduceBEq, Nat.reduceMul, Nat.reduceEqDiff, reduceCtorEq, Nat.reduceAdd])|refine tri_block ?_|((first|refine tri_skip ?_|refine tri_exit ?_); simp only [thenQ, blockQ, if_true, if_false, Nat.reduceEqDiff, reduceCtorEq])|(refine tri_cond (by rfl) (fun hb => ?_) (fun hb => ?_) <;> (try simp only [decide_eq_true_eq, decide_eq_false_iff_not, Bool.not_eq_true', Bool.not_eq_false', reduceCtorEq, Bool.true_eq_false, Bool.false_eq_true] at hb) <;> (try omega))|refine tri_unk (by rfl) ?_ ?_|refine And.intro (by first|omega|(unfold InR; omega)|assumption|decide|exact ⟨_, _, rfl⟩) ?_|(refine ⟨fun hc => ?_, fun hc => ?_⟩)|(intro hc; try omega))
      all_goals skip
end Go.Proofs.Ytloipnalmkdldaa
