/- Some plan between masses; distances in a plan lowered once. Conditions: in each contract. -/
import Derived.Test.YtogopoiohckpdadV4
import Derived.Test.YtogopoiohckpdadG2
import Derived.Test.YtogopoiohckpdadP5
namespace Go.Proofs.Ytogopoiohckpdad
open Go.RowKit Go.VS Go.OT Go.LC
set_option linter.unusedSimpArgs false
set_option linter.unusedVariables false

@[push_cast] def zerosCon : Con := ⟨[.dat .int, .dat .int], fun (x : Int × Int × Unit) => 0 ≤ x.1 ∧ x.1 ≤ 1000 ∧ 0 ≤ x.2.1 ∧ x.2.1 ≤ 1000, fun (x : Int × Int × Unit) => { res := [.own (.deep 22 3 .int (List.replicate x.1.toNat (List.replicate x.2.1.toNat 0)))] }⟩

theorem zeros_spec : FnSpec Try.prog 84 zerosCon := by
  refine FnSpec.of_tri' (E := know [] [] [] []) (know_ok all_nil all_nil all_nil) Try.func84 rfl rfl (by kernel_rfl) ?_
  intro C x hE hnl hfit hpre
  simp only [Try.ntmps84, Try.results84, maxLen, Nat.reduceSub, Nat.reducePow, Nat.reduceAdd, Int.cast_ofNat_Int, push_cast] at hnl hfit hpre ⊢
  obtain ⟨(r : Int), (c : Int), _⟩ := x
  dsimp only at hfit hpre ⊢
  repeat' (first|(refine goK (by assumption) ?_; iterate 4 (try clear hK K))|(refine tri_seqk fun K hK => ?_)|((first|refine tri_region hE rfl ?_|refine tri_ret ?_); simp +contextual only [hnl, ↓kN, ↓kP, ↓kG, ↓qN, ↓qP, ↓qG, push_cast, Int.reduceEq, Int.reduceLT, Int.reduceLE, Int.reduceNeg, Nat.reduceLT, Nat.reduceLeDiff, Int.reduceToNat, Int.cast_ofNat_Int, Nat.reduceBEq, Nat.reduceMul, Nat.reduceEqDiff, reduceCtorEq, Nat.reduceAdd])|refine tri_block ?_|((first|refine tri_skip ?_|refine tri_exit ?_); simp only [thenQ, blockQ, if_true, if_false, Nat.reduceEqDiff, reduceCtorEq])|(refine tri_cond (by rfl) (fun hb => ?_) (fun hb => ?_) <;> (try simp only [decide_eq_true_eq, decide_eq_false_iff_not, Bool.not_eq_true', Bool.not_eq_false', reduceCtorEq, Bool.true_eq_false, Bool.false_eq_true] at hb) <;> (try omega))|refine tri_unk (by rfl) ?_ ?_|refine And.intro (by first|omega|(unfold InR; omega)|assumption|decide|exact ⟨_, _, rfl⟩) ?_|(refine ⟨fun hc => ?_, fun hc => ?_⟩)|(intro hc; try omega))
  refine tri_loopI (fun k : Nat => AS.of [(0, .I r), (1, .I c), (5, .one (.ref 16)), (6, .I k)] [(16, .deep 22 3 .int (List.replicate k (List.replicate c.toNat 0)))] []) (fun k => k ≤ r.toNat) (fun k => r.toNat - k) 0 (Nat.zero_le _) ?_ ?_
  · refine weak_of ?_ ?_ ?_ <;> simp only [push_cast, Int.reduceEq, Int.reduceLT, Int.reduceLE, Int.reduceNeg, Nat.reduceLT, Nat.reduceLeDiff, Int.reduceToNat, Int.cast_ofNat_Int, Nat.reduceBEq, Nat.reduceMul, Nat.reduceEqDiff, reduceCtorEq, Nat.reduceAdd]
    first | exact ⟨by omega, rfl⟩ | skip
  intro k hk K' hL
  have hlen : (List.replicate k (List.replicate c.toNat (0 : Int))).length = k := List.length_replicate
  replace hnl := And.intro hnl hlen
  repeat' (first|(refine goK (by assumption) ?_; iterate 4 (try clear hK K))|(refine tri_seqk fun K hK => ?_)|((first|refine tri_region hE rfl ?_|refine tri_ret ?_); simp +contextual only [hnl, ↓kN, ↓kP, ↓kG, ↓qN, ↓qP, ↓qG, push_cast, Int.reduceEq, Int.reduceLT, Int.reduceLE, Int.reduceNeg, Nat.reduceLT, Nat.reduceLeDiff, Int.reduceToNat, Int.cast_ofNat_Int, Nat.reduceBEq, Nat.reduceMul, Nat.reduceEqDiff, reduceCtorEq, Nat.reduceAdd])|refine tri_block ?_|((first|refine tri_skip ?_|refine tri_exit ?_); simp only [thenQ, blockQ, if_true, if_false, Nat.reduceEqDiff, reduceCtorEq])|(refine tri_cond (by rfl) (fun hb => ?_) (fun hb => ?_) <;> (try simp only [decide_eq_true_eq, decide_eq_false_iff_not, Bool.not_eq_true', Bool.not_eq_false', reduceCtorEq, Bool.true_eq_false, Bool.false_eq_true] at hb) <;> (try omega))|refine tri_unk (by rfl) ?_ ?_|refine And.intro (by first|omega|(unfold InR; omega)|assumption|decide|exact ⟨_, _, rfl⟩) ?_|(refine ⟨fun hc => ?_, fun hc => ?_⟩)|(intro hc; try omega))
  · refine hL _ (k + 1) (by omega) (by omega) ?_
    refine weak_of ?_ ?_ ?_ <;> simp only [push_cast, Int.reduceEq, Int.reduceLT, Int.reduceLE, Int.reduceNeg, Nat.reduceLT, Nat.reduceLeDiff, Int.reduceToNat, Int.cast_ofNat_Int, Nat.reduceBEq, Nat.reduceMul, Nat.reduceEqDiff, reduceCtorEq, Nat.reduceAdd]
    left
    rw [List.replicate_succ']
  · obtain rfl : k = r.toNat := by omega
    rfl

structure CornPre (a b : List Int) : Prop where
  a6 : a.length ≤ 6
  b6 : b.length ≤ 6
  ha : Bnd 0 200 a
  hb : Bnd 0 200 b

@[push_cast] def cornCon : Con := ⟨[.dat (.sl .int), .dat (.sl .int)], fun (x : List Int × List Int × Unit) => CornPre x.1 x.2.1, fun (x : List Int × List Int × Unit) => { res := [.own (.deep 22 3 .int (cornV x.1 x.2.1))] }⟩

set_option maxHeartbeats 1000000 in
theorem corn_spec : FnSpec Try.prog 80 cornCon := by
  refine FnSpec.of_tri' (E := know [(84, zerosCon)] [] [] [16, 19]) (know_ok (all_cons zeros_spec all_nil) all_nil all_nil) Try.func80 rfl rfl (by kernel_rfl) ?_
  intro C x hE hnl hfit hpre
  simp only [Try.ntmps80, Try.results80, maxLen, Nat.reduceSub, Nat.reducePow, Nat.reduceAdd, Int.cast_ofNat_Int, push_cast] at hnl hfit hpre ⊢
  obtain ⟨(a : List Int), (b : List Int), _⟩ := x
  dsimp only at hfit hpre ⊢
  obtain ⟨ha6, hb6, ha, hb2⟩ := hpre
  repeat' (first|(refine goK (by assumption) ?_; iterate 4 (try clear hK K))|(refine tri_seqk fun K hK => ?_)|((first|refine tri_region hE rfl ?_|refine tri_ret ?_|((first|refine tri_drawP hE 1 rfl rfl (by kernel_rfl) ?_|refine tri_drawP hE 2 rfl rfl (by kernel_rfl) ?_|refine tri_drawP hE 3 rfl rfl (by kernel_rfl) ?_|refine tri_drawP hE 4 rfl rfl (by kernel_rfl) ?_); simp only [List.length_cons, List.length_nil, Nat.reduceAdd, Nat.reduceSub, List.take_succ_cons, List.take_zero, List.drop_succ_cons, List.drop_zero])); simp +contextual only [hnl, ↓kN, ↓kP, ↓kG, ↓qN, ↓qP, ↓qG, push_cast, Int.reduceEq, Int.reduceLT, Int.reduceLE, Int.reduceNeg, Nat.reduceLT, Nat.reduceLeDiff, Int.reduceToNat, Int.cast_ofNat_Int, Nat.reduceBEq, Nat.reduceMul, Nat.reduceEqDiff, reduceCtorEq, Nat.reduceAdd])|refine tri_block ?_|((first|refine tri_skip ?_|refine tri_exit ?_); simp only [thenQ, blockQ, if_true, if_false, Nat.reduceEqDiff, reduceCtorEq])|(refine tri_cond (by rfl) (fun hb => ?_) (fun hb => ?_) <;> (try simp only [decide_eq_true_eq, decide_eq_false_iff_not, Bool.not_eq_true', Bool.not_eq_false', reduceCtorEq, Bool.true_eq_false, Bool.false_eq_true] at hb) <;> (try omega))|refine tri_unk (by rfl) ?_ ?_|refine And.intro (by first|omega|(unfold InR; omega)|assumption|decide|exact ⟨_, _, rfl⟩) ?_|(refine ⟨fun hc => ?_, fun hc => ?_⟩)|(intro hc; try omega))
  refine tri_loopI (fun k : Nat => AS.of [(0, .one (.val (.sl .int) a)), (1, .one (.val (.sl .int) b)), (5, .one (.ref 15)), (6, .one (.ref 16)), (7, .one (.ref 19)), (8, .I k)] [(15, .deep 22 3 .int (cornK a b k).out), (16, .flat 3 .int (cornK a b k).fr), (19, .flat 3 .int (cornK a b k).to)] []) (fun k => k ≤ a.length) (fun k => a.length - k) 0 (Nat.zero_le _) ?_ ?_
  · refine weak_of ?_ ?_ ?_ <;> simp only [push_cast, Int.reduceEq, Int.reduceLT, Int.reduceLE, Int.reduceNeg, Nat.reduceLT, Nat.reduceLeDiff, Int.reduceToNat, Int.cast_ofNat_Int, Nat.reduceBEq, Nat.reduceMul, Nat.reduceEqDiff, reduceCtorEq, Nat.reduceAdd]
    first | exact ⟨.inl rfl, .inl rfl, .inl rfl⟩ | skip
  intro k hk K' hL
  have hI := cornK_ok ha hb2 k hk
  have hnx : cornK a b (k + 1) = upto (cornStep k) b.length (cornK a b k) := rfl
  repeat' (first|(refine goK (by assumption) ?_; iterate 4 (try clear hK K))|(refine tri_seqk fun K hK => ?_)|((first|refine tri_region hE rfl ?_|refine tri_ret ?_|((first|refine tri_drawP hE 1 rfl rfl (by kernel_rfl) ?_|refine tri_drawP hE 2 rfl rfl (by kernel_rfl) ?_|refine tri_drawP hE 3 rfl rfl (by kernel_rfl) ?_|refine tri_drawP hE 4 rfl rfl (by kernel_rfl) ?_); simp only [List.length_cons, List.length_nil, Nat.reduceAdd, Nat.reduceSub, List.take_succ_cons, List.take_zero, List.drop_succ_cons, List.drop_zero])); simp +contextual only [hnl, ↓kN, ↓kP, ↓kG, ↓qN, ↓qP, ↓qG, push_cast, Int.reduceEq, Int.reduceLT, Int.reduceLE, Int.reduceNeg, Nat.reduceLT, Nat.reduceLeDiff, Int.reduceToNat, Int.cast_ofNat_Int, Nat.reduceBEq, Nat.reduceMul, Nat.reduceEqDiff, reduceCtorEq, Nat.reduceAdd])|refine tri_block ?_|((first|refine tri_skip ?_|refine tri_exit ?_); simp only [thenQ, blockQ, if_true, if_false, Nat.reduceEqDiff, reduceCtorEq])|(refine tri_cond (by rfl) (fun hb => ?_) (fun hb => ?_) <;> (try simp only [decide_eq_true_eq, decide_eq_false_iff_not, Bool.not_eq_true', Bool.not_eq_false', reduceCtorEq, Bool.true_eq_false, Bool.false_eq_true] at hb) <;> (try omega))|refine tri_unk (by rfl) ?_ ?_|refine And.intro (by first|omega|(unfold InR; omega)|assumption|decide|exact ⟨_, _, rfl⟩) ?_|(refine ⟨fun hc => ?_, fun hc => ?_⟩)|(intro hc; try omega))
  · have hk' : k < a.length := by omega
    generalize cornK a b k = s0 at hI hnx ⊢
    refine tri_loopI (fun j : Nat => AS.of [(0, .one (.val (.sl .int) a)), (1, .one (.val (.sl .int) b)), (5, .one (.ref 15)), (6, .one (.ref 16)), (7, .one (.ref 19)), (8, .I k), (9, .I j)] [(15, .deep 22 3 .int (upto (cornStep k) j s0).out), (16, .flat 3 .int (upto (cornStep k) j s0).fr), (19, .flat 3 .int (upto (cornStep k) j s0).to)] []) (fun j => j ≤ b.length) (fun j => b.length - j) 0 (Nat.zero_le _) ?_ ?_
    · refine weak_of ?_ ?_ ?_ <;> simp only [push_cast, Int.reduceEq, Int.reduceLT, Int.reduceLE, Int.reduceNeg, Nat.reduceLT, Nat.reduceLeDiff, Int.reduceToNat, Int.cast_ofNat_Int, Nat.reduceBEq, Nat.reduceMul, Nat.reduceEqDiff, reduceCtorEq, Nat.reduceAdd]
      first | exact ⟨.inl rfl, .inl rfl, .inl rfl⟩ | skip
    intro j hj K2 hL2
    have hJ := CnI.row' hk' hI j hj
    have hjn : upto (cornStep k) (j + 1) s0 = cornStep k j (upto (cornStep k) j s0) := rfl
    generalize hse : upto (cornStep k) j s0 = s at hJ hjn ⊢
    have h1 := hJ.l1
    have h2 := hJ.l2
    have h3 := hJ.tab.rows
    have h4 := hJ.tab.cols k hk'
    have h5 := hJ.nn1 k hk'
    have h6 := hJ.nn2 j
    repeat' (first|(refine goK (by assumption) ?_; iterate 4 (try clear hK K))|(refine tri_seqk fun K hK => ?_)|((first|refine tri_region hE rfl ?_|refine tri_ret ?_|((first|refine tri_drawP hE 1 rfl rfl (by kernel_rfl) ?_|refine tri_drawP hE 2 rfl rfl (by kernel_rfl) ?_|refine tri_drawP hE 3 rfl rfl (by kernel_rfl) ?_|refine tri_drawP hE 4 rfl rfl (by kernel_rfl) ?_); simp only [List.length_cons, List.length_nil, Nat.reduceAdd, Nat.reduceSub, List.take_succ_cons, List.take_zero, List.drop_succ_cons, List.drop_zero])); simp +contextual only [hnl, ↓kN, ↓kP, ↓kG, ↓qN, ↓qP, ↓qG, push_cast, Int.reduceEq, Int.reduceLT, Int.reduceLE, Int.reduceNeg, Nat.reduceLT, Nat.reduceLeDiff, Int.reduceToNat, Int.cast_ofNat_Int, Nat.reduceBEq, Nat.reduceMul, Nat.reduceEqDiff, reduceCtorEq, Nat.reduceAdd])|refine tri_block ?_|((first|refine tri_skip ?_|refine tri_exit ?_); simp only [thenQ, blockQ, if_true, if_false, Nat.reduceEqDiff, reduceCtorEq])|(refine tri_cond (by rfl) (fun hb => ?_) (fun hb => ?_) <;> (try simp only [decide_eq_true_eq, decide_eq_false_iff_not, Bool.not_eq_true', Bool.not_eq_false', reduceCtorEq, Bool.true_eq_false, Bool.false_eq_true] at hb) <;> (try omega))|refine tri_unk (by rfl) ?_ ?_|refine And.intro (by first|omega|(unfold InR; omega)|assumption|decide|exact ⟨_, _, rfl⟩) ?_|(refine ⟨fun hc => ?_, fun hc => ?_⟩)|(intro hc; try omega))
    · refine hL2 _ (j + 1) (by omega) (by omega) ?_
      refine weak_of ?_ ?_ ?_ <;> simp only [push_cast, Int.reduceEq, Int.reduceLT, Int.reduceLE, Int.reduceNeg, Nat.reduceLT, Nat.reduceLeDiff, Int.reduceToNat, Int.cast_ofNat_Int, Nat.reduceBEq, Nat.reduceMul, Nat.reduceEqDiff, reduceCtorEq, Nat.reduceAdd]
      rw [hjn]
      exact ⟨.inl rfl, .inl rfl, .inl rfl⟩
    · obtain rfl : j = b.length := by omega
      rw [hse] at hnx
      refine hL _ (k + 1) (by omega) (by omega) ?_
      refine weak_of ?_ ?_ ?_ <;> simp only [push_cast, Int.reduceEq, Int.reduceLT, Int.reduceLE, Int.reduceNeg, Nat.reduceLT, Nat.reduceLeDiff, Int.reduceToNat, Int.cast_ofNat_Int, Nat.reduceBEq, Nat.reduceMul, Nat.reduceEqDiff, reduceCtorEq, Nat.reduceAdd]
      rw [hnx]
      exact ⟨.inl rfl, .inl rfl, .inl rfl⟩
  · obtain rfl : k = a.length := by omega
    rfl

/-! ### Distances lowered once -/
structure LwB (N : Nat) (m : Int) (s : LL) : Prop where
  l1 : s.far.length = N
  l2 : s.by'.length = N
  bnd : ∀ v, v < N → -1000000 * m ≤ s.far.getD v 0 ∧ s.far.getD v 0 ≤ 0
theorem LwB.mono {N : Nat} {m m' : Int} {s : LL} (h : LwB N m s) (hm : m ≤ m') : LwB N m' s := ⟨h.l1, h.l2, fun v hv => by have := h.bnd v hv; omega⟩
theorem LwB.set {N : Nat} {m : Int} {s : LL} (h : LwB N m s) {v : Nat} (hv : v < N) {x y z : Int} (hb : -1000000 * (m + 1) ≤ x ∧ x ≤ 0) : LwB N (m + 1) ⟨s.far.set v x, s.by'.set v y, z⟩ := by
  refine ⟨by simp [h.l1], by simp [h.l2], fun k hk => ?_⟩
  show _ ≤ (s.far.set v x).getD k 0 ∧ (s.far.set v x).getD k 0 ≤ 0
  rw [ga_set (by rw [h.l1]; exact hv)]
  have := h.bnd k hk
  split <;> omega
section
variable {R C : Nat} {m : Int} {s : LL}
theorem LwB.lwC (h : LwB (R + C) m s) {c : Int} {i j : Nat} (hi : i < R) (hj : j < C) (hc : 0 ≤ c ∧ c ≤ 1000000) : LwB (R + C) (m + 1) (lwC R c i j s) := by
  unfold Go.LC.lwC
  split
  · have b1 := h.bnd i (by omega)
    have b2 := h.bnd (R + j) (by omega)
    exact h.set (by omega) (by omega)
  · exact h.mono (by omega)
theorem LwB.lwR (h : LwB (R + C) m s) {c n : Int} {i j : Nat} (hi : i < R) (hj : j < C) (hc : 0 ≤ c ∧ c ≤ 1000000) : LwB (R + C) (m + 1) (lwR R c n i j s) := by
  unfold Go.LC.lwR
  split
  · have b1 := h.bnd i (by omega)
    have b2 := h.bnd (R + j) (by omega)
    exact h.set (by omega) (by omega)
  · exact h.mono (by omega)
variable {c p : List (List Int)}
theorem LwB.row (hc : Tb R C 0 1000000 c) (h : LwB (R + C) m s) {i : Nat} (hi : i < R) : ∀ j, j ≤ C → LwB (R + C) (m + 2 * j) (upto (lw2 c p i) j s)
  | 0, _ => h.mono (by omega)
  | j + 1, hj => by
    have h1 := LwB.row hc h hi j (by omega)
    have h2 := (h1.lwC (c := (c.getD i []).getD j 0) hi (by omega : j < C) (hc.at' i j hi (by omega))).lwR (c := (c.getD i []).getD j 0) (n := (p.getD i []).getD j 0) hi (by omega : j < C) (hc.at' i j hi (by omega))
    show LwB (R + C) (m + 2 * ((j + 1 : Nat) : Int)) (lw2 c p i j (upto (lw2 c p i) j s))
    have e : lw2 c p i j (upto (lw2 c p i) j s) = Go.LC.lwR c.length ((c.getD i []).getD j 0) ((p.getD i []).getD j 0) i j (Go.LC.lwC c.length ((c.getD i []).getD j 0) i j (upto (lw2 c p i) j s)) := rfl
    rw [e, hc.rows]
    have h3 := LwB.mono (m' := m + 2 * ((j + 1 : Nat) : Int)) h2 (by omega)
    exact h3
theorem LwB.tab (hc : Tb R C 0 1000000 c) (hC : C ≤ 6) (h : LwB (R + C) m s) : ∀ i, i ≤ R → LwB (R + C) (m + 12 * i) (upto (lwRow c p) i s)
  | 0, _ => h.mono (by omega)
  | i + 1, hi => by
    have h1 := LwB.row (p := p) hc (LwB.tab hc hC h i (by omega)) (i := i) (by omega) C (Nat.le_refl _)
    show LwB (R + C) (m + 12 * ((i + 1 : Nat) : Int)) (upto (lw2 c p i) (c.getD i []).length (upto (lwRow c p) i s))
    rw [hc.cols i (by omega)]
    exact h1.mono (by omega)
end


/-- Costs, a plan of that shape, and lists of distances and marks. -/
structure LowPre (c p : List (List Int)) (f g : RC) : Prop where
  hf : f = .flat 3 .int (flatI f)
  hg : g = .flat 3 .int (flatI g)
  R6 : 1 ≤ c.length ∧ c.length ≤ 6
  C6 : wid c ≤ 6
  hc : Tb c.length (wid c) 0 1000000 c
  hp : Tb c.length (wid c) 0 200 p
  bnd : LwB (c.length + wid c) 1000 ⟨flatI f, flatI g, -1⟩

abbrev LowArgs := List (List Int) × List (List Int) × RC × RC × Unit
@[push_cast] def lowCon : Con := ⟨[.dat (.sl (.sl .int)), .dat (.sl (.sl .int)), .lend, .lend], fun (x : LowArgs) => LowPre x.1 x.2.1 x.2.2.1 x.2.2.2.1,
  fun (x : LowArgs) => Out.mk [.val .int (lwAll x.1 x.2.1 ⟨flatI x.2.2.1, flatI x.2.2.2.1, -1⟩).last]
    [(0, .flat 3 .int (lwAll x.1 x.2.1 ⟨flatI x.2.2.1, flatI x.2.2.2.1, -1⟩).far), (1, .flat 3 .int (lwAll x.1 x.2.1 ⟨flatI x.2.2.1, flatI x.2.2.2.1, -1⟩).by')]⟩

section
variable {R : Nat} {c p : List (List Int)} {i j : Nat} {s : LL}
theorem lw2_nn (hr : c.length = R) (h1 : ¬ s.far.getD i 0 + (c.getD i []).getD j 0 < s.far.getD (R + j) 0) (h2 : ¬ (0 < (p.getD i []).getD j 0 ∧ s.far.getD (R + j) 0 - (c.getD i []).getD j 0 < s.far.getD i 0)) : lw2 c p i j s = s := by
  unfold lw2 Go.LC.lwC
  rw [hr, if_neg h1]
  unfold Go.LC.lwR
  rw [if_neg h2]
theorem lw2_yn (hr : c.length = R) (h1 : s.far.getD i 0 + (c.getD i []).getD j 0 < s.far.getD (R + j) 0) (hi : i < R) (hl : R + j < s.far.length) : lw2 c p i j s = ⟨s.far.set (R + j) (s.far.getD i 0 + (c.getD i []).getD j 0), s.by'.set (R + j) (i : Int), ((R + j : Nat) : Int)⟩ := by
  unfold lw2 Go.LC.lwC
  rw [hr, if_pos h1]
  unfold Go.LC.lwR
  dsimp only
  rw [ga_set hl, ga_set hl, if_pos rfl, if_neg (by omega : ¬ i = R + j), if_neg (by omega)]
theorem lw2_ny (hr : c.length = R) (h1 : ¬ s.far.getD i 0 + (c.getD i []).getD j 0 < s.far.getD (R + j) 0) (h2 : 0 < (p.getD i []).getD j 0) (h3 : s.far.getD (R + j) 0 - (c.getD i []).getD j 0 < s.far.getD i 0) : lw2 c p i j s = ⟨s.far.set i (s.far.getD (R + j) 0 - (c.getD i []).getD j 0), s.by'.set i ((R + j : Nat) : Int), (i : Int)⟩ := by
  unfold lw2 Go.LC.lwC
  rw [hr, if_neg h1]
  unfold Go.LC.lwR
  rw [if_pos ⟨h2, h3⟩]
end

set_option maxHeartbeats 2000000 in
theorem low_spec : FnSpec Try.prog 85 lowCon := by
  refine FnSpec.of_tri' (E := know [] [] [] []) (know_ok all_nil all_nil all_nil) Try.func85 rfl rfl (by kernel_rfl) ?_
  intro C x hE hnl hfit hpre
  simp only [Try.ntmps85, Try.results85, maxLen, Nat.reduceSub, Nat.reducePow, Nat.reduceAdd, Int.cast_ofNat_Int, push_cast] at hnl hfit hpre ⊢
  obtain ⟨(c : List (List Int)), (p : List (List Int)), (rc1 : RC), (rc2 : RC), _⟩ := x
  dsimp only at hfit hpre ⊢
  obtain ⟨h1, h2, h3, h4, h5, h6, h7⟩ := hpre
  generalize flatI rc1 = fa at *
  generalize flatI rc2 = by0 at *
  subst h1
  subst h2
  have hpr := h6.rows
  repeat' (first|(refine goK (by assumption) ?_; iterate 4 (try clear hK K))|(refine tri_seqk fun K hK => ?_)|((first|refine tri_region hE rfl ?_|refine tri_ret ?_|((first|refine tri_drawP hE 1 rfl rfl (by kernel_rfl) ?_|refine tri_drawP hE 2 rfl rfl (by kernel_rfl) ?_|refine tri_drawP hE 3 rfl rfl (by kernel_rfl) ?_|refine tri_drawP hE 4 rfl rfl (by kernel_rfl) ?_); simp only [List.length_cons, List.length_nil, Nat.reduceAdd, Nat.reduceSub, List.take_succ_cons, List.take_zero, List.drop_succ_cons, List.drop_zero])); simp +contextual only [hnl, ↓kN, ↓kP, ↓kG, ↓qN, ↓qP, ↓qG, push_cast, Int.reduceEq, Int.reduceLT, Int.reduceLE, Int.reduceNeg, Nat.reduceLT, Nat.reduceLeDiff, Int.reduceToNat, Int.cast_ofNat_Int, Nat.reduceBEq, Nat.reduceMul, Nat.reduceEqDiff, reduceCtorEq, Nat.reduceAdd])|refine tri_block ?_|((first|refine tri_skip ?_|refine tri_exit ?_); simp only [thenQ, blockQ, if_true, if_false, Nat.reduceEqDiff, reduceCtorEq])|(refine tri_cond (by rfl) (fun hb => ?_) (fun hb => ?_) <;> (try simp only [decide_eq_true_eq, decide_eq_false_iff_not, Bool.not_eq_true', Bool.not_eq_false', reduceCtorEq, Bool.true_eq_false, Bool.false_eq_true] at hb) <;> (try omega))|refine tri_unk (by rfl) ?_ ?_|refine And.intro (by first|omega|(unfold InR; omega)|assumption|decide|exact ⟨_, _, rfl⟩) ?_|(refine ⟨fun hc => ?_, fun hc => ?_⟩)|(intro hc; try omega))
  refine tri_loopI (fun i : Nat => AS.of [(0, .one (.val (.sl (.sl .int)) c)), (1, .one (.val (.sl (.sl .int)) p)), (2, .one (.ref 0)), (3, .one (.ref 1)), (9, .I (upto (lwRow c p) i ⟨fa, by0, -1⟩).last), (10, .I i)] [(0, .flat 3 .int (upto (lwRow c p) i ⟨fa, by0, -1⟩).far), (1, .flat 3 .int (upto (lwRow c p) i ⟨fa, by0, -1⟩).by')] []) (fun i => i ≤ c.length) (fun i => c.length - i) 0 (Nat.zero_le _) ?_ ?_
  · refine weak_of ?_ ?_ ?_ <;> simp only [push_cast, Int.reduceEq, Int.reduceLT, Int.reduceLE, Int.reduceNeg, Nat.reduceLT, Nat.reduceLeDiff, Int.reduceToNat, Int.cast_ofNat_Int, Nat.reduceBEq, Nat.reduceMul, Nat.reduceEqDiff, reduceCtorEq, Nat.reduceAdd]
    · rfl
    · exact ⟨.inl rfl, .inl rfl⟩
  intro i hi K' hL
  repeat' (first|(refine goK (by assumption) ?_; iterate 4 (try clear hK K))|(refine tri_seqk fun K hK => ?_)|((first|refine tri_region hE rfl ?_|refine tri_ret ?_|((first|refine tri_drawP hE 1 rfl rfl (by kernel_rfl) ?_|refine tri_drawP hE 2 rfl rfl (by kernel_rfl) ?_|refine tri_drawP hE 3 rfl rfl (by kernel_rfl) ?_|refine tri_drawP hE 4 rfl rfl (by kernel_rfl) ?_); simp only [List.length_cons, List.length_nil, Nat.reduceAdd, Nat.reduceSub, List.take_succ_cons, List.take_zero, List.drop_succ_cons, List.drop_zero])); simp +contextual only [hnl, ↓kN, ↓kP, ↓kG, ↓qN, ↓qP, ↓qG, push_cast, Int.reduceEq, Int.reduceLT, Int.reduceLE, Int.reduceNeg, Nat.reduceLT, Nat.reduceLeDiff, Int.reduceToNat, Int.cast_ofNat_Int, Nat.reduceBEq, Nat.reduceMul, Nat.reduceEqDiff, reduceCtorEq, Nat.reduceAdd])|refine tri_block ?_|((first|refine tri_skip ?_|refine tri_exit ?_); simp only [thenQ, blockQ, if_true, if_false, Nat.reduceEqDiff, reduceCtorEq])|(refine tri_cond (by rfl) (fun hb => ?_) (fun hb => ?_) <;> (try simp only [decide_eq_true_eq, decide_eq_false_iff_not, Bool.not_eq_true', Bool.not_eq_false', reduceCtorEq, Bool.true_eq_false, Bool.false_eq_true] at hb) <;> (try omega))|refine tri_unk (by rfl) ?_ ?_|refine And.intro (by first|omega|(unfold InR; omega)|assumption|decide|exact ⟨_, _, rfl⟩) ?_|(refine ⟨fun hc => ?_, fun hc => ?_⟩)|(intro hc; try omega))
  · have hi' : i < c.length := by omega
    have hci := h5.cols i hi'
    have hpi := h6.cols i hi'
    have hQ := LwB.tab (p := p) h5 h4 h7 i (by omega)
    have hQn : upto (lwRow c p) (i + 1) ⟨fa, by0, -1⟩ = upto (lw2 c p i) (c.getD i []).length (upto (lwRow c p) i ⟨fa, by0, -1⟩) := rfl
    generalize upto (lwRow c p) i ⟨fa, by0, -1⟩ = s1 at hQ hQn ⊢
    refine tri_loopI (fun j : Nat => AS.of [(0, .one (.val (.sl (.sl .int)) c)), (1, .one (.val (.sl (.sl .int)) p)), (2, .one (.ref 0)), (3, .one (.ref 1)), (9, .I (upto (lw2 c p i) j s1).last), (10, .I i), (11, .I j)] [(0, .flat 3 .int (upto (lw2 c p i) j s1).far), (1, .flat 3 .int (upto (lw2 c p i) j s1).by')] []) (fun j => j ≤ wid c) (fun j => wid c - j) 0 (Nat.zero_le _) ?_ ?_
    · refine weak_of ?_ ?_ ?_ <;> simp only [push_cast, Int.reduceEq, Int.reduceLT, Int.reduceLE, Int.reduceNeg, Nat.reduceLT, Nat.reduceLeDiff, Int.reduceToNat, Int.cast_ofNat_Int, Nat.reduceBEq, Nat.reduceMul, Nat.reduceEqDiff, reduceCtorEq, Nat.reduceAdd]
      · rfl
      · exact ⟨.inl rfl, .inl rfl⟩
    intro j hj K2 hL2
    have hF := LwB.row (p := p) h5 hQ hi' j hj
    have hFn : upto (lw2 c p i) (j + 1) s1 = lw2 c p i j (upto (lw2 c p i) j s1) := rfl
    generalize hs2 : upto (lw2 c p i) j s1 = s2 at hF hFn ⊢
    have g1 := hF.l1
    have g2 := hF.l2
    have g3 := hF.bnd i (by omega)
    rcases Nat.lt_or_ge j (wid c) with hjb | hjb
    · have g4 := hF.bnd (c.length + j) (by omega)
      have g5 := h5.at' i j hi' hjb
      have g6 : ((c.length : Int) + (j : Int)).toNat = c.length + j := by omega
      have g7 : ∀ x : Int, (s2.far.set (c.length + j) x).getD (c.length + j) 0 = x := fun x => by rw [ga_set (by omega), if_pos rfl]
      have g8 : ∀ x : Int, (s2.far.set (c.length + j) x).getD i 0 = s2.far.getD i 0 := fun x => by rw [ga_set (by omega), if_neg (by omega)]
      have g9 : ∀ x : Int, (s2.far.set (c.length + j) x).length = s2.far.length := fun x => List.length_set
      have g10 : ∀ x : Int, (s2.by'.set (c.length + j) x).length = s2.by'.length := fun x => List.length_set
      replace hnl := And.intro hnl (And.intro g6 (And.intro g7 (And.intro g8 (And.intro g9 g10))))
      repeat' (first|(refine goK (by assumption) ?_; iterate 4 (try clear hK K))|(refine tri_seqk fun K hK => ?_)|((first|refine tri_region hE rfl ?_|refine tri_ret ?_|((first|refine tri_drawP hE 1 rfl rfl (by kernel_rfl) ?_|refine tri_drawP hE 2 rfl rfl (by kernel_rfl) ?_|refine tri_drawP hE 3 rfl rfl (by kernel_rfl) ?_|refine tri_drawP hE 4 rfl rfl (by kernel_rfl) ?_); simp only [List.length_cons, List.length_nil, Nat.reduceAdd, Nat.reduceSub, List.take_succ_cons, List.take_zero, List.drop_succ_cons, List.drop_zero])); simp +contextual only [hnl, ↓kN, ↓kP, ↓kG, ↓qN, ↓qP, ↓qG, push_cast, Int.reduceEq, Int.reduceLT, Int.reduceLE, Int.reduceNeg, Nat.reduceLT, Nat.reduceLeDiff, Int.reduceToNat, Int.cast_ofNat_Int, Nat.reduceBEq, Nat.reduceMul, Nat.reduceEqDiff, reduceCtorEq, Nat.reduceAdd])|refine tri_block ?_|((first|refine tri_skip ?_|refine tri_exit ?_); simp only [thenQ, blockQ, if_true, if_false, Nat.reduceEqDiff, reduceCtorEq])|(refine tri_cond (by rfl) (fun hb => ?_) (fun hb => ?_) <;> (try simp only [decide_eq_true_eq, decide_eq_false_iff_not, Bool.not_eq_true', Bool.not_eq_false', reduceCtorEq, Bool.true_eq_false, Bool.false_eq_true] at hb) <;> (try omega))|refine tri_unk (by rfl) ?_ ?_|refine And.intro (by first|omega|(unfold InR; omega)|assumption|decide|exact ⟨_, _, rfl⟩) ?_|(refine ⟨fun hc => ?_, fun hc => ?_⟩)|(intro hc; try omega))
      all_goals refine hL2 _ (j + 1) (by omega) (by omega) ?_
      all_goals refine weak_of ?_ ?_ ?_ <;> simp only [push_cast, Int.reduceEq, Int.reduceLT, Int.reduceLE, Int.reduceNeg, Nat.reduceLT, Nat.reduceLeDiff, Int.reduceToNat, Int.cast_ofNat_Int, Nat.reduceBEq, Nat.reduceMul, Nat.reduceEqDiff, reduceCtorEq, Nat.reduceAdd]
      all_goals rw [hFn]
      all_goals first | rw [lw2_yn rfl (by omega) (by omega) (by omega)] | rw [lw2_ny rfl (by omega) (by omega) (by omega)] | rw [lw2_nn rfl (by omega) (by omega)]
      all_goals first | exact ⟨.inl rfl, .inl rfl⟩ | rfl | (dsimp only; omega)
    · repeat' (first|(refine goK (by assumption) ?_; iterate 4 (try clear hK K))|(refine tri_seqk fun K hK => ?_)|((first|refine tri_region hE rfl ?_|refine tri_ret ?_|((first|refine tri_drawP hE 1 rfl rfl (by kernel_rfl) ?_|refine tri_drawP hE 2 rfl rfl (by kernel_rfl) ?_|refine tri_drawP hE 3 rfl rfl (by kernel_rfl) ?_|refine tri_drawP hE 4 rfl rfl (by kernel_rfl) ?_); simp only [List.length_cons, List.length_nil, Nat.reduceAdd, Nat.reduceSub, List.take_succ_cons, List.take_zero, List.drop_succ_cons, List.drop_zero])); simp +contextual only [hnl, ↓kN, ↓kP, ↓kG, ↓qN, ↓qP, ↓qG, push_cast, Int.reduceEq, Int.reduceLT, Int.reduceLE, Int.reduceNeg, Nat.reduceLT, Nat.reduceLeDiff, Int.reduceToNat, Int.cast_ofNat_Int, Nat.reduceBEq, Nat.reduceMul, Nat.reduceEqDiff, reduceCtorEq, Nat.reduceAdd])|refine tri_block ?_|((first|refine tri_skip ?_|refine tri_exit ?_); simp only [thenQ, blockQ, if_true, if_false, Nat.reduceEqDiff, reduceCtorEq])|(refine tri_cond (by rfl) (fun hb => ?_) (fun hb => ?_) <;> (try simp only [decide_eq_true_eq, decide_eq_false_iff_not, Bool.not_eq_true', Bool.not_eq_false', reduceCtorEq, Bool.true_eq_false, Bool.false_eq_true] at hb) <;> (try omega))|refine tri_unk (by rfl) ?_ ?_|refine And.intro (by first|omega|(unfold InR; omega)|assumption|decide|exact ⟨_, _, rfl⟩) ?_|(refine ⟨fun hc => ?_, fun hc => ?_⟩)|(intro hc; try omega))
      obtain rfl : j = (c.getD i []).length := by omega
      rw [hs2] at hQn
      refine hL _ (i + 1) (by omega) (by omega) ?_
      refine weak_of ?_ ?_ ?_ <;> simp only [push_cast, Int.reduceEq, Int.reduceLT, Int.reduceLE, Int.reduceNeg, Nat.reduceLT, Nat.reduceLeDiff, Int.reduceToNat, Int.cast_ofNat_Int, Nat.reduceBEq, Nat.reduceMul, Nat.reduceEqDiff, reduceCtorEq, Nat.reduceAdd]
      · rw [hQn]
      · rw [hQn]
        exact ⟨.inl rfl, .inl rfl⟩
  · obtain rfl : i = c.length := by omega
    first | rfl | exact ⟨rfl, rfl, rfl⟩ | skip
end Go.Proofs.Ytogopoiohckpdad
