/- Fractions in lowest terms, and their sums. Conditions: in each contract. -/
import Derived.Test.YtloipnalmkdldaaFk
namespace Go.Proofs.Ytloipnalmkdldaa
open Go.RowKit Go.VS
set_option linter.unusedSimpArgs false
set_option linter.unusedVariables false

/-- N / D in lowest terms. -/
def rat (N D : Nat) : Int × Int := (((N / Nat.gcd N D : Nat) : Int), ((D / Nat.gcd N D : Nat) : Int))

theorem tmod_nat (a b : Nat) : (a : Int).tmod (b : Int) = ((a % b : Nat) : Int) := (Int.ofNat_tmod a b).symm
theorem tdiv_nat (a b : Nat) : (a : Int).tdiv (b : Int) = ((a / b : Nat) : Int) := (Int.ofNat_tdiv a b).symm

theorem rat_mul {k : Nat} (hk : 0 < k) (N D : Nat) : rat (k * N) (k * D) = rat N D := by
  unfold rat
  rw [Nat.gcd_mul_left, Nat.mul_div_mul_left _ _ hk, Nat.mul_div_mul_left _ _ hk]

structure RatOf (x : Int × Int) (n d : Nat) : Prop where
  eq : x = ((n : Int), (d : Int))

theorem rat_parts (N D : Nat) (hD : 0 < D) : ∃ g n d : Nat, 0 < g ∧ 0 < d ∧ N = g * n ∧ D = g * d ∧ rat N D = ((n : Int), (d : Int)) := by
  have hg : 0 < Nat.gcd N D := Nat.gcd_pos_of_pos_right _ hD
  have h1 := Nat.mul_div_cancel' (Nat.gcd_dvd_left N D)
  have h2 := Nat.mul_div_cancel' (Nat.gcd_dvd_right N D)
  refine ⟨Nat.gcd N D, N / Nat.gcd N D, D / Nat.gcd N D, hg, ?_, h1.symm, h2.symm, rfl⟩
  exact Nat.div_pos (Nat.le_of_dvd hD (Nat.gcd_dvd_right N D)) hg

def addF (a b : Int × Int) : Int × Int := rat (a.1 * b.2 + b.1 * a.2).toNat (a.2 * b.2).toNat

theorem addF_rat {N1 L1 N2 L2 : Nat} (h1 : 0 < L1) (h2 : 0 < L2) : addF (rat N1 L1) (rat N2 L2) = rat (N1 * L2 + N2 * L1) (L1 * L2) := by
  obtain ⟨g1, n1, d1, hg1, hd1, rfl, rfl, e1⟩ := rat_parts N1 L1 h1
  obtain ⟨g2, n2, d2, hg2, hd2, rfl, rfl, e2⟩ := rat_parts N2 L2 h2
  rw [e1, e2]
  unfold addF
  have k1 : ((n1 : Int) * (d2 : Int) + (n2 : Int) * (d1 : Int)).toNat = n1 * d2 + n2 * d1 := by
    rw [← Int.natCast_mul, ← Int.natCast_mul, ← Int.natCast_add, Int.toNat_natCast]
  have k2 : ((d1 : Int) * (d2 : Int)).toNat = d1 * d2 := by rw [← Int.natCast_mul, Int.toNat_natCast]
  simp only [k1, k2]
  have h3 : 0 < g1 * g2 := Nat.mul_pos hg1 hg2
  rw [← rat_mul h3]
  congr 1
  · rw [Nat.mul_add]
    congr 1
    · rw [Nat.mul_mul_mul_comm]
    · rw [Nat.mul_comm g1 g2, Nat.mul_mul_mul_comm]
  · rw [Nat.mul_mul_mul_comm]

theorem addF_same {N1 N2 L : Nat} (h : 0 < L) : addF (rat N1 L) (rat N2 L) = rat (N1 + N2) L := by
  rw [addF_rat h h, ← Nat.add_mul, Nat.mul_comm (N1 + N2) L, rat_mul h]

theorem rat_zero {L : Nat} (h : 0 < L) : rat 0 L = (0, 1) := by
  unfold rat
  rw [Nat.gcd_zero_left, Nat.zero_div, Nat.div_self h]
  rfl
theorem rat_whole {n L : Nat} (h : 0 < L) : rat (n * L) L = ((n : Int), 1) := by
  have : rat (L * n) (L * 1) = rat n 1 := rat_mul h n 1
  rw [Nat.mul_one] at this
  rw [Nat.mul_comm, this]
  unfold rat
  rw [Nat.gcd_one_right, Nat.div_one, Nat.div_one]
  rfl

def Fits (n : Int) : Prop := 0 ≤ n ∧ n ≤ 9223372036854775807
theorem Fits.inR {n : Int} (h : Fits n) : InR n := ⟨by unfold Fits at h; omega, h.2⟩
theorem Fits.le {n m : Int} (h : Fits m) (h0 : 0 ≤ n) (h1 : n ≤ m) : InR n := ⟨by omega, by unfold Fits at h; omega⟩

@[push_cast] def ratioCon : Con := ⟨[.dat .int, .dat .int], fun (x : Int × Int × Unit) => Fits x.1 ∧ Fits x.2.1 ∧ 0 < x.2.1, fun (x : Int × Int × Unit) => { res := [.val (.prod .int .int) (rat x.1.toNat x.2.1.toNat)] }⟩
@[push_cast] def gcdCon : Con := ⟨[.dat .int, .dat .int], fun (x : Int × Int × Unit) => Fits x.1 ∧ Fits x.2.1 ∧ 0 < x.2.1, fun (x : Int × Int × Unit) => { res := [.val .int (Nat.gcd x.1.toNat x.2.1.toNat : Nat)] }⟩

theorem gcd_step {a b G : Nat} (h : Nat.gcd a b = G) : Nat.gcd b (a % b) = G := by
  rw [← h, Nat.gcd_comm a b, Nat.gcd_rec b a, Nat.gcd_comm]

theorem quo_in (N G : Nat) (h : (N : Int) ≤ 9223372036854775807) : InR ((N : Int) / (G : Int)) := by
  have h1 : 0 ≤ (N : Int) / (G : Int) := Int.ediv_nonneg (by omega) (by omega)
  have h2 : (N : Int) / (G : Int) ≤ N := Int.ediv_le_self _ (by omega)
  generalize (N : Int) / (G : Int) = q at h1 h2
  exact ⟨by omega, by omega⟩

theorem ratio_spec : FnSpec Try.prog 45 ratioCon := by
  refine FnSpec.of_tri' (E := know [] [] [] []) (know_ok all_nil all_nil all_nil) Try.func45 rfl rfl (by kernel_rfl) ?_
  intro C x hE hnl hfit hpre
  simp only [Try.ntmps45, Try.results45, maxLen, Nat.reduceSub, Nat.reducePow, Nat.reduceAdd, Int.cast_ofNat_Int, push_cast] at hnl hfit hpre ⊢
  obtain ⟨(n : Int), (d : Int), _⟩ := x
  dsimp only at hfit hpre ⊢
  obtain ⟨⟨n0, n1⟩, ⟨d0, d1⟩, d2⟩ := hpre
  obtain ⟨N, rfl⟩ : ∃ N : Nat, n = N := ⟨n.toNat, by omega⟩
  obtain ⟨D, rfl⟩ : ∃ D : Nat, d = D := ⟨d.toNat, by omega⟩
  rw [Int.toNat_natCast, Int.toNat_natCast]
  have hG : 0 < Nat.gcd N D := Nat.gcd_pos_of_pos_right _ (by omega)
  repeat' (first|(refine goK (by assumption) ?_; iterate 4 (try clear hK K))|(refine tri_seqk fun K hK => ?_)|((first|refine tri_region hE rfl ?_|refine tri_ret ?_|((first|refine tri_drawP hE 1 rfl rfl (by kernel_rfl) ?_|refine tri_drawP hE 2 rfl rfl (by kernel_rfl) ?_|refine tri_drawP hE 3 rfl rfl (by kernel_rfl) ?_|refine tri_drawP hE 4 rfl rfl (by kernel_rfl) ?_); simp only [List.length_cons, List.length_nil, Nat.reduceAdd, Nat.reduceSub, List.take_succ_cons, List.take_zero, List.drop_succ_cons, List.drop_zero])); simp +contextual only [hnl, ↓kN, ↓kP, ↓kG, ↓qN, ↓qP, ↓qG, push_cast, Int.reduceEq, Int.reduceLT, Int.reduceLE, Int.reduceNeg, Nat.reduceLT, Nat.reduceLeDiff, Int.reduceToNat, Int.cast_ofNat_Int, Nat.reduceBEq, Nat.reduceMul, Nat.reduceEqDiff, reduceCtorEq, Nat.reduceAdd])|refine tri_block ?_|((first|refine tri_skip ?_|refine tri_exit ?_); simp only [thenQ, blockQ, if_true, if_false, Nat.reduceEqDiff, reduceCtorEq])|(refine tri_cond (by rfl) (fun hb => ?_) (fun hb => ?_) <;> (try simp only [decide_eq_true_eq, decide_eq_false_iff_not, Bool.not_eq_true', Bool.not_eq_false', reduceCtorEq, Bool.true_eq_false, Bool.false_eq_true] at hb) <;> (try omega))|refine tri_unk (by rfl) ?_ ?_|refine And.intro (by first|omega|(unfold InR; omega)|assumption|decide|exact ⟨_, _, rfl⟩) ?_|(refine ⟨fun hc => ?_, fun hc => ?_⟩)|(intro hc; try omega))
  refine tri_loopI (fun x : Nat × Nat => AS.of [(0, .I N), (1, .I D), (4, .one (.box 4)), (5, .I x.1), (6, .I x.2)] [] [(4, .rcd [.val .int 0, .val .int 0])]) (fun x => Nat.gcd x.1 x.2 = Nat.gcd N D) (fun x => x.2) (N, D) rfl ?_ ?_
  · refine weak_of ?_ ?_ ?_ <;> simp only [push_cast, Int.reduceEq, Int.reduceLT, Int.reduceLE, Int.reduceNeg, Nat.reduceLT, Nat.reduceLeDiff, Int.reduceToNat, Int.cast_ofNat_Int, Nat.reduceBEq, Nat.reduceMul, Nat.reduceEqDiff, reduceCtorEq, Nat.reduceAdd]
    all_goals first | omega | (simp only [decide_eq_decide]; omega) | (simp only [hc, decide_true, decide_false, Bool.true_or, Bool.false_or]; done) | (simp; done) | (simp; omega) | (simp [*]; done) | (simp [*]; omega)
  rintro ⟨a, b⟩ hg K' hL
  dsimp only at hg hL ⊢
  by_cases hb0 : b = 0
  · subst hb0
    rw [Nat.gcd_zero_right] at hg
    subst hg
    have q1 := quo_in N (Nat.gcd N D) n1
    have q2 := quo_in D (Nat.gcd N D) d1
    replace hnl := And.intro hnl (And.intro (tdiv_nat N (Nat.gcd N D)) (tdiv_nat D (Nat.gcd N D)))
    repeat' (first|(refine goK (by assumption) ?_; iterate 4 (try clear hK K))|(refine tri_seqk fun K hK => ?_)|((first|refine tri_region hE rfl ?_|refine tri_ret ?_|((first|refine tri_drawP hE 1 rfl rfl (by kernel_rfl) ?_|refine tri_drawP hE 2 rfl rfl (by kernel_rfl) ?_|refine tri_drawP hE 3 rfl rfl (by kernel_rfl) ?_|refine tri_drawP hE 4 rfl rfl (by kernel_rfl) ?_); simp only [List.length_cons, List.length_nil, Nat.reduceAdd, Nat.reduceSub, List.take_succ_cons, List.take_zero, List.drop_succ_cons, List.drop_zero])); simp +contextual only [hnl, ↓kN, ↓kP, ↓kG, ↓qN, ↓qP, ↓qG, push_cast, Int.reduceEq, Int.reduceLT, Int.reduceLE, Int.reduceNeg, Nat.reduceLT, Nat.reduceLeDiff, Int.reduceToNat, Int.cast_ofNat_Int, Nat.reduceBEq, Nat.reduceMul, Nat.reduceEqDiff, reduceCtorEq, Nat.reduceAdd])|refine tri_block ?_|((first|refine tri_skip ?_|refine tri_exit ?_); simp only [thenQ, blockQ, if_true, if_false, Nat.reduceEqDiff, reduceCtorEq])|(refine tri_cond (by rfl) (fun hb => ?_) (fun hb => ?_) <;> (try simp only [decide_eq_true_eq, decide_eq_false_iff_not, Bool.not_eq_true', Bool.not_eq_false', reduceCtorEq, Bool.true_eq_false, Bool.false_eq_true] at hb) <;> (try omega))|refine tri_unk (by rfl) ?_ ?_|refine And.intro (by first|omega|(unfold InR; omega)|assumption|decide|exact ⟨_, _, rfl⟩) ?_|(refine ⟨fun hc => ?_, fun hc => ?_⟩)|(intro hc; try omega))
    refine ⟨⟨by omega, q1⟩, ⟨by omega, q2⟩, ?_⟩
    repeat' (first|(refine goK (by assumption) ?_; iterate 4 (try clear hK K))|(refine tri_seqk fun K hK => ?_)|((first|refine tri_region hE rfl ?_|refine tri_ret ?_|((first|refine tri_drawP hE 1 rfl rfl (by kernel_rfl) ?_|refine tri_drawP hE 2 rfl rfl (by kernel_rfl) ?_|refine tri_drawP hE 3 rfl rfl (by kernel_rfl) ?_|refine tri_drawP hE 4 rfl rfl (by kernel_rfl) ?_); simp only [List.length_cons, List.length_nil, Nat.reduceAdd, Nat.reduceSub, List.take_succ_cons, List.take_zero, List.drop_succ_cons, List.drop_zero])); simp +contextual only [hnl, ↓kN, ↓kP, ↓kG, ↓qN, ↓qP, ↓qG, push_cast, Int.reduceEq, Int.reduceLT, Int.reduceLE, Int.reduceNeg, Nat.reduceLT, Nat.reduceLeDiff, Int.reduceToNat, Int.cast_ofNat_Int, Nat.reduceBEq, Nat.reduceMul, Nat.reduceEqDiff, reduceCtorEq, Nat.reduceAdd])|refine tri_block ?_|((first|refine tri_skip ?_|refine tri_exit ?_); simp only [thenQ, blockQ, if_true, if_false, Nat.reduceEqDiff, reduceCtorEq])|(refine tri_cond (by rfl) (fun hb => ?_) (fun hb => ?_) <;> (try simp only [decide_eq_true_eq, decide_eq_false_iff_not, Bool.not_eq_true', Bool.not_eq_false', reduceCtorEq, Bool.true_eq_false, Bool.false_eq_true] at hb) <;> (try omega))|refine tri_unk (by rfl) ?_ ?_|refine And.intro (by first|omega|(unfold InR; omega)|assumption|decide|exact ⟨_, _, rfl⟩) ?_|(refine ⟨fun hc => ?_, fun hc => ?_⟩)|(intro hc; try omega))
    rfl
  · replace hnl := And.intro hnl (tmod_nat a b)
    repeat' (first|(refine goK (by assumption) ?_; iterate 4 (try clear hK K))|(refine tri_seqk fun K hK => ?_)|((first|refine tri_region hE rfl ?_|refine tri_ret ?_|((first|refine tri_drawP hE 1 rfl rfl (by kernel_rfl) ?_|refine tri_drawP hE 2 rfl rfl (by kernel_rfl) ?_|refine tri_drawP hE 3 rfl rfl (by kernel_rfl) ?_|refine tri_drawP hE 4 rfl rfl (by kernel_rfl) ?_); simp only [List.length_cons, List.length_nil, Nat.reduceAdd, Nat.reduceSub, List.take_succ_cons, List.take_zero, List.drop_succ_cons, List.drop_zero])); simp +contextual only [hnl, ↓kN, ↓kP, ↓kG, ↓qN, ↓qP, ↓qG, push_cast, Int.reduceEq, Int.reduceLT, Int.reduceLE, Int.reduceNeg, Nat.reduceLT, Nat.reduceLeDiff, Int.reduceToNat, Int.cast_ofNat_Int, Nat.reduceBEq, Nat.reduceMul, Nat.reduceEqDiff, reduceCtorEq, Nat.reduceAdd])|refine tri_block ?_|((first|refine tri_skip ?_|refine tri_exit ?_); simp only [thenQ, blockQ, if_true, if_false, Nat.reduceEqDiff, reduceCtorEq])|(refine tri_cond (by rfl) (fun hb => ?_) (fun hb => ?_) <;> (try simp only [decide_eq_true_eq, decide_eq_false_iff_not, Bool.not_eq_true', Bool.not_eq_false', reduceCtorEq, Bool.true_eq_false, Bool.false_eq_true] at hb) <;> (try omega))|refine tri_unk (by rfl) ?_ ?_|refine And.intro (by first|omega|(unfold InR; omega)|assumption|decide|exact ⟨_, _, rfl⟩) ?_|(refine ⟨fun hc => ?_, fun hc => ?_⟩)|(intro hc; try omega))
    refine hL _ (b, a % b) (gcd_step hg) (Nat.mod_lt _ (by omega)) ?_
    refine weak_of ?_ ?_ ?_ <;> simp only [push_cast, Int.reduceEq, Int.reduceLT, Int.reduceLE, Int.reduceNeg, Nat.reduceLT, Nat.reduceLeDiff, Int.reduceToNat, Int.cast_ofNat_Int, Nat.reduceBEq, Nat.reduceMul, Nat.reduceEqDiff, reduceCtorEq, Nat.reduceAdd]
    all_goals first | omega | (simp only [decide_eq_decide]; omega) | (simp only [hc, decide_true, decide_false, Bool.true_or, Bool.false_or]; done) | (simp; done) | (simp; omega) | (simp [*]; done) | (simp [*]; omega)

def AddPre (a b : Int × Int) : Prop := ∃ n1 d1 n2 d2 : Nat, a = ((n1 : Int), (d1 : Int)) ∧ b = ((n2 : Int), (d2 : Int)) ∧ 0 < d1 ∧ 0 < d2 ∧ n1 * d2 + n2 * d1 ≤ 9223372036854775807 ∧ d1 * d2 ≤ 9223372036854775807
def AddPreG (a b : Int × Int) : Prop := ∃ n1 d1 n2 d2 : Nat, a = ((n1 : Int), (d1 : Int)) ∧ b = ((n2 : Int), (d2 : Int)) ∧ 0 < d1 ∧ 0 < d2 ∧ d1 ≤ 9223372036854775807 ∧ d2 ≤ 9223372036854775807 ∧
  n1 * (d2 / Nat.gcd d1 d2) + n2 * (d1 / Nat.gcd d1 d2) ≤ 9223372036854775807 ∧ d1 / Nat.gcd d1 d2 * d2 ≤ 9223372036854775807
@[push_cast] def addCon : Con := ⟨[.dat (.prod .int .int), .dat (.prod .int .int)], fun (x : (Int × Int) × (Int × Int) × Unit) => AddPre x.1 x.2.1, fun (x : (Int × Int) × (Int × Int) × Unit) => { res := [.val (.prod .int .int) (addF x.1 x.2.1)] }⟩
@[push_cast] def raddCon : Con := ⟨[.dat (.prod .int .int), .dat (.prod .int .int)], fun (x : (Int × Int) × (Int × Int) × Unit) => AddPreG x.1 x.2.1, fun (x : (Int × Int) × (Int × Int) × Unit) => { res := [.val (.prod .int .int) (addF x.1 x.2.1)] }⟩

theorem nat_in {n : Nat} (h : n ≤ 9223372036854775807) : InR (n : Int) := ⟨by omega, by omega⟩
theorem nat_fits {n : Nat} (h : n ≤ 9223372036854775807) : Fits (n : Int) := ⟨by omega, by omega⟩

theorem add_spec : FnSpec Try.prog 44 addCon := by
  refine FnSpec.of_tri' (E := know [(45, ratioCon)] [] [] []) (know_ok (all_cons ratio_spec all_nil) all_nil all_nil) Try.func44 rfl rfl (by kernel_rfl) ?_
  intro C x hE hnl hfit hpre
  simp only [Try.ntmps44, Try.results44, maxLen, Nat.reduceSub, Nat.reducePow, Nat.reduceAdd, Int.cast_ofNat_Int, push_cast] at hnl hfit hpre ⊢
  obtain ⟨(a : Int × Int), (b : Int × Int), _⟩ := x
  dsimp only at hfit hpre ⊢
  obtain ⟨n1, d1, n2, d2, rfl, rfl, h1, h2, h3, h4⟩ := hpre
  have m1 : InR ((n1 : Int) * (d2 : Int)) := by rw [← Int.natCast_mul]; exact nat_in (by omega)
  have m2 : InR ((n2 : Int) * (d1 : Int)) := by rw [← Int.natCast_mul]; exact nat_in (by omega)
  have m3 : InR ((n1 : Int) * (d2 : Int) + (n2 : Int) * (d1 : Int)) := by rw [← Int.natCast_mul, ← Int.natCast_mul, ← Int.natCast_add]; exact nat_in h3
  have m4 : InR ((d1 : Int) * (d2 : Int)) := by rw [← Int.natCast_mul]; exact nat_in h4
  have m5 : Fits ((n1 : Int) * (d2 : Int) + (n2 : Int) * (d1 : Int)) := by rw [← Int.natCast_mul, ← Int.natCast_mul, ← Int.natCast_add]; exact nat_fits h3
  have m6 : Fits ((d1 : Int) * (d2 : Int)) := by rw [← Int.natCast_mul]; exact nat_fits h4
  have m7 : 0 < (d1 : Int) * (d2 : Int) := by rw [← Int.natCast_mul]; have := Nat.mul_pos h1 h2; omega
  repeat' (first|(refine goK (by assumption) ?_; iterate 4 (try clear hK K))|(refine tri_seqk fun K hK => ?_)|((first|refine tri_region hE rfl ?_|refine tri_ret ?_|((first|refine tri_drawP hE 1 rfl rfl (by kernel_rfl) ?_|refine tri_drawP hE 2 rfl rfl (by kernel_rfl) ?_|refine tri_drawP hE 3 rfl rfl (by kernel_rfl) ?_|refine tri_drawP hE 4 rfl rfl (by kernel_rfl) ?_); simp only [List.length_cons, List.length_nil, Nat.reduceAdd, Nat.reduceSub, List.take_succ_cons, List.take_zero, List.drop_succ_cons, List.drop_zero])); simp +contextual only [hnl, ↓kN, ↓kP, ↓kG, ↓qN, ↓qP, ↓qG, push_cast, Int.reduceEq, Int.reduceLT, Int.reduceLE, Int.reduceNeg, Nat.reduceLT, Nat.reduceLeDiff, Int.reduceToNat, Int.cast_ofNat_Int, Nat.reduceBEq, Nat.reduceMul, Nat.reduceEqDiff, reduceCtorEq, Nat.reduceAdd])|refine tri_block ?_|((first|refine tri_skip ?_|refine tri_exit ?_); simp only [thenQ, blockQ, if_true, if_false, Nat.reduceEqDiff, reduceCtorEq])|(refine tri_cond (by rfl) (fun hb => ?_) (fun hb => ?_) <;> (try simp only [decide_eq_true_eq, decide_eq_false_iff_not, Bool.not_eq_true', Bool.not_eq_false', reduceCtorEq, Bool.true_eq_false, Bool.false_eq_true] at hb) <;> (try omega))|refine tri_unk (by rfl) ?_ ?_|refine And.intro (by first|omega|(unfold InR; omega)|assumption|decide|exact ⟨_, _, rfl⟩) ?_|(refine ⟨fun hc => ?_, fun hc => ?_⟩)|(intro hc; try omega))
  refine ⟨⟨m5, m6, m7⟩, ?_⟩
  repeat' (first|(refine goK (by assumption) ?_; iterate 4 (try clear hK K))|(refine tri_seqk fun K hK => ?_)|((first|refine tri_region hE rfl ?_|refine tri_ret ?_|((first|refine tri_drawP hE 1 rfl rfl (by kernel_rfl) ?_|refine tri_drawP hE 2 rfl rfl (by kernel_rfl) ?_|refine tri_drawP hE 3 rfl rfl (by kernel_rfl) ?_|refine tri_drawP hE 4 rfl rfl (by kernel_rfl) ?_); simp only [List.length_cons, List.length_nil, Nat.reduceAdd, Nat.reduceSub, List.take_succ_cons, List.take_zero, List.drop_succ_cons, List.drop_zero])); simp +contextual only [hnl, ↓kN, ↓kP, ↓kG, ↓qN, ↓qP, ↓qG, push_cast, Int.reduceEq, Int.reduceLT, Int.reduceLE, Int.reduceNeg, Nat.reduceLT, Nat.reduceLeDiff, Int.reduceToNat, Int.cast_ofNat_Int, Nat.reduceBEq, Nat.reduceMul, Nat.reduceEqDiff, reduceCtorEq, Nat.reduceAdd])|refine tri_block ?_|((first|refine tri_skip ?_|refine tri_exit ?_); simp only [thenQ, blockQ, if_true, if_false, Nat.reduceEqDiff, reduceCtorEq])|(refine tri_cond (by rfl) (fun hb => ?_) (fun hb => ?_) <;> (try simp only [decide_eq_true_eq, decide_eq_false_iff_not, Bool.not_eq_true', Bool.not_eq_false', reduceCtorEq, Bool.true_eq_false, Bool.false_eq_true] at hb) <;> (try omega))|refine tri_unk (by rfl) ?_ ?_|refine And.intro (by first|omega|(unfold InR; omega)|assumption|decide|exact ⟨_, _, rfl⟩) ?_|(refine ⟨fun hc => ?_, fun hc => ?_⟩)|(intro hc; try omega))
  rfl

theorem addF_g (n1 d1 n2 d2 : Nat) (h1 : 0 < d1) : rat (n1 * (d2 / Nat.gcd d1 d2) + n2 * (d1 / Nat.gcd d1 d2)) (d1 / Nat.gcd d1 d2 * d2) = addF ((n1 : Int), (d1 : Int)) ((n2 : Int), (d2 : Int)) := by
  unfold addF
  have k1 : ((n1 : Int) * (d2 : Int) + (n2 : Int) * (d1 : Int)).toNat = n1 * d2 + n2 * d1 := by
    rw [← Int.natCast_mul, ← Int.natCast_mul, ← Int.natCast_add, Int.toNat_natCast]
  have k2 : ((d1 : Int) * (d2 : Int)).toNat = d1 * d2 := by rw [← Int.natCast_mul, Int.toNat_natCast]
  simp only [k1, k2]
  have hg : 0 < Nat.gcd d1 d2 := Nat.gcd_pos_of_pos_left _ h1
  have e1 := Nat.mul_div_cancel' (Nat.gcd_dvd_left d1 d2)
  have e2 := Nat.mul_div_cancel' (Nat.gcd_dvd_right d1 d2)
  rw [← rat_mul hg]
  congr 1
  · rw [Nat.mul_add, Nat.mul_left_comm, e2, Nat.mul_left_comm, e1]
  · rw [← Nat.mul_assoc, e1]

end Go.Proofs.Ytloipnalmkdldaa
