import Derived.Test.YtlgkplnifaoeeaaGreatDoorJ9
import Derived.Test.YtlgkplnifaoeeaaGreatDoorJ4
import Derived.Test.YtlgkplnifaoeeaaGreatDoorJ5
import Derived.Tactics2
import Derived.Test.YtlgkplnifaoeeaaGreatDoorJ8
set_option linter.unusedSimpArgs false
set_option linter.unusedVariables false
namespace Go.Proofs.YtlgkplnifaoeeaaGreatDoor
open Go.RowKit Go.VS Go.OT
theorem zDW (l : List Int) : lsum l = sumL l := by
  have key : ∀ k, k ≤ l.length → lsum (l.take k) = sg k (ga l) := by
    intro k
    induction k with
    | zero => intro _; simp [lsum, sg]
    | succ k ih =>
      intro hk
      rw [zCS l k (by omega), ih (by omega)]
      rfl
  have := key l.length (Nat.le_refl _)
  rwa [List.take_length] at this
def errW (w : Int) : Int := if 0 ≤ w ∧ w ≤ 99 then 0 else 1
def errWd (a b : List Int) (c : List (List Int)) (w : Int) : Int := if zDf a b c = 0 then errW w else zDf a b c
theorem zTu (a b : List Int) (c : List (List Int)) (w : Int) : orV [zDf a b c, errW w] = errWd a b c w := by
  unfold errWd
  simp only [zFe, zK4]
  split
  · split
    · rename_i h; exact h.symm
    · rfl
  · rfl
theorem zLR {a b : List Int} {c : List (List Int)} {w : Int} (h : errWd a b c w = 0) : ForOK a b c ∧ 0 ≤ w ∧ w ≤ 99 := by
  unfold errWd at h
  split at h
  · rename_i h1
    refine ⟨zOv h1, ?_⟩
    unfold errW at h
    split at h
    · assumption
    · omega
  · rename_i h1; exact absurd h h1
theorem zKX : FnSpec Tryz.prog 143 zMt := by
  refine FnSpec.of_tri' (E := know [] [] [] []) (zAn all_nil all_nil all_nil) Tryz.func143 rfl rfl (by kernel_rfl) ?_
  intro C x hE hnl hfit hpre
  simp only [Tryz.ntmps143, Tryz.results143, maxLen, Nat.reduceSub, Nat.reducePow, Nat.reduceAdd, Int.cast_ofNat_Int, push_cast] at hnl hfit hpre ⊢
  obtain ⟨(l : List Int), _⟩ := x
  dsimp only at hfit hpre ⊢
  repeat' (first|(refine goK (by assumption) ?_; iterate 4 (try clear hK K))|(refine zAd fun K hK => ?_)|((first|refine zAb hE rfl ?_|refine zAh ?_|((first|refine zAa hE 1 rfl rfl (by kernel_rfl) ?_|refine zAa hE 2 rfl rfl (by kernel_rfl) ?_|refine zAa hE 3 rfl rfl (by kernel_rfl) ?_|refine zAa hE 4 rfl rfl (by kernel_rfl) ?_); simp only [List.length_cons, List.length_nil, Nat.reduceAdd, Nat.reduceSub, List.take_succ_cons, List.take_zero, List.drop_succ_cons, List.drop_zero])); simp +contextual only [hnl, ↓kN, ↓kP, ↓kG, ↓qN, ↓qP, ↓qG, push_cast, seval, reduceCtorEq, Int.cast_ofNat_Int])|refine zAc ?_|((first|refine zAg ?_|refine zAf ?_); simp only [thenQ, zAk, if_true, if_false, Nat.reduceEqDiff, reduceCtorEq])|(refine zAe (by rfl) (fun hb => ?_) (fun hb => ?_) <;> (try simp only [b1, b2, b3, b4, reduceCtorEq, b5, b6] at hb) <;> (try omega))|refine zAi (by rfl) ?_ ?_|refine andS ?_|(refine ⟨fun hc => ?_, fun hc => ?_⟩)|(intro hc; try omega))
  refine zAp (fun k : Nat => AS.of [(0, .one (.val (.sl .int) l)), (3, .I (lsum (l.take k))), (6, .one (.val (.sl .int) l)), (7, .I l.length), (8, .I k)] [] []) (fun k => k ≤ l.length) (fun k => l.length - k) 0 (Nat.zero_le _) ?_ ?_
  · refine zAj ?_ ?_ ?_ <;> simp only [push_cast, seval, reduceCtorEq, Int.cast_ofNat_Int]
    simp [lsum]
  intro k hk K' hL
  repeat' (first|(refine goK (by assumption) ?_; iterate 4 (try clear hK K))|(refine zAd fun K hK => ?_)|((first|refine zAb hE rfl ?_|refine zAh ?_|((first|refine zAa hE 1 rfl rfl (by kernel_rfl) ?_|refine zAa hE 2 rfl rfl (by kernel_rfl) ?_|refine zAa hE 3 rfl rfl (by kernel_rfl) ?_|refine zAa hE 4 rfl rfl (by kernel_rfl) ?_); simp only [List.length_cons, List.length_nil, Nat.reduceAdd, Nat.reduceSub, List.take_succ_cons, List.take_zero, List.drop_succ_cons, List.drop_zero])); simp +contextual only [hnl, ↓kN, ↓kP, ↓kG, ↓qN, ↓qP, ↓qG, push_cast, seval, reduceCtorEq, Int.cast_ofNat_Int])|refine zAc ?_|((first|refine zAg ?_|refine zAf ?_); simp only [thenQ, zAk, if_true, if_false, Nat.reduceEqDiff, reduceCtorEq])|(refine zAe (by rfl) (fun hb => ?_) (fun hb => ?_) <;> (try simp only [b1, b2, b3, b4, reduceCtorEq, b5, b6] at hb) <;> (try omega))|refine zAi (by rfl) ?_ ?_|refine andS ?_|(refine ⟨fun hc => ?_, fun hc => ?_⟩)|(intro hc; try omega))
  · refine ⟨by rw [← zCS l k (by omega)]; exact hpre _, ?_⟩
    repeat' (first|(refine goK (by assumption) ?_; iterate 4 (try clear hK K))|(refine zAd fun K hK => ?_)|((first|refine zAb hE rfl ?_|refine zAh ?_|((first|refine zAa hE 1 rfl rfl (by kernel_rfl) ?_|refine zAa hE 2 rfl rfl (by kernel_rfl) ?_|refine zAa hE 3 rfl rfl (by kernel_rfl) ?_|refine zAa hE 4 rfl rfl (by kernel_rfl) ?_); simp only [List.length_cons, List.length_nil, Nat.reduceAdd, Nat.reduceSub, List.take_succ_cons, List.take_zero, List.drop_succ_cons, List.drop_zero])); simp +contextual only [hnl, ↓kN, ↓kP, ↓kG, ↓qN, ↓qP, ↓qG, push_cast, seval, reduceCtorEq, Int.cast_ofNat_Int])|refine zAc ?_|((first|refine zAg ?_|refine zAf ?_); simp only [thenQ, zAk, if_true, if_false, Nat.reduceEqDiff, reduceCtorEq])|(refine zAe (by rfl) (fun hb => ?_) (fun hb => ?_) <;> (try simp only [b1, b2, b3, b4, reduceCtorEq, b5, b6] at hb) <;> (try omega))|refine zAi (by rfl) ?_ ?_|refine andS ?_|(refine ⟨fun hc => ?_, fun hc => ?_⟩)|(intro hc; try omega))
    refine hL _ (k + 1) (by omega) (by omega) ?_
    refine zAj ?_ ?_ ?_ <;> simp only [push_cast, seval, reduceCtorEq, Int.cast_ofNat_Int]
    exact (zCS l k (by omega)).symm
  · obtain rfl : k = l.length := by omega
    simp
theorem zJt : FnSpec Tryz.prog 181 zCY := by
  refine FnSpec.of_tri' (E := know [] [] [] []) (zAn all_nil all_nil all_nil) Tryz.func181 rfl rfl (by kernel_rfl) ?_
  intro C x hE hnl hfit hpre
  simp only [Tryz.ntmps181, Tryz.results181, maxLen, Nat.reduceSub, Nat.reducePow, Nat.reduceAdd, Int.cast_ofNat_Int, push_cast] at hnl hfit hpre ⊢
  obtain ⟨(n : Int), (lo : Int), (hi : Int), _⟩ := x
  dsimp only at hfit hpre ⊢
  repeat' (first|(refine goK (by assumption) ?_; iterate 4 (try clear hK K))|(refine zAd fun K hK => ?_)|((first|refine zAb hE rfl ?_|refine zAh ?_|((first|refine zAa hE 1 rfl rfl (by kernel_rfl) ?_|refine zAa hE 2 rfl rfl (by kernel_rfl) ?_|refine zAa hE 3 rfl rfl (by kernel_rfl) ?_|refine zAa hE 4 rfl rfl (by kernel_rfl) ?_); simp only [List.length_cons, List.length_nil, Nat.reduceAdd, Nat.reduceSub, List.take_succ_cons, List.take_zero, List.drop_succ_cons, List.drop_zero])); simp +contextual only [hnl, ↓kN, ↓kP, ↓kG, ↓qN, ↓qP, ↓qG, push_cast, seval, reduceCtorEq, Int.cast_ofNat_Int])|refine zAc ?_|((first|refine zAg ?_|refine zAf ?_); simp only [thenQ, zAk, if_true, if_false, Nat.reduceEqDiff, reduceCtorEq])|(refine zAe (by rfl) (fun hb => ?_) (fun hb => ?_) <;> (try simp only [b1, b2, b3, b4, reduceCtorEq, b5, b6] at hb) <;> (try omega))|refine zAi (by rfl) ?_ ?_|refine andS ?_|(refine ⟨fun hc => ?_, fun hc => ?_⟩)|(intro hc; try omega))
  all_goals first | omega | (simp only [decide_eq_decide]; omega) | (simp only [hc, decide_true, decide_false, Bool.true_or, Bool.false_or]; done) | (simp; done) | (simp; omega) | (simp [*]; done) | (simp [*]; omega)
@[push_cast] def zRB : Con := ⟨[.dat .int], fun _ => True, fun (x : Int × Unit) => { res := [.val .int (errW x.1)] }⟩
theorem zJd : FnSpec Tryz.prog 140 zRB := by
  refine FnSpec.of_tri' (E := know [(181, zCY)] [] [] []) (zAn (all_cons zJt all_nil) all_nil all_nil) Tryz.func140 rfl rfl (by kernel_rfl) ?_
  intro C x hE hnl hfit hpre
  simp only [Tryz.ntmps140, Tryz.results140, maxLen, Nat.reduceSub, Nat.reducePow, Nat.reduceAdd, Int.cast_ofNat_Int, push_cast] at hnl hfit hpre ⊢
  obtain ⟨(w : Int), _⟩ := x
  dsimp only at hfit hpre ⊢
  repeat' (first|(refine goK (by assumption) ?_; iterate 4 (try clear hK K))|(refine zAd fun K hK => ?_)|((first|refine zAb hE rfl ?_|refine zAh ?_|((first|refine zAa hE 1 rfl rfl (by kernel_rfl) ?_|refine zAa hE 2 rfl rfl (by kernel_rfl) ?_|refine zAa hE 3 rfl rfl (by kernel_rfl) ?_|refine zAa hE 4 rfl rfl (by kernel_rfl) ?_); simp only [List.length_cons, List.length_nil, Nat.reduceAdd, Nat.reduceSub, List.take_succ_cons, List.take_zero, List.drop_succ_cons, List.drop_zero])); simp +contextual only [hnl, ↓kN, ↓kP, ↓kG, ↓qN, ↓qP, ↓qG, push_cast, seval, reduceCtorEq, Int.cast_ofNat_Int])|refine zAc ?_|((first|refine zAg ?_|refine zAf ?_); simp only [thenQ, zAk, if_true, if_false, Nat.reduceEqDiff, reduceCtorEq])|(refine zAe (by rfl) (fun hb => ?_) (fun hb => ?_) <;> (try simp only [b1, b2, b3, b4, reduceCtorEq, b5, b6] at hb) <;> (try omega))|refine zAi (by rfl) ?_ ?_|refine andS ?_|(refine ⟨fun hc => ?_, fun hc => ?_⟩)|(intro hc; try omega))
  all_goals first | exact (if_neg (by omega)).symm | exact (if_pos (by omega)).symm
theorem zM7 : FnSpec Tryz.prog 139 zRu := by
  refine FnSpec.of_tri' (E := know [(142, zMx), (73, zKF), (95, orCon)] [] [] []) (zAn (all_cons zNI (all_cons zHN (all_cons zPp all_nil))) all_nil all_nil) Tryz.func139 rfl rfl (by kernel_rfl) ?_
  intro C x hE hnl hfit hpre
  simp only [Tryz.ntmps139, Tryz.results139, maxLen, Nat.reduceSub, Nat.reducePow, Nat.reduceAdd, Int.cast_ofNat_Int, push_cast] at hnl hfit hpre ⊢
  obtain ⟨(a : List Int), (b : List Int), (c : List (List Int)), _⟩ := x
  dsimp only at hfit hpre ⊢
  have hA : orV [zAK a, zAK b, zBn c] = 0 → 0 < c.length := fun h => by have := (zFw (zGk h).2.2).rows; omega
  have hW : orV [zAK a, zAK b, zBn c] = 0 → c.length = a.length → (c.getD 0 []).length = b.length → ForOK a b c := fun h h1 h2 =>
    ⟨zHs (zGk h).1, zHs (zGk h).2.1, zFw (zGk h).2.2, h1, h2⟩
  repeat' (first|(refine goK (by assumption) ?_; iterate 4 (try clear hK K))|(refine zAd fun K hK => ?_)|((first|refine zAb hE rfl ?_|refine zAh ?_|((first|refine zAa hE 1 rfl rfl (by kernel_rfl) ?_|refine zAa hE 2 rfl rfl (by kernel_rfl) ?_|refine zAa hE 3 rfl rfl (by kernel_rfl) ?_|refine zAa hE 4 rfl rfl (by kernel_rfl) ?_); simp only [List.length_cons, List.length_nil, Nat.reduceAdd, Nat.reduceSub, List.take_succ_cons, List.take_zero, List.drop_succ_cons, List.drop_zero])); simp +contextual only [hnl, ↓kN, ↓kP, ↓kG, ↓qN, ↓qP, ↓qG, push_cast, seval, reduceCtorEq, Int.cast_ofNat_Int])|refine zAc ?_|((first|refine zAg ?_|refine zAf ?_); simp only [thenQ, zAk, if_true, if_false, Nat.reduceEqDiff, reduceCtorEq])|(refine zAe (by rfl) (fun hb => ?_) (fun hb => ?_) <;> (try simp only [b1, b2, b3, b4, reduceCtorEq, b5, b6] at hb) <;> (try omega))|refine zAi (by rfl) ?_ ?_|refine andS ?_|(refine ⟨fun hc => ?_, fun hc => ?_⟩)|(intro hc; try omega))
  · exact zSj hb
  · exact zQt (by omega)
  · exact (zQo (hW (by assumption) (by omega) (by omega))).symm
  · exact zQs (by omega)
@[push_cast] def zKe : Con := ⟨[.dat (.sl .int), .dat (.sl .int), .dat (.sl (.sl .int)), .dat .int], fun _ => True, fun (x : List Int × List Int × List (List Int) × Int × Unit) => { res := [.val .int (errWd x.1 x.2.1 x.2.2.1 x.2.2.2.1)] }⟩
theorem zLz : FnSpec Tryz.prog 93 zKe := by
  refine FnSpec.of_tri' (E := know [(139, zRu), (140, zRB), (95, orCon)] [] [] []) (zAn (all_cons zM7 (all_cons zJd (all_cons zPp all_nil))) all_nil all_nil) Tryz.func93 rfl rfl (by kernel_rfl) ?_
  intro C x hE hnl hfit hpre
  simp only [Tryz.ntmps93, Tryz.results93, maxLen, Nat.reduceSub, Nat.reducePow, Nat.reduceAdd, Int.cast_ofNat_Int, push_cast] at hnl hfit hpre ⊢
  obtain ⟨(a : List Int), (b : List Int), (c : List (List Int)), (w : Int), _⟩ := x
  dsimp only at hfit hpre ⊢
  have h0 := zTu a b c w
  replace hnl := And.intro hnl h0
  exact auB
@[push_cast] def zN8 : Con := ⟨[.dat (.sl .int), .dat .int, .ptr .int], fun (x : List Int × Int × Int × Unit) => 0 ≤ x.2.2.1 ∧ x.2.2.1 ≤ 99, fun (x : List Int × Int × Int × Unit) => { res := [.val .bool (decide (2 * x.2.2.1 ≤ x.2.1))] }⟩
@[push_cast] def zIX : Clo := ⟨[.int], [.sl .int, .int], .bool, fun (y : Int × Unit) _ => 0 ≤ y.1 ∧ y.1 ≤ 99, fun (y : Int × Unit) (x : List Int × Int × Unit) => decide (2 * y.1 ≤ x.2.1)⟩
theorem zN9 : FnSpec Tryz.prog 183 zN8 := by
  refine FnSpec.of_tri' (E := know [] [] [] []) (zAn all_nil all_nil all_nil) Tryz.func183 rfl rfl (by kernel_rfl) ?_
  intro C x hE hnl hfit hpre
  simp only [Tryz.ntmps183, Tryz.results183, maxLen, Nat.reduceSub, Nat.reducePow, Nat.reduceAdd, Int.cast_ofNat_Int, push_cast] at hnl hfit hpre ⊢
  obtain ⟨(l : List Int), (n : Int), (w : Int), _⟩ := x
  dsimp only at hfit hpre ⊢
  exact auB
theorem zKC : CloSpec Tryz.prog 183 zIX := CloSpec.of zN9
@[push_cast] def zJk : Con := ⟨[.dat (.sl .int), .dat (.sl .int), .dat (.sl (.sl .int)), .dat .int], fun (x : List Int × List Int × List (List Int) × Int × Unit) => MC x.1 x.2.1 x.2.2.1 ∧ 0 ≤ x.2.2.2.1 ∧ x.2.2.2.1 ≤ 99,
  fun (x : List Int × List Int × List (List Int) × Int × Unit) => { res := [.val (.prod (.sl (.sl .int)) (.sl .int)) (stepP x.1 x.2.1 x.2.2.1 (fewK x.1 x.2.1 x.2.2.1 x.2.2.2.1), zBA x.1 x.2.1 x.2.2.1 (fewK x.1 x.2.1 x.2.2.1 x.2.2.2.1))] }⟩
theorem zOA (a b : List Int) (c : List (List Int)) (w : Int) : zDV a b c (fun x => decide (2 * w ≤ x.2.1)) = fewK a b c w := rfl
theorem zKU : FnSpec Tryz.prog 141 zJk := by
  refine FnSpec.of_tri' (E := know [(182, zO1)] [(183, zIX)] [] []) (zAn (all_cons zO2 all_nil) (all_cons zKC all_nil) all_nil) Tryz.func141 rfl rfl (by kernel_rfl) ?_
  intro C x hE hnl hfit hpre
  simp only [Tryz.ntmps141, Tryz.results141, maxLen, Nat.reduceSub, Nat.reducePow, Nat.reduceAdd, Int.cast_ofNat_Int, push_cast] at hnl hfit hpre ⊢
  obtain ⟨(a : List Int), (b : List Int), (c : List (List Int)), (w : Int), _⟩ := x
  dsimp only at hfit hpre ⊢
  obtain ⟨hm, h0, h99⟩ := hpre
  replace hnl := And.intro hnl (And.intro hm (And.intro h0 (And.intro h99 (zOA a b c w))))
  exact auB
structure FullP (a b : List Int) (w k u : Int) : Prop where
  sa : ∀ m, InR (lsum (a.take m))
  sb : ∀ m, InR (lsum (b.take m))
  la : 0 ≤ lsum a ∧ lsum a ≤ 1200
  lb : 0 ≤ lsum b ∧ lsum b ≤ 1200
  w : 0 ≤ w ∧ w ≤ 99
  k : 0 ≤ k ∧ k ≤ 100000000000
  u : 0 ≤ u ∧ u ≤ 100000000000
theorem MC.sums {a b : List Int} {c : List (List Int)} (h : ForOK a b c) : (∀ m, InR (lsum (a.take m))) ∧ (∀ m, InR (lsum (b.take m))) ∧ (0 ≤ lsum a ∧ lsum a ≤ 1200) ∧ (0 ≤ lsum b ∧ lsum b ≤ 1200) := by
  have hm := h.mc
  have h1 : sumL a ≤ a.length * 200 := zMl _ fun i hi => (hm.ha.at hi).2
  have h2 : sumL b ≤ b.length * 200 := zMl _ fun i hi => (hm.hb.at hi).2
  have := hm.sum_nn
  have := hm.a5
  have := hm.b5
  rw [zDW, zDW]
  exact ⟨zHL h.ha, zHL h.hb, by omega, by omega⟩
@[push_cast] def zOB : Con := ⟨[.dat (.sl .int), .dat (.sl .int), .dat .int, .dat .int, .dat .int], fun (x : List Int × List Int × Int × Int × Int × Unit) => FullP x.1 x.2.1 x.2.2.1 x.2.2.2.1 x.2.2.2.2.1,
  fun (x : List Int × List Int × Int × Int × Int × Unit) => { res := [.val .int (x.2.2.2.1 + x.2.2.1 * (lsum x.1 + lsum x.2.1 - 2 * x.2.2.2.2.1))] }⟩
theorem zSg {w x : Int} (h : 0 ≤ w ∧ w ≤ 99) (hx : -1000000000000 ≤ x ∧ x ≤ 1000000000000) : -99000000000000 ≤ w * x ∧ w * x ≤ 99000000000000 := by
  obtain ⟨n, rfl⟩ : ∃ n : Nat, w = n := ⟨w.toNat, by omega⟩
  have key : ∀ n : Nat, -(n * 1000000000000 : Int) ≤ n * x ∧ (n * x : Int) ≤ n * 1000000000000 := by
    intro n
    induction n with
    | zero => simp
    | succ n ih =>
      rw [Int.natCast_add, Int.add_mul, Int.add_mul]
      omega
  have := key n
  omega
theorem zOC : FnSpec Tryz.prog 97 zOB := by
  refine FnSpec.of_tri' (E := know [(143, zMt)] [] [] []) (zAn (all_cons zKX all_nil) all_nil all_nil) Tryz.func97 rfl rfl (by kernel_rfl) ?_
  intro C x hE hnl hfit hpre
  simp only [Tryz.ntmps97, Tryz.results97, maxLen, Nat.reduceSub, Nat.reducePow, Nat.reduceAdd, Int.cast_ofNat_Int, push_cast] at hnl hfit hpre ⊢
  obtain ⟨(a : List Int), (b : List Int), (w : Int), (k : Int), (u : Int), _⟩ := x
  dsimp only at hfit hpre ⊢
  obtain ⟨h1, h2, h3, h4, h5, h6, h7⟩ := hpre
  have h8 := zSg h5 (x := lsum a + lsum b - 2 * u) (by omega)
  replace hnl := And.intro hnl (And.intro (fun m => eq_true (h1 m)) (fun m => eq_true (h2 m)))
  exact auB
@[push_cast] def zJp : Con := ⟨[.dat (.sl .int), .dat (.sl .int), .dat (.sl (.sl .int)), .dat .int], fun (x : List Int × List Int × List (List Int) × Int × Unit) => ForOK x.1 x.2.1 x.2.2.1 ∧ 0 ≤ x.2.2.2.1 ∧ x.2.2.2.1 ≤ 99,
  fun (x : List Int × List Int × List (List Int) × Int × Unit) => { res := [.val .int (zDD x.1 x.2.1 x.2.2.1 x.2.2.2.1)] }⟩
theorem zKW : FnSpec Tryz.prog 94 zJp := by
  refine FnSpec.of_tri' (E := know [(141, zJk), (97, zOB)] [] [] []) (zAn (all_cons zKU (all_cons zOC all_nil)) all_nil all_nil) Tryz.func94 rfl rfl (by kernel_rfl) ?_
  intro C x hE hnl hfit hpre
  simp only [Tryz.ntmps94, Tryz.results94, maxLen, Nat.reduceSub, Nat.reducePow, Nat.reduceAdd, Int.cast_ofNat_Int, push_cast] at hnl hfit hpre ⊢
  obtain ⟨(a : List Int), (b : List Int), (c : List (List Int)), (w : Int), _⟩ := x
  dsimp only at hfit hpre ⊢
  obtain ⟨hf, h0, h99⟩ := hpre
  have hm := hf.mc
  have hk := (zIo hm w).1
  have hl := zHM a b c (fewK a b c w)
  have hmx := zL7 hm
  have hpb := zGn hm _ hk
  obtain ⟨s1, s2, s3, s4⟩ := MC.sums hf
  have e2 : (((zBA a b c (fewK a b c w)).length : Int) - 1) = (fewK a b c w : Nat) := by omega
  have e3 := zJC a b c (Nat.le_refl (fewK a b c w))
  have hfp : FullP a b w (partV a b c (fewK a b c w)) (fewK a b c w : Nat) := ⟨s1, s2, s3, s4, ⟨h0, h99⟩, by omega, by omega⟩
  have e4 : partV a b c (fewK a b c w) + w * (lsum a + lsum b - 2 * (fewK a b c w : Nat)) = zDD a b c w := by rw [zDW, zDW]; rfl
  replace hnl := And.intro hnl (And.intro hm (And.intro h0 (And.intro h99 (And.intro e2 (And.intro e3 (And.intro (eq_true hfp) e4))))))
  exact auB
end Go.Proofs.YtlgkplnifaoeeaaGreatDoor
namespace Go.Proofs.YtlgkplnifaoeeaaGreatDoor
open Go.RowKit Go.VS Go.OT
structure CatP (l : List (List Int)) : Prop where
  n : l.length ≤ 10
  row : ∀ k, k < l.length → (l.getD k []).length ≤ 100
  pos : 0 < l.flatten.length
def catK (l : List (List Int)) (k : Nat) : List Int := (l.take k).flatten
theorem zQf {l : List (List Int)} {k : Nat} (h : k < l.length) : catK l (k + 1) = catK l k ++ l.getD k [] := by
  unfold catK
  rw [List.take_succ_eq_append_getElem h, List.flatten_append]
  simp [List.getD_eq_getElem?_getD, h]
theorem CatP.le {l : List (List Int)} (h : CatP l) : ∀ k, k ≤ l.length → (catK l k).length ≤ 100 * k
  | 0, _ => by simp [catK]
  | k + 1, hk => by
    have := h.le k (by omega)
    have := h.row k (by omega)
    rw [zQf (by omega), List.length_append]
    omega
end Go.Proofs.YtlgkplnifaoeeaaGreatDoor
namespace Go.Proofs.YtlgkplnifaoeeaaGreatDoor
open Go.RowKit Go.VS Go.OT
def zDh (a b : List Int) (c : List (List Int)) (w : Int) : Int := if errWd a b c w = 0 then zDD a b c w else 0
@[push_cast] def zJf : Con := ⟨[.dat (.sl .int), .dat (.sl .int), .dat (.sl (.sl .int)), .dat .int], fun _ => True, fun (x : List Int × List Int × List (List Int) × Int × Unit) => { res := [.val .int (zDh x.1 x.2.1 x.2.2.1 x.2.2.2.1), .val .int (errWd x.1 x.2.1 x.2.2.1 x.2.2.2.1)] }⟩
theorem zKT : FnSpec Tryz.prog 49 zJf := by
  refine FnSpec.of_tri' (E := know [(93, zKe), (94, zJp)] [] [] []) (zAn (all_cons zLz (all_cons zKW all_nil)) all_nil all_nil) Tryz.func49 rfl rfl (by kernel_rfl) ?_
  intro C x hE hnl hfit hpre
  simp only [Tryz.ntmps49, Tryz.results49, maxLen, Nat.reduceSub, Nat.reducePow, Nat.reduceAdd, Int.cast_ofNat_Int, push_cast] at hnl hfit hpre ⊢
  obtain ⟨(a : List Int), (b : List Int), (c : List (List Int)), (w : Int), _⟩ := x
  dsimp only at hfit hpre ⊢
  by_cases he : errWd a b c w = 0
  · have h1 := zLR he
    have h3 : zDh a b c w = zDD a b c w := if_pos he
    replace hnl := And.intro hnl (And.intro he (And.intro h3 (And.intro h1.1 h1.2)))
    repeat' (first|(refine goK (by assumption) ?_; iterate 4 (try clear hK K))|(refine zAd fun K hK => ?_)|((first|refine zAb hE rfl ?_|refine zAh ?_|((first|refine zAa hE 1 rfl rfl (by kernel_rfl) ?_|refine zAa hE 2 rfl rfl (by kernel_rfl) ?_|refine zAa hE 3 rfl rfl (by kernel_rfl) ?_|refine zAa hE 4 rfl rfl (by kernel_rfl) ?_); simp only [List.length_cons, List.length_nil, Nat.reduceAdd, Nat.reduceSub, List.take_succ_cons, List.take_zero, List.drop_succ_cons, List.drop_zero])); simp +contextual only [hnl, ↓kN, ↓kP, ↓kG, ↓qN, ↓qP, ↓qG, push_cast, seval, reduceCtorEq, Int.cast_ofNat_Int])|refine zAc ?_|((first|refine zAg ?_|refine zAf ?_); simp only [thenQ, zAk, if_true, if_false, Nat.reduceEqDiff, reduceCtorEq])|(refine zAe (by rfl) (fun hb => ?_) (fun hb => ?_) <;> (try simp only [b1, b2, b3, b4, reduceCtorEq, b5, b6] at hb) <;> (try omega))|refine zAi (by rfl) ?_ ?_|refine andS ?_|(refine ⟨fun hc => ?_, fun hc => ?_⟩)|(intro hc; try omega))
    all_goals skip
  · have h3 : zDh a b c w = 0 := if_neg he
    replace hnl := And.intro hnl (And.intro h3 (eq_false he))
    repeat' (first|(refine goK (by assumption) ?_; iterate 4 (try clear hK K))|(refine zAd fun K hK => ?_)|((first|refine zAb hE rfl ?_|refine zAh ?_|((first|refine zAa hE 1 rfl rfl (by kernel_rfl) ?_|refine zAa hE 2 rfl rfl (by kernel_rfl) ?_|refine zAa hE 3 rfl rfl (by kernel_rfl) ?_|refine zAa hE 4 rfl rfl (by kernel_rfl) ?_); simp only [List.length_cons, List.length_nil, Nat.reduceAdd, Nat.reduceSub, List.take_succ_cons, List.take_zero, List.drop_succ_cons, List.drop_zero])); simp +contextual only [hnl, ↓kN, ↓kP, ↓kG, ↓qN, ↓qP, ↓qG, push_cast, seval, reduceCtorEq, Int.cast_ofNat_Int])|refine zAc ?_|((first|refine zAg ?_|refine zAf ?_); simp only [thenQ, zAk, if_true, if_false, Nat.reduceEqDiff, reduceCtorEq])|(refine zAe (by rfl) (fun hb => ?_) (fun hb => ?_) <;> (try simp only [b1, b2, b3, b4, reduceCtorEq, b5, b6] at hb) <;> (try omega))|refine zAi (by rfl) ?_ ?_|refine andS ?_|(refine ⟨fun hc => ?_, fun hc => ?_⟩)|(intro hc; try omega))
    all_goals skip
end Go.Proofs.YtlgkplnifaoeeaaGreatDoor
namespace Go.Proofs.YtlgkplnifaoeeaaGreatDoor
open Go.RowKit Go.VS
abbrev Line := ByteArray × Int
def lineV (before : Int) (x : Line) : ByteArray := itoaV (sumV before (textV x.2 x.1)) ++ spS ++ textV x.2 x.1
structure LinePre (x : Line) : Prop where
  order : x.1.size ≤ 1000
  least : InR x.2
@[push_cast] def zOX : Con := ⟨[.dat .int, .dat (.prod .str .int)], fun (x : Int × Line × Unit) => LinePre x.2.1, fun (x : Int × Line × Unit) => { res := [.val .str (lineV x.1 x.2.1), .val .int (sumV x.1 (textV x.2.1.2 x.2.1.1))] }⟩
theorem zOY : FnSpec Tryz.prog 101 zOX := by
  refine FnSpec.of_tri' (E := know [(125, zGF), (20, zFM)] [] [] []) (zAn (all_cons zE8 (all_cons zNs all_nil)) all_nil all_nil) Tryz.func101 rfl rfl (by kernel_rfl) ?_
  intro C x hE hnl hfit hpre
  simp only [Tryz.ntmps101, Tryz.results101, maxLen, Nat.reduceSub, Nat.reducePow, Nat.reduceAdd, Int.cast_ofNat_Int, push_cast] at hnl hfit hpre ⊢
  obtain ⟨(before : Int), ⟨(order : ByteArray), (least : Int)⟩, _⟩ := x
  dsimp only at hfit hpre ⊢
  obtain ⟨hb3, hb2⟩ := hpre
  dsimp only at hb2 hb3
  have h1 := zCI hb2
  have h3 : spS.size = 1 := rfl
  have h4 : (textV least order).size = (itoaV least).size + 1 + order.size := by unfold textV; rw [zBc, zBc]; rfl
  have h5 := zCi before (textV least order) (textV least order).size
  have h6 : InR (sumV before (textV least order)) := by unfold InR sumV; omega
  have h7 := zCI h6
  have hT : itoaV least ++ spS ++ order = textV least order := rfl
  have h8 : (itoaV least ++ spS).size = (itoaV least).size + 1 := zBc _ _
  have h9 : (itoaV (sumV before (textV least order)) ++ spS).size = (itoaV (sumV before (textV least order))).size + 1 := zBc _ _
  replace hnl := And.intro hnl (And.intro zJX (And.intro hT (And.intro h3 (And.intro h8 h9))))
  repeat' (first|(refine goK (by assumption) ?_; iterate 4 (try clear hK K))|(refine zAd fun K hK => ?_)|((first|refine zAb hE rfl ?_|refine zAh ?_|((first|refine zAa hE 1 rfl rfl (by kernel_rfl) ?_|refine zAa hE 2 rfl rfl (by kernel_rfl) ?_|refine zAa hE 3 rfl rfl (by kernel_rfl) ?_|refine zAa hE 4 rfl rfl (by kernel_rfl) ?_); simp only [List.length_cons, List.length_nil, Nat.reduceAdd, Nat.reduceSub, List.take_succ_cons, List.take_zero, List.drop_succ_cons, List.drop_zero])); simp +contextual only [hnl, ↓kN, ↓kP, ↓kG, ↓qN, ↓qP, ↓qG, push_cast, seval, reduceCtorEq, Int.cast_ofNat_Int])|refine zAc ?_|((first|refine zAg ?_|refine zAf ?_); simp only [thenQ, zAk, if_true, if_false, Nat.reduceEqDiff, reduceCtorEq])|(refine zAe (by rfl) (fun hb => ?_) (fun hb => ?_) <;> (try simp only [b1, b2, b3, b4, reduceCtorEq, b5, b6] at hb) <;> (try omega))|refine zAi (by rfl) ?_ ?_|refine andS ?_|(refine ⟨fun hc => ?_, fun hc => ?_⟩)|(intro hc; try omega))
  rfl
abbrev State := List (List Int) × List Int × List Int × Int
@[push_cast] def zCQ : Con := ⟨[.dat (.prod (.sl (.sl .int)) (.prod (.sl .int) (.prod (.sl .int) .int)))], fun _ => True, fun (x : State × Unit) => { res := [.val .int (zDh x.1.2.1 x.1.2.2.1 x.1.1 x.1.2.2.2)] }⟩
theorem zEO : FnSpec Tryz.prog 81 zCQ := by
  refine FnSpec.of_tri' (E := know [(49, zJf)] [] [] []) (zAn (all_cons zKT all_nil) all_nil all_nil) Tryz.func81 rfl rfl (by kernel_rfl) ?_
  intro C x hE hnl hfit hpre
  simp only [Tryz.ntmps81, Tryz.results81, maxLen, Nat.reduceSub, Nat.reducePow, Nat.reduceAdd, Int.cast_ofNat_Int, push_cast] at hnl hfit hpre ⊢
  obtain ⟨⟨(c : List (List Int)), (a : List Int), (b : List Int), (w : Int)⟩, _⟩ := x
  dsimp only at hfit hpre ⊢
  exact auB
end Go.Proofs.YtlgkplnifaoeeaaGreatDoor
