import Derived.Test.YtlgkplnifaoeeaaGreatDoorY12
import Derived.Test.YtlgkplnifaoeeaaGreatDoorY4
import Derived.Test.YtlgkplnifaoeeaaGreatDoorY6
import Derived.Tactics2
import Derived.Test.YtlgkplnifaoeeaaGreatDoorY11
set_option linter.unusedSimpArgs false
set_option linter.unusedVariables false
namespace Go.Proofs.YtlgkplnifaoeeaaGreatDoor
open Go.RowKit Go.VS Go.OT
theorem zDV (l : List Int) : lsum l = sumL l := by
  have key : ∀ k, k ≤ l.length → lsum (l.take k) = sg k (ga l) := by
    intro k
    induction k with
    | zero => intro _; simp [lsum, sg]
    | succ k ih =>
      intro hk
      rw [zB0 l k (by omega), ih (by omega)]
      rfl
  have := key l.length (Nat.le_refl _)
  rwa [List.take_length] at this
def errW (w : Int) : Int := if 0 ≤ w ∧ w ≤ 99 then 0 else 1
def errWd (a b : List Int) (c : List (List Int)) (w : Int) : Int := if zDd a b c = 0 then errW w else zDd a b c
theorem zTM (a b : List Int) (c : List (List Int)) (w : Int) : orV [zDd a b c, errW w] = errWd a b c w := by
  unfold errWd
  simp only [zFf, zLl]
  split
  · split
    · rename_i h; exact h.symm
    · rfl
  · rfl
theorem zMc {a b : List Int} {c : List (List Int)} {w : Int} (h : errWd a b c w = 0) : ForOK a b c ∧ 0 ≤ w ∧ w ≤ 99 := by
  unfold errWd at h
  split at h
  · rename_i h1
    refine ⟨zOS h1, ?_⟩
    unfold errW at h
    split at h
    · assumption
    · omega
  · rename_i h1; exact absurd h h1
theorem zLg : FnSpec Tryz.prog 143 zGw := by
  refine FnSpec.of_tri' (E := know [] [] [] []) (zAm all_nil all_nil all_nil) Tryz.func143 rfl rfl (by kernel_rfl) ?_
  intro C x hE hnl hfit hpre
  simp only [Tryz.ntmps143, Tryz.results143, maxLen, Nat.reduceSub, Nat.reducePow, Nat.reduceAdd, Int.cast_ofNat_Int, push_cast] at hnl hfit hpre ⊢
  obtain ⟨(l : List Int), _⟩ := x
  dsimp only at hfit hpre ⊢
  repeat' (first|(refine goK (by assumption) ?_; iterate 4 (try clear hK K))|(refine zAd fun K hK => ?_)|((first|refine zAb hE rfl ?_|refine zAh ?_|((first|refine zAa hE 1 rfl rfl (by kernel_rfl) ?_|refine zAa hE 2 rfl rfl (by kernel_rfl) ?_|refine zAa hE 3 rfl rfl (by kernel_rfl) ?_|refine zAa hE 4 rfl rfl (by kernel_rfl) ?_); simp only [List.length_cons, List.length_nil, Nat.reduceAdd, Nat.reduceSub, List.take_succ_cons, List.take_zero, List.drop_succ_cons, List.drop_zero])); simp +contextual only [hnl, ↓kN, ↓kP, ↓kG, ↓qN, ↓qP, ↓qG, push_cast, seval, reduceCtorEq, Int.cast_ofNat_Int])|refine zAc ?_|((first|refine zAg ?_|refine zAf ?_); simp only [thenQ, zAk, if_true, if_false, Nat.reduceEqDiff, reduceCtorEq])|(refine zAe (by rfl) (fun hb => ?_) (fun hb => ?_) <;> (try simp only [b1, b2, b3, b4, reduceCtorEq, b5, b6] at hb) <;> (try omega))|refine zAi (by rfl) ?_ ?_|refine andS ?_|(refine ⟨fun hc => ?_, fun hc => ?_⟩)|(intro hc; try omega))
  refine zAl (fun k : Nat => AS.of [(0, .one (.val (.sl .int) l)), (3, .I (lsum (l.take k))), (6, .one (.val (.sl .int) l)), (7, .I l.length), (8, .I k)] [] []) (fun k => k ≤ l.length) (fun k => l.length - k) 0 (Nat.zero_le _) ?_ ?_
  · refine zAj ?_ ?_ ?_ <;> simp only [push_cast, seval, reduceCtorEq, Int.cast_ofNat_Int]
    simp [lsum]
  intro k hk K' hL
  repeat' (first|(refine goK (by assumption) ?_; iterate 4 (try clear hK K))|(refine zAd fun K hK => ?_)|((first|refine zAb hE rfl ?_|refine zAh ?_|((first|refine zAa hE 1 rfl rfl (by kernel_rfl) ?_|refine zAa hE 2 rfl rfl (by kernel_rfl) ?_|refine zAa hE 3 rfl rfl (by kernel_rfl) ?_|refine zAa hE 4 rfl rfl (by kernel_rfl) ?_); simp only [List.length_cons, List.length_nil, Nat.reduceAdd, Nat.reduceSub, List.take_succ_cons, List.take_zero, List.drop_succ_cons, List.drop_zero])); simp +contextual only [hnl, ↓kN, ↓kP, ↓kG, ↓qN, ↓qP, ↓qG, push_cast, seval, reduceCtorEq, Int.cast_ofNat_Int])|refine zAc ?_|((first|refine zAg ?_|refine zAf ?_); simp only [thenQ, zAk, if_true, if_false, Nat.reduceEqDiff, reduceCtorEq])|(refine zAe (by rfl) (fun hb => ?_) (fun hb => ?_) <;> (try simp only [b1, b2, b3, b4, reduceCtorEq, b5, b6] at hb) <;> (try omega))|refine zAi (by rfl) ?_ ?_|refine andS ?_|(refine ⟨fun hc => ?_, fun hc => ?_⟩)|(intro hc; try omega))
  · refine ⟨by rw [← zB0 l k (by omega)]; exact hpre _, ?_⟩
    repeat' (first|(refine goK (by assumption) ?_; iterate 4 (try clear hK K))|(refine zAd fun K hK => ?_)|((first|refine zAb hE rfl ?_|refine zAh ?_|((first|refine zAa hE 1 rfl rfl (by kernel_rfl) ?_|refine zAa hE 2 rfl rfl (by kernel_rfl) ?_|refine zAa hE 3 rfl rfl (by kernel_rfl) ?_|refine zAa hE 4 rfl rfl (by kernel_rfl) ?_); simp only [List.length_cons, List.length_nil, Nat.reduceAdd, Nat.reduceSub, List.take_succ_cons, List.take_zero, List.drop_succ_cons, List.drop_zero])); simp +contextual only [hnl, ↓kN, ↓kP, ↓kG, ↓qN, ↓qP, ↓qG, push_cast, seval, reduceCtorEq, Int.cast_ofNat_Int])|refine zAc ?_|((first|refine zAg ?_|refine zAf ?_); simp only [thenQ, zAk, if_true, if_false, Nat.reduceEqDiff, reduceCtorEq])|(refine zAe (by rfl) (fun hb => ?_) (fun hb => ?_) <;> (try simp only [b1, b2, b3, b4, reduceCtorEq, b5, b6] at hb) <;> (try omega))|refine zAi (by rfl) ?_ ?_|refine andS ?_|(refine ⟨fun hc => ?_, fun hc => ?_⟩)|(intro hc; try omega))
    refine hL _ (k + 1) (by omega) (by omega) ?_
    refine zAj ?_ ?_ ?_ <;> simp only [push_cast, seval, reduceCtorEq, Int.cast_ofNat_Int]
    exact (zB0 l k (by omega)).symm
  · obtain rfl : k = l.length := by omega
    simp
theorem zJK : FnSpec Tryz.prog 181 zBc := by
  refine FnSpec.of_tri' (E := know [] [] [] []) (zAm all_nil all_nil all_nil) Tryz.func181 rfl rfl (by kernel_rfl) ?_
  intro C x hE hnl hfit hpre
  simp only [Tryz.ntmps181, Tryz.results181, maxLen, Nat.reduceSub, Nat.reducePow, Nat.reduceAdd, Int.cast_ofNat_Int, push_cast] at hnl hfit hpre ⊢
  obtain ⟨(n : Int), (lo : Int), (hi : Int), _⟩ := x
  dsimp only at hfit hpre ⊢
  repeat' (first|(refine goK (by assumption) ?_; iterate 4 (try clear hK K))|(refine zAd fun K hK => ?_)|((first|refine zAb hE rfl ?_|refine zAh ?_|((first|refine zAa hE 1 rfl rfl (by kernel_rfl) ?_|refine zAa hE 2 rfl rfl (by kernel_rfl) ?_|refine zAa hE 3 rfl rfl (by kernel_rfl) ?_|refine zAa hE 4 rfl rfl (by kernel_rfl) ?_); simp only [List.length_cons, List.length_nil, Nat.reduceAdd, Nat.reduceSub, List.take_succ_cons, List.take_zero, List.drop_succ_cons, List.drop_zero])); simp +contextual only [hnl, ↓kN, ↓kP, ↓kG, ↓qN, ↓qP, ↓qG, push_cast, seval, reduceCtorEq, Int.cast_ofNat_Int])|refine zAc ?_|((first|refine zAg ?_|refine zAf ?_); simp only [thenQ, zAk, if_true, if_false, Nat.reduceEqDiff, reduceCtorEq])|(refine zAe (by rfl) (fun hb => ?_) (fun hb => ?_) <;> (try simp only [b1, b2, b3, b4, reduceCtorEq, b5, b6] at hb) <;> (try omega))|refine zAi (by rfl) ?_ ?_|refine andS ?_|(refine ⟨fun hc => ?_, fun hc => ?_⟩)|(intro hc; try omega))
  all_goals first | omega | (simp only [decide_eq_decide]; omega) | (simp only [hc, decide_true, decide_false, Bool.true_or, Bool.false_or]; done) | (simp; done) | (simp; omega) | (simp [*]; done) | (simp [*]; omega)
@[push_cast] def zRR : Con := ⟨[.dat .int], fun _ => True, fun (x : Int × Unit) => { res := [.val .int (errW x.1)] }⟩
theorem zJu : FnSpec Tryz.prog 140 zRR := by
  refine FnSpec.of_tri' (E := know [(181, zBc)] [] [] []) (zAm (all_cons zJK all_nil) all_nil all_nil) Tryz.func140 rfl rfl (by kernel_rfl) ?_
  intro C x hE hnl hfit hpre
  simp only [Tryz.ntmps140, Tryz.results140, maxLen, Nat.reduceSub, Nat.reducePow, Nat.reduceAdd, Int.cast_ofNat_Int, push_cast] at hnl hfit hpre ⊢
  obtain ⟨(w : Int), _⟩ := x
  dsimp only at hfit hpre ⊢
  repeat' (first|(refine goK (by assumption) ?_; iterate 4 (try clear hK K))|(refine zAd fun K hK => ?_)|((first|refine zAb hE rfl ?_|refine zAh ?_|((first|refine zAa hE 1 rfl rfl (by kernel_rfl) ?_|refine zAa hE 2 rfl rfl (by kernel_rfl) ?_|refine zAa hE 3 rfl rfl (by kernel_rfl) ?_|refine zAa hE 4 rfl rfl (by kernel_rfl) ?_); simp only [List.length_cons, List.length_nil, Nat.reduceAdd, Nat.reduceSub, List.take_succ_cons, List.take_zero, List.drop_succ_cons, List.drop_zero])); simp +contextual only [hnl, ↓kN, ↓kP, ↓kG, ↓qN, ↓qP, ↓qG, push_cast, seval, reduceCtorEq, Int.cast_ofNat_Int])|refine zAc ?_|((first|refine zAg ?_|refine zAf ?_); simp only [thenQ, zAk, if_true, if_false, Nat.reduceEqDiff, reduceCtorEq])|(refine zAe (by rfl) (fun hb => ?_) (fun hb => ?_) <;> (try simp only [b1, b2, b3, b4, reduceCtorEq, b5, b6] at hb) <;> (try omega))|refine zAi (by rfl) ?_ ?_|refine andS ?_|(refine ⟨fun hc => ?_, fun hc => ?_⟩)|(intro hc; try omega))
  all_goals first | exact (if_neg (by omega)).symm | exact (if_pos (by omega)).symm
theorem zNs : FnSpec Tryz.prog 139 zRP := by
  refine FnSpec.of_tri' (E := know [(142, zMV), (73, zDP), (95, orCon)] [] [] []) (zAm (all_cons zN2 (all_cons zEm (all_cons zPG all_nil))) all_nil all_nil) Tryz.func139 rfl rfl (by kernel_rfl) ?_
  intro C x hE hnl hfit hpre
  simp only [Tryz.ntmps139, Tryz.results139, maxLen, Nat.reduceSub, Nat.reducePow, Nat.reduceAdd, Int.cast_ofNat_Int, push_cast] at hnl hfit hpre ⊢
  obtain ⟨(a : List Int), (b : List Int), (c : List (List Int)), _⟩ := x
  dsimp only at hfit hpre ⊢
  have hA : orV [zAL a, zAL b, zBj c] = 0 → 0 < c.length := fun h => by have := (zFx (zGq h).2.2).rows; omega
  have hW : orV [zAL a, zAL b, zBj c] = 0 → c.length = a.length → (c.getD 0 []).length = b.length → ForOK a b c := fun h h1 h2 =>
    ⟨zHv (zGq h).1, zHv (zGq h).2.1, zFx (zGq h).2.2, h1, h2⟩
  repeat' (first|(refine goK (by assumption) ?_; iterate 4 (try clear hK K))|(refine zAd fun K hK => ?_)|((first|refine zAb hE rfl ?_|refine zAh ?_|((first|refine zAa hE 1 rfl rfl (by kernel_rfl) ?_|refine zAa hE 2 rfl rfl (by kernel_rfl) ?_|refine zAa hE 3 rfl rfl (by kernel_rfl) ?_|refine zAa hE 4 rfl rfl (by kernel_rfl) ?_); simp only [List.length_cons, List.length_nil, Nat.reduceAdd, Nat.reduceSub, List.take_succ_cons, List.take_zero, List.drop_succ_cons, List.drop_zero])); simp +contextual only [hnl, ↓kN, ↓kP, ↓kG, ↓qN, ↓qP, ↓qG, push_cast, seval, reduceCtorEq, Int.cast_ofNat_Int])|refine zAc ?_|((first|refine zAg ?_|refine zAf ?_); simp only [thenQ, zAk, if_true, if_false, Nat.reduceEqDiff, reduceCtorEq])|(refine zAe (by rfl) (fun hb => ?_) (fun hb => ?_) <;> (try simp only [b1, b2, b3, b4, reduceCtorEq, b5, b6] at hb) <;> (try omega))|refine zAi (by rfl) ?_ ?_|refine andS ?_|(refine ⟨fun hc => ?_, fun hc => ?_⟩)|(intro hc; try omega))
  · exact zSy hb
  · exact zQJ (by omega)
  · exact (zQE (hW (by assumption) (by omega) (by omega))).symm
  · exact zQI (by omega)
@[push_cast] def zKx : Con := ⟨[.dat (.sl .int), .dat (.sl .int), .dat (.sl (.sl .int)), .dat .int], fun _ => True, fun (x : List Int × List Int × List (List Int) × Int × Unit) => { res := [.val .int (errWd x.1 x.2.1 x.2.2.1 x.2.2.2.1)] }⟩
theorem zLQ : FnSpec Tryz.prog 93 zKx := by
  refine FnSpec.of_tri' (E := know [(139, zRP), (140, zRR), (95, orCon)] [] [] []) (zAm (all_cons zNs (all_cons zJu (all_cons zPG all_nil))) all_nil all_nil) Tryz.func93 rfl rfl (by kernel_rfl) ?_
  intro C x hE hnl hfit hpre
  simp only [Tryz.ntmps93, Tryz.results93, maxLen, Nat.reduceSub, Nat.reducePow, Nat.reduceAdd, Int.cast_ofNat_Int, push_cast] at hnl hfit hpre ⊢
  obtain ⟨(a : List Int), (b : List Int), (c : List (List Int)), (w : Int), _⟩ := x
  dsimp only at hfit hpre ⊢
  have h0 := zTM a b c w
  replace hnl := And.intro hnl h0
  exact auB
@[push_cast] def zOs : Con := ⟨[.dat (.sl .int), .dat .int, .ptr .int], fun (x : List Int × Int × Int × Unit) => 0 ≤ x.2.2.1 ∧ x.2.2.1 ≤ 99, fun (x : List Int × Int × Int × Unit) => { res := [.val .bool (decide (2 * x.2.2.1 ≤ x.2.1))] }⟩
@[push_cast] def zJf : Clo := ⟨[.int], [.sl .int, .int], .bool, fun (y : Int × Unit) _ => 0 ≤ y.1 ∧ y.1 ≤ 99, fun (y : Int × Unit) (x : List Int × Int × Unit) => decide (2 * y.1 ≤ x.2.1)⟩
theorem zOt : FnSpec Tryz.prog 183 zOs := by
  refine FnSpec.of_tri' (E := know [] [] [] []) (zAm all_nil all_nil all_nil) Tryz.func183 rfl rfl (by kernel_rfl) ?_
  intro C x hE hnl hfit hpre
  simp only [Tryz.ntmps183, Tryz.results183, maxLen, Nat.reduceSub, Nat.reducePow, Nat.reduceAdd, Int.cast_ofNat_Int, push_cast] at hnl hfit hpre ⊢
  obtain ⟨(l : List Int), (n : Int), (w : Int), _⟩ := x
  dsimp only at hfit hpre ⊢
  exact auB
theorem zKX : CloSpec Tryz.prog 183 zJf := CloSpec.of zOt
@[push_cast] def zJA : Con := ⟨[.dat (.sl .int), .dat (.sl .int), .dat (.sl (.sl .int)), .dat .int], fun (x : List Int × List Int × List (List Int) × Int × Unit) => MC x.1 x.2.1 x.2.2.1 ∧ 0 ≤ x.2.2.2.1 ∧ x.2.2.2.1 ≤ 99,
  fun (x : List Int × List Int × List (List Int) × Int × Unit) => { res := [.val (.prod (.sl (.sl .int)) (.sl .int)) (stepP x.1 x.2.1 x.2.2.1 (fewK x.1 x.2.1 x.2.2.1 x.2.2.2.1), zBu x.1 x.2.1 x.2.2.1 (fewK x.1 x.2.1 x.2.2.1 x.2.2.2.1))] }⟩
theorem zOY (a b : List Int) (c : List (List Int)) (w : Int) : zDT a b c (fun x => decide (2 * w ≤ x.2.1)) = fewK a b c w := rfl
theorem zLd : FnSpec Tryz.prog 141 zJA := by
  refine FnSpec.of_tri' (E := know [(182, zPk)] [(183, zJf)] [] []) (zAm (all_cons zPl all_nil) (all_cons zKX all_nil) all_nil) Tryz.func141 rfl rfl (by kernel_rfl) ?_
  intro C x hE hnl hfit hpre
  simp only [Tryz.ntmps141, Tryz.results141, maxLen, Nat.reduceSub, Nat.reducePow, Nat.reduceAdd, Int.cast_ofNat_Int, push_cast] at hnl hfit hpre ⊢
  obtain ⟨(a : List Int), (b : List Int), (c : List (List Int)), (w : Int), _⟩ := x
  dsimp only at hfit hpre ⊢
  obtain ⟨hm, h0, h99⟩ := hpre
  replace hnl := And.intro hnl (And.intro hm (And.intro h0 (And.intro h99 (zOY a b c w))))
  exact auB
structure FullP (a b : List Int) (w k u : Int) : Prop where
  sa : ∀ m, InR (lsum (a.take m))
  sb : ∀ m, InR (lsum (b.take m))
  la : 0 ≤ lsum a ∧ lsum a ≤ 1200
  lb : 0 ≤ lsum b ∧ lsum b ≤ 1200
  w : 0 ≤ w ∧ w ≤ 99
  k : 0 ≤ k ∧ k ≤ 100000000000
  u : 0 ≤ u ∧ u ≤ 100000000000
theorem MC.sums {a b : List Int} {c : List (List Int)} (h : ForOK a b c) : (∀ m, InR (lsum (a.take m))) ∧ (∀ m, InR (lsum (b.take m))) ∧ (0 ≤ lsum a ∧ lsum a ≤ 1200) ∧ (0 ≤ lsum b ∧ lsum b ≤ 1200) := by
  have hm := h.mc
  have h1 : sumL a ≤ a.length * 200 := zMJ _ fun i hi => (hm.ha.at hi).2
  have h2 : sumL b ≤ b.length * 200 := zMJ _ fun i hi => (hm.hb.at hi).2
  have := hm.sum_nn
  have := hm.a5
  have := hm.b5
  rw [zDV, zDV]
  exact ⟨zHO h.ha, zHO h.hb, by omega, by omega⟩
@[push_cast] def zOZ : Con := ⟨[.dat (.sl .int), .dat (.sl .int), .dat .int, .dat .int, .dat .int], fun (x : List Int × List Int × Int × Int × Int × Unit) => FullP x.1 x.2.1 x.2.2.1 x.2.2.2.1 x.2.2.2.2.1,
  fun (x : List Int × List Int × Int × Int × Int × Unit) => { res := [.val .int (x.2.2.2.1 + x.2.2.1 * (lsum x.1 + lsum x.2.1 - 2 * x.2.2.2.2.1))] }⟩
theorem zSv {w x : Int} (h : 0 ≤ w ∧ w ≤ 99) (hx : -1000000000000 ≤ x ∧ x ≤ 1000000000000) : -99000000000000 ≤ w * x ∧ w * x ≤ 99000000000000 := by
  obtain ⟨n, rfl⟩ : ∃ n : Nat, w = n := ⟨w.toNat, by omega⟩
  have key : ∀ n : Nat, -(n * 1000000000000 : Int) ≤ n * x ∧ (n * x : Int) ≤ n * 1000000000000 := by
    intro n
    induction n with
    | zero => simp
    | succ n ih =>
      rw [Int.natCast_add, Int.add_mul, Int.add_mul]
      omega
  have := key n
  omega
theorem zO0 : FnSpec Tryz.prog 97 zOZ := by
  refine FnSpec.of_tri' (E := know [(143, zGw)] [] [] []) (zAm (all_cons zLg all_nil) all_nil all_nil) Tryz.func97 rfl rfl (by kernel_rfl) ?_
  intro C x hE hnl hfit hpre
  simp only [Tryz.ntmps97, Tryz.results97, maxLen, Nat.reduceSub, Nat.reducePow, Nat.reduceAdd, Int.cast_ofNat_Int, push_cast] at hnl hfit hpre ⊢
  obtain ⟨(a : List Int), (b : List Int), (w : Int), (k : Int), (u : Int), _⟩ := x
  dsimp only at hfit hpre ⊢
  obtain ⟨h1, h2, h3, h4, h5, h6, h7⟩ := hpre
  have h8 := zSv h5 (x := lsum a + lsum b - 2 * u) (by omega)
  replace hnl := And.intro hnl (And.intro (fun m => eq_true (h1 m)) (fun m => eq_true (h2 m)))
  exact auB
@[push_cast] def zJF : Con := ⟨[.dat (.sl .int), .dat (.sl .int), .dat (.sl (.sl .int)), .dat .int], fun (x : List Int × List Int × List (List Int) × Int × Unit) => ForOK x.1 x.2.1 x.2.2.1 ∧ 0 ≤ x.2.2.2.1 ∧ x.2.2.2.1 ≤ 99,
  fun (x : List Int × List Int × List (List Int) × Int × Unit) => { res := [.val .int (zDC x.1 x.2.1 x.2.2.1 x.2.2.2.1)] }⟩
theorem zLf : FnSpec Tryz.prog 94 zJF := by
  refine FnSpec.of_tri' (E := know [(141, zJA), (97, zOZ)] [] [] []) (zAm (all_cons zLd (all_cons zO0 all_nil)) all_nil all_nil) Tryz.func94 rfl rfl (by kernel_rfl) ?_
  intro C x hE hnl hfit hpre
  simp only [Tryz.ntmps94, Tryz.results94, maxLen, Nat.reduceSub, Nat.reducePow, Nat.reduceAdd, Int.cast_ofNat_Int, push_cast] at hnl hfit hpre ⊢
  obtain ⟨(a : List Int), (b : List Int), (c : List (List Int)), (w : Int), _⟩ := x
  dsimp only at hfit hpre ⊢
  obtain ⟨hf, h0, h99⟩ := hpre
  have hm := hf.mc
  have hk := (zIq hm w).1
  have hl := zHS a b c (fewK a b c w)
  have hmx := zMv hm
  have hpb := zGu hm _ hk
  obtain ⟨s1, s2, s3, s4⟩ := MC.sums hf
  have e2 : (((zBu a b c (fewK a b c w)).length : Int) - 1) = (fewK a b c w : Nat) := by omega
  have e3 := zJT a b c (Nat.le_refl (fewK a b c w))
  have hfp : FullP a b w (partV a b c (fewK a b c w)) (fewK a b c w : Nat) := ⟨s1, s2, s3, s4, ⟨h0, h99⟩, by omega, by omega⟩
  have e4 : partV a b c (fewK a b c w) + w * (lsum a + lsum b - 2 * (fewK a b c w : Nat)) = zDC a b c w := by rw [zDV, zDV]; rfl
  replace hnl := And.intro hnl (And.intro hm (And.intro h0 (And.intro h99 (And.intro e2 (And.intro e3 (And.intro (eq_true hfp) e4))))))
  exact auB
end Go.Proofs.YtlgkplnifaoeeaaGreatDoor
namespace Go.Proofs.YtlgkplnifaoeeaaGreatDoor
open Go.RowKit Go.VS Go.OT
structure CatP (l : List (List Int)) : Prop where
  n : l.length ≤ 10
  row : ∀ k, k < l.length → (l.getD k []).length ≤ 100
  pos : 0 < l.flatten.length
def catK (l : List (List Int)) (k : Nat) : List Int := (l.take k).flatten
theorem zQt {l : List (List Int)} {k : Nat} (h : k < l.length) : catK l (k + 1) = catK l k ++ l.getD k [] := by
  unfold catK
  rw [List.take_succ_eq_append_getElem h, List.flatten_append]
  simp [List.getD_eq_getElem?_getD, h]
theorem CatP.le {l : List (List Int)} (h : CatP l) : ∀ k, k ≤ l.length → (catK l k).length ≤ 100 * k
  | 0, _ => by simp [catK]
  | k + 1, hk => by
    have := h.le k (by omega)
    have := h.row k (by omega)
    rw [zQt (by omega), List.length_append]
    omega
end Go.Proofs.YtlgkplnifaoeeaaGreatDoor
namespace Go.Proofs.YtlgkplnifaoeeaaGreatDoor
open Go.RowKit Go.VS Go.OT
def zDf (a b : List Int) (c : List (List Int)) (w : Int) : Int := if errWd a b c w = 0 then zDC a b c w else 0
@[push_cast] def zJw : Con := ⟨[.dat (.sl .int), .dat (.sl .int), .dat (.sl (.sl .int)), .dat .int], fun _ => True, fun (x : List Int × List Int × List (List Int) × Int × Unit) => { res := [.val .int (zDf x.1 x.2.1 x.2.2.1 x.2.2.2.1), .val .int (errWd x.1 x.2.1 x.2.2.1 x.2.2.2.1)] }⟩
theorem zLc : FnSpec Tryz.prog 49 zJw := by
  refine FnSpec.of_tri' (E := know [(93, zKx), (94, zJF)] [] [] []) (zAm (all_cons zLQ (all_cons zLf all_nil)) all_nil all_nil) Tryz.func49 rfl rfl (by kernel_rfl) ?_
  intro C x hE hnl hfit hpre
  simp only [Tryz.ntmps49, Tryz.results49, maxLen, Nat.reduceSub, Nat.reducePow, Nat.reduceAdd, Int.cast_ofNat_Int, push_cast] at hnl hfit hpre ⊢
  obtain ⟨(a : List Int), (b : List Int), (c : List (List Int)), (w : Int), _⟩ := x
  dsimp only at hfit hpre ⊢
  by_cases he : errWd a b c w = 0
  · have h1 := zMc he
    have h3 : zDf a b c w = zDC a b c w := if_pos he
    replace hnl := And.intro hnl (And.intro he (And.intro h3 (And.intro h1.1 h1.2)))
    repeat' (first|(refine goK (by assumption) ?_; iterate 4 (try clear hK K))|(refine zAd fun K hK => ?_)|((first|refine zAb hE rfl ?_|refine zAh ?_|((first|refine zAa hE 1 rfl rfl (by kernel_rfl) ?_|refine zAa hE 2 rfl rfl (by kernel_rfl) ?_|refine zAa hE 3 rfl rfl (by kernel_rfl) ?_|refine zAa hE 4 rfl rfl (by kernel_rfl) ?_); simp only [List.length_cons, List.length_nil, Nat.reduceAdd, Nat.reduceSub, List.take_succ_cons, List.take_zero, List.drop_succ_cons, List.drop_zero])); simp +contextual only [hnl, ↓kN, ↓kP, ↓kG, ↓qN, ↓qP, ↓qG, push_cast, seval, reduceCtorEq, Int.cast_ofNat_Int])|refine zAc ?_|((first|refine zAg ?_|refine zAf ?_); simp only [thenQ, zAk, if_true, if_false, Nat.reduceEqDiff, reduceCtorEq])|(refine zAe (by rfl) (fun hb => ?_) (fun hb => ?_) <;> (try simp only [b1, b2, b3, b4, reduceCtorEq, b5, b6] at hb) <;> (try omega))|refine zAi (by rfl) ?_ ?_|refine andS ?_|(refine ⟨fun hc => ?_, fun hc => ?_⟩)|(intro hc; try omega))
    all_goals skip
  · have h3 : zDf a b c w = 0 := if_neg he
    replace hnl := And.intro hnl (And.intro h3 (eq_false he))
    repeat' (first|(refine goK (by assumption) ?_; iterate 4 (try clear hK K))|(refine zAd fun K hK => ?_)|((first|refine zAb hE rfl ?_|refine zAh ?_|((first|refine zAa hE 1 rfl rfl (by kernel_rfl) ?_|refine zAa hE 2 rfl rfl (by kernel_rfl) ?_|refine zAa hE 3 rfl rfl (by kernel_rfl) ?_|refine zAa hE 4 rfl rfl (by kernel_rfl) ?_); simp only [List.length_cons, List.length_nil, Nat.reduceAdd, Nat.reduceSub, List.take_succ_cons, List.take_zero, List.drop_succ_cons, List.drop_zero])); simp +contextual only [hnl, ↓kN, ↓kP, ↓kG, ↓qN, ↓qP, ↓qG, push_cast, seval, reduceCtorEq, Int.cast_ofNat_Int])|refine zAc ?_|((first|refine zAg ?_|refine zAf ?_); simp only [thenQ, zAk, if_true, if_false, Nat.reduceEqDiff, reduceCtorEq])|(refine zAe (by rfl) (fun hb => ?_) (fun hb => ?_) <;> (try simp only [b1, b2, b3, b4, reduceCtorEq, b5, b6] at hb) <;> (try omega))|refine zAi (by rfl) ?_ ?_|refine andS ?_|(refine ⟨fun hc => ?_, fun hc => ?_⟩)|(intro hc; try omega))
    all_goals skip
end Go.Proofs.YtlgkplnifaoeeaaGreatDoor
namespace Go.Proofs.YtlgkplnifaoeeaaGreatDoor
open Go.RowKit Go.VS
abbrev State := List (List Int) × List Int × List Int × Int
@[push_cast] def zCO : Con := ⟨[.dat (.prod (.sl (.sl .int)) (.prod (.sl .int) (.prod (.sl .int) .int)))], fun _ => True, fun (x : State × Unit) => { res := [.val .int (zDf x.1.2.1 x.1.2.2.1 x.1.1 x.1.2.2.2)] }⟩
theorem zEP : FnSpec Tryz.prog 81 zCO := by
  refine FnSpec.of_tri' (E := know [(49, zJw)] [] [] []) (zAm (all_cons zLc all_nil) all_nil all_nil) Tryz.func81 rfl rfl (by kernel_rfl) ?_
  intro C x hE hnl hfit hpre
  simp only [Tryz.ntmps81, Tryz.results81, maxLen, Nat.reduceSub, Nat.reducePow, Nat.reduceAdd, Int.cast_ofNat_Int, push_cast] at hnl hfit hpre ⊢
  obtain ⟨⟨(c : List (List Int)), (a : List Int), (b : List Int), (w : Int)⟩, _⟩ := x
  dsimp only at hfit hpre ⊢
  exact auB
end Go.Proofs.YtlgkplnifaoeeaaGreatDoor
