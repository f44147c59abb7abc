import Derived.Test.YtlgkplnifaoeeaaGreatDoorY5
import Derived.Test.YtlgkplnifaoeeaaGreatDoorY4
import Derived.Tactics2
import Derived.Carry
import Derived.ChangeMaps5
import Derived.MapKept
import Derived.LaidEql
import Derived.Stop.Asserts
import Derived.RowKitTokens
set_option linter.unusedSimpArgs false
set_option linter.unusedVariables false
namespace Go.Proofs.YtlgkplnifaoeeaaGreatDoor
open Go.RowKit Go.VS Go.OT
theorem zDV (l : List Int) : lsum l = sumL l := by
  have key : ∀ k, k ≤ l.length → lsum (l.take k) = sg k (ga l) := by
    intro k
    induction k with
    | zero => intro _; simp [lsum, sg]
    | succ k ih =>
      intro hk
      rw [zB0 l k (by omega), ih (by omega)]
      rfl
  have := key l.length (Nat.le_refl _)
  rwa [List.take_length] at this
def errW (w : Int) : Int := if 0 ≤ w ∧ w ≤ 99 then 0 else 1
def errWd (a b : List Int) (c : List (List Int)) (w : Int) : Int := if zDd a b c = 0 then errW w else zDd a b c
theorem zTM (a b : List Int) (c : List (List Int)) (w : Int) : orV [zDd a b c, errW w] = errWd a b c w := by
  unfold errWd
  simp only [zFf, zLl]
  split
  · split
    · rename_i h; exact h.symm
    · rfl
  · rfl
theorem zMc {a b : List Int} {c : List (List Int)} {w : Int} (h : errWd a b c w = 0) : ForOK a b c ∧ 0 ≤ w ∧ w ≤ 99 := by
  unfold errWd at h
  split at h
  · rename_i h1
    refine ⟨zOS h1, ?_⟩
    unfold errW at h
    split at h
    · assumption
    · omega
  · rename_i h1; exact absurd h h1
theorem zLg : FnSpec Tryz.prog 143 zGw := by
  refine FnSpec.of_tri' (E := know [] [] [] []) (zAm all_nil all_nil all_nil) Tryz.func143 rfl rfl (by kernel_rfl) ?_
  intro C x hE hnl hfit hpre
  simp only [Tryz.ntmps143, Tryz.results143, maxLen, Nat.reduceSub, Nat.reducePow, Nat.reduceAdd, Int.cast_ofNat_Int, push_cast] at hnl hfit hpre ⊢
  obtain ⟨(l : List Int), _⟩ := x
  dsimp only at hfit hpre ⊢
  repeat' (first|(refine goK (by assumption) ?_; iterate 4 (try clear hK K))|(refine zAd fun K hK => ?_)|((first|refine zAb hE rfl ?_|refine zAh ?_|((first|refine zAa hE 1 rfl rfl (by kernel_rfl) ?_|refine zAa hE 2 rfl rfl (by kernel_rfl) ?_|refine zAa hE 3 rfl rfl (by kernel_rfl) ?_|refine zAa hE 4 rfl rfl (by kernel_rfl) ?_); simp only [List.length_cons, List.length_nil, Nat.reduceAdd, Nat.reduceSub, List.take_succ_cons, List.take_zero, List.drop_succ_cons, List.drop_zero])); simp +contextual only [hnl, ↓kN, ↓kP, ↓kG, ↓qN, ↓qP, ↓qG, push_cast, seval, reduceCtorEq, Int.cast_ofNat_Int])|refine zAc ?_|((first|refine zAg ?_|refine zAf ?_); simp only [thenQ, zAk, if_true, if_false, Nat.reduceEqDiff, reduceCtorEq])|(refine zAe (by rfl) (fun hb => ?_) (fun hb => ?_) <;> (try simp only [b1, b2, b3, b4, reduceCtorEq, b5, b6] at hb) <;> (try omega))|refine zAi (by rfl) ?_ ?_|refine andS ?_|(refine ⟨fun hc => ?_, fun hc => ?_⟩)|(intro hc; try omega))
  refine zAl (fun k : Nat => AS.of [(0, .one (.val (.sl .int) l)), (3, .I (lsum (l.take k))), (6, .one (.val (.sl .int) l)), (7, .I l.length), (8, .I k)] [] []) (fun k => k ≤ l.length) (fun k => l.length - k) 0 (Nat.zero_le _) ?_ ?_
  · refine zAj ?_ ?_ ?_ <;> simp only [push_cast, seval, reduceCtorEq, Int.cast_ofNat_Int]
    simp [lsum]
  intro k hk K' hL
  repeat' (first|(refine goK (by assumption) ?_; iterate 4 (try clear hK K))|(refine zAd fun K hK => ?_)|((first|refine zAb hE rfl ?_|refine zAh ?_|((first|refine zAa hE 1 rfl rfl (by kernel_rfl) ?_|refine zAa hE 2 rfl rfl (by kernel_rfl) ?_|refine zAa hE 3 rfl rfl (by kernel_rfl) ?_|refine zAa hE 4 rfl rfl (by kernel_rfl) ?_); simp only [List.length_cons, List.length_nil, Nat.reduceAdd, Nat.reduceSub, List.take_succ_cons, List.take_zero, List.drop_succ_cons, List.drop_zero])); simp +contextual only [hnl, ↓kN, ↓kP, ↓kG, ↓qN, ↓qP, ↓qG, push_cast, seval, reduceCtorEq, Int.cast_ofNat_Int])|refine zAc ?_|((first|refine zAg ?_|refine zAf ?_); simp only [thenQ, zAk, if_true, if_false, Nat.reduceEqDiff, reduceCtorEq])|(refine zAe (by rfl) (fun hb => ?_) (fun hb => ?_) <;> (try simp only [b1, b2, b3, b4, reduceCtorEq, b5, b6] at hb) <;> (try omega))|refine zAi (by rfl) ?_ ?_|refine andS ?_|(refine ⟨fun hc => ?_, fun hc => ?_⟩)|(intro hc; try omega))
  · refine ⟨by rw [← zB0 l k (by omega)]; exact hpre _, ?_⟩
    repeat' (first|(refine goK (by assumption) ?_; iterate 4 (try clear hK K))|(refine zAd fun K hK => ?_)|((first|refine zAb hE rfl ?_|refine zAh ?_|((first|refine zAa hE 1 rfl rfl (by kernel_rfl) ?_|refine zAa hE 2 rfl rfl (by kernel_rfl) ?_|refine zAa hE 3 rfl rfl (by kernel_rfl) ?_|refine zAa hE 4 rfl rfl (by kernel_rfl) ?_); simp only [List.length_cons, List.length_nil, Nat.reduceAdd, Nat.reduceSub, List.take_succ_cons, List.take_zero, List.drop_succ_cons, List.drop_zero])); simp +contextual only [hnl, ↓kN, ↓kP, ↓kG, ↓qN, ↓qP, ↓qG, push_cast, seval, reduceCtorEq, Int.cast_ofNat_Int])|refine zAc ?_|((first|refine zAg ?_|refine zAf ?_); simp only [thenQ, zAk, if_true, if_false, Nat.reduceEqDiff, reduceCtorEq])|(refine zAe (by rfl) (fun hb => ?_) (fun hb => ?_) <;> (try simp only [b1, b2, b3, b4, reduceCtorEq, b5, b6] at hb) <;> (try omega))|refine zAi (by rfl) ?_ ?_|refine andS ?_|(refine ⟨fun hc => ?_, fun hc => ?_⟩)|(intro hc; try omega))
    refine hL _ (k + 1) (by omega) (by omega) ?_
    refine zAj ?_ ?_ ?_ <;> simp only [push_cast, seval, reduceCtorEq, Int.cast_ofNat_Int]
    exact (zB0 l k (by omega)).symm
  · obtain rfl : k = l.length := by omega
    simp
theorem zJK : FnSpec Tryz.prog 181 zBc := by
  refine FnSpec.of_tri' (E := know [] [] [] []) (zAm all_nil all_nil all_nil) Tryz.func181 rfl rfl (by kernel_rfl) ?_
  intro C x hE hnl hfit hpre
  simp only [Tryz.ntmps181, Tryz.results181, maxLen, Nat.reduceSub, Nat.reducePow, Nat.reduceAdd, Int.cast_ofNat_Int, push_cast] at hnl hfit hpre ⊢
  obtain ⟨(n : Int), (lo : Int), (hi : Int), _⟩ := x
  dsimp only at hfit hpre ⊢
  repeat' (first|(refine goK (by assumption) ?_; iterate 4 (try clear hK K))|(refine zAd fun K hK => ?_)|((first|refine zAb hE rfl ?_|refine zAh ?_|((first|refine zAa hE 1 rfl rfl (by kernel_rfl) ?_|refine zAa hE 2 rfl rfl (by kernel_rfl) ?_|refine zAa hE 3 rfl rfl (by kernel_rfl) ?_|refine zAa hE 4 rfl rfl (by kernel_rfl) ?_); simp only [List.length_cons, List.length_nil, Nat.reduceAdd, Nat.reduceSub, List.take_succ_cons, List.take_zero, List.drop_succ_cons, List.drop_zero])); simp +contextual only [hnl, ↓kN, ↓kP, ↓kG, ↓qN, ↓qP, ↓qG, push_cast, seval, reduceCtorEq, Int.cast_ofNat_Int])|refine zAc ?_|((first|refine zAg ?_|refine zAf ?_); simp only [thenQ, zAk, if_true, if_false, Nat.reduceEqDiff, reduceCtorEq])|(refine zAe (by rfl) (fun hb => ?_) (fun hb => ?_) <;> (try simp only [b1, b2, b3, b4, reduceCtorEq, b5, b6] at hb) <;> (try omega))|refine zAi (by rfl) ?_ ?_|refine andS ?_|(refine ⟨fun hc => ?_, fun hc => ?_⟩)|(intro hc; try omega))
  all_goals first | omega | (simp only [decide_eq_decide]; omega) | (simp only [hc, decide_true, decide_false, Bool.true_or, Bool.false_or]; done) | (simp; done) | (simp; omega) | (simp [*]; done) | (simp [*]; omega)
@[push_cast] def zRR : Con := ⟨[.dat .int], fun _ => True, fun (x : Int × Unit) => { res := [.val .int (errW x.1)] }⟩
theorem zJu : FnSpec Tryz.prog 140 zRR := by
  refine FnSpec.of_tri' (E := know [(181, zBc)] [] [] []) (zAm (all_cons zJK all_nil) all_nil all_nil) Tryz.func140 rfl rfl (by kernel_rfl) ?_
  intro C x hE hnl hfit hpre
  simp only [Tryz.ntmps140, Tryz.results140, maxLen, Nat.reduceSub, Nat.reducePow, Nat.reduceAdd, Int.cast_ofNat_Int, push_cast] at hnl hfit hpre ⊢
  obtain ⟨(w : Int), _⟩ := x
  dsimp only at hfit hpre ⊢
  repeat' (first|(refine goK (by assumption) ?_; iterate 4 (try clear hK K))|(refine zAd fun K hK => ?_)|((first|refine zAb hE rfl ?_|refine zAh ?_|((first|refine zAa hE 1 rfl rfl (by kernel_rfl) ?_|refine zAa hE 2 rfl rfl (by kernel_rfl) ?_|refine zAa hE 3 rfl rfl (by kernel_rfl) ?_|refine zAa hE 4 rfl rfl (by kernel_rfl) ?_); simp only [List.length_cons, List.length_nil, Nat.reduceAdd, Nat.reduceSub, List.take_succ_cons, List.take_zero, List.drop_succ_cons, List.drop_zero])); simp +contextual only [hnl, ↓kN, ↓kP, ↓kG, ↓qN, ↓qP, ↓qG, push_cast, seval, reduceCtorEq, Int.cast_ofNat_Int])|refine zAc ?_|((first|refine zAg ?_|refine zAf ?_); simp only [thenQ, zAk, if_true, if_false, Nat.reduceEqDiff, reduceCtorEq])|(refine zAe (by rfl) (fun hb => ?_) (fun hb => ?_) <;> (try simp only [b1, b2, b3, b4, reduceCtorEq, b5, b6] at hb) <;> (try omega))|refine zAi (by rfl) ?_ ?_|refine andS ?_|(refine ⟨fun hc => ?_, fun hc => ?_⟩)|(intro hc; try omega))
  all_goals first | exact (if_neg (by omega)).symm | exact (if_pos (by omega)).symm
theorem zNs : FnSpec Tryz.prog 139 zRP := by
  refine FnSpec.of_tri' (E := know [(142, zMV), (73, zDP), (95, orCon)] [] [] []) (zAm (all_cons zN2 (all_cons zEm (all_cons zPG all_nil))) all_nil all_nil) Tryz.func139 rfl rfl (by kernel_rfl) ?_
  intro C x hE hnl hfit hpre
  simp only [Tryz.ntmps139, Tryz.results139, maxLen, Nat.reduceSub, Nat.reducePow, Nat.reduceAdd, Int.cast_ofNat_Int, push_cast] at hnl hfit hpre ⊢
  obtain ⟨(a : List Int), (b : List Int), (c : List (List Int)), _⟩ := x
  dsimp only at hfit hpre ⊢
  have hA : orV [zAL a, zAL b, zBj c] = 0 → 0 < c.length := fun h => by have := (zFx (zGq h).2.2).rows; omega
  have hW : orV [zAL a, zAL b, zBj c] = 0 → c.length = a.length → (c.getD 0 []).length = b.length → ForOK a b c := fun h h1 h2 =>
    ⟨zHv (zGq h).1, zHv (zGq h).2.1, zFx (zGq h).2.2, h1, h2⟩
  repeat' (first|(refine goK (by assumption) ?_; iterate 4 (try clear hK K))|(refine zAd fun K hK => ?_)|((first|refine zAb hE rfl ?_|refine zAh ?_|((first|refine zAa hE 1 rfl rfl (by kernel_rfl) ?_|refine zAa hE 2 rfl rfl (by kernel_rfl) ?_|refine zAa hE 3 rfl rfl (by kernel_rfl) ?_|refine zAa hE 4 rfl rfl (by kernel_rfl) ?_); simp only [List.length_cons, List.length_nil, Nat.reduceAdd, Nat.reduceSub, List.take_succ_cons, List.take_zero, List.drop_succ_cons, List.drop_zero])); simp +contextual only [hnl, ↓kN, ↓kP, ↓kG, ↓qN, ↓qP, ↓qG, push_cast, seval, reduceCtorEq, Int.cast_ofNat_Int])|refine zAc ?_|((first|refine zAg ?_|refine zAf ?_); simp only [thenQ, zAk, if_true, if_false, Nat.reduceEqDiff, reduceCtorEq])|(refine zAe (by rfl) (fun hb => ?_) (fun hb => ?_) <;> (try simp only [b1, b2, b3, b4, reduceCtorEq, b5, b6] at hb) <;> (try omega))|refine zAi (by rfl) ?_ ?_|refine andS ?_|(refine ⟨fun hc => ?_, fun hc => ?_⟩)|(intro hc; try omega))
  · exact zSy hb
  · exact zQJ (by omega)
  · exact (zQE (hW (by assumption) (by omega) (by omega))).symm
  · exact zQI (by omega)
@[push_cast] def zKx : Con := ⟨[.dat (.sl .int), .dat (.sl .int), .dat (.sl (.sl .int)), .dat .int], fun _ => True, fun (x : List Int × List Int × List (List Int) × Int × Unit) => { res := [.val .int (errWd x.1 x.2.1 x.2.2.1 x.2.2.2.1)] }⟩
theorem zLQ : FnSpec Tryz.prog 93 zKx := by
  refine FnSpec.of_tri' (E := know [(139, zRP), (140, zRR), (95, orCon)] [] [] []) (zAm (all_cons zNs (all_cons zJu (all_cons zPG all_nil))) all_nil all_nil) Tryz.func93 rfl rfl (by kernel_rfl) ?_
  intro C x hE hnl hfit hpre
  simp only [Tryz.ntmps93, Tryz.results93, maxLen, Nat.reduceSub, Nat.reducePow, Nat.reduceAdd, Int.cast_ofNat_Int, push_cast] at hnl hfit hpre ⊢
  obtain ⟨(a : List Int), (b : List Int), (c : List (List Int)), (w : Int), _⟩ := x
  dsimp only at hfit hpre ⊢
  have h0 := zTM a b c w
  replace hnl := And.intro hnl h0
  exact auB
@[push_cast] def zOs : Con := ⟨[.dat (.sl .int), .dat .int, .ptr .int], fun (x : List Int × Int × Int × Unit) => 0 ≤ x.2.2.1 ∧ x.2.2.1 ≤ 99, fun (x : List Int × Int × Int × Unit) => { res := [.val .bool (decide (2 * x.2.2.1 ≤ x.2.1))] }⟩
@[push_cast] def zJf : Clo := ⟨[.int], [.sl .int, .int], .bool, fun (y : Int × Unit) _ => 0 ≤ y.1 ∧ y.1 ≤ 99, fun (y : Int × Unit) (x : List Int × Int × Unit) => decide (2 * y.1 ≤ x.2.1)⟩
theorem zOt : FnSpec Tryz.prog 183 zOs := by
  refine FnSpec.of_tri' (E := know [] [] [] []) (zAm all_nil all_nil all_nil) Tryz.func183 rfl rfl (by kernel_rfl) ?_
  intro C x hE hnl hfit hpre
  simp only [Tryz.ntmps183, Tryz.results183, maxLen, Nat.reduceSub, Nat.reducePow, Nat.reduceAdd, Int.cast_ofNat_Int, push_cast] at hnl hfit hpre ⊢
  obtain ⟨(l : List Int), (n : Int), (w : Int), _⟩ := x
  dsimp only at hfit hpre ⊢
  exact auB
theorem zKX : CloSpec Tryz.prog 183 zJf := CloSpec.of zOt
@[push_cast] def zJA : Con := ⟨[.dat (.sl .int), .dat (.sl .int), .dat (.sl (.sl .int)), .dat .int], fun (x : List Int × List Int × List (List Int) × Int × Unit) => MC x.1 x.2.1 x.2.2.1 ∧ 0 ≤ x.2.2.2.1 ∧ x.2.2.2.1 ≤ 99,
  fun (x : List Int × List Int × List (List Int) × Int × Unit) => { res := [.val (.prod (.sl (.sl .int)) (.sl .int)) (stepP x.1 x.2.1 x.2.2.1 (fewK x.1 x.2.1 x.2.2.1 x.2.2.2.1), zBu x.1 x.2.1 x.2.2.1 (fewK x.1 x.2.1 x.2.2.1 x.2.2.2.1))] }⟩
theorem zOY (a b : List Int) (c : List (List Int)) (w : Int) : zDT a b c (fun x => decide (2 * w ≤ x.2.1)) = fewK a b c w := rfl
theorem zLd : FnSpec Tryz.prog 141 zJA := by
  refine FnSpec.of_tri' (E := know [(182, zPk)] [(183, zJf)] [] []) (zAm (all_cons zPl all_nil) (all_cons zKX all_nil) all_nil) Tryz.func141 rfl rfl (by kernel_rfl) ?_
  intro C x hE hnl hfit hpre
  simp only [Tryz.ntmps141, Tryz.results141, maxLen, Nat.reduceSub, Nat.reducePow, Nat.reduceAdd, Int.cast_ofNat_Int, push_cast] at hnl hfit hpre ⊢
  obtain ⟨(a : List Int), (b : List Int), (c : List (List Int)), (w : Int), _⟩ := x
  dsimp only at hfit hpre ⊢
  obtain ⟨hm, h0, h99⟩ := hpre
  replace hnl := And.intro hnl (And.intro hm (And.intro h0 (And.intro h99 (zOY a b c w))))
  exact auB
structure FullP (a b : List Int) (w k u : Int) : Prop where
  sa : ∀ m, InR (lsum (a.take m))
  sb : ∀ m, InR (lsum (b.take m))
  la : 0 ≤ lsum a ∧ lsum a ≤ 1200
  lb : 0 ≤ lsum b ∧ lsum b ≤ 1200
  w : 0 ≤ w ∧ w ≤ 99
  k : 0 ≤ k ∧ k ≤ 100000000000
  u : 0 ≤ u ∧ u ≤ 100000000000
theorem MC.sums {a b : List Int} {c : List (List Int)} (h : ForOK a b c) : (∀ m, InR (lsum (a.take m))) ∧ (∀ m, InR (lsum (b.take m))) ∧ (0 ≤ lsum a ∧ lsum a ≤ 1200) ∧ (0 ≤ lsum b ∧ lsum b ≤ 1200) := by
  have hm := h.mc
  have h1 : sumL a ≤ a.length * 200 := zMJ _ fun i hi => (hm.ha.at hi).2
  have h2 : sumL b ≤ b.length * 200 := zMJ _ fun i hi => (hm.hb.at hi).2
  have := hm.sum_nn
  have := hm.a5
  have := hm.b5
  rw [zDV, zDV]
  exact ⟨zHO h.ha, zHO h.hb, by omega, by omega⟩
@[push_cast] def zOZ : Con := ⟨[.dat (.sl .int), .dat (.sl .int), .dat .int, .dat .int, .dat .int], fun (x : List Int × List Int × Int × Int × Int × Unit) => FullP x.1 x.2.1 x.2.2.1 x.2.2.2.1 x.2.2.2.2.1,
  fun (x : List Int × List Int × Int × Int × Int × Unit) => { res := [.val .int (x.2.2.2.1 + x.2.2.1 * (lsum x.1 + lsum x.2.1 - 2 * x.2.2.2.2.1))] }⟩
theorem zSv {w x : Int} (h : 0 ≤ w ∧ w ≤ 99) (hx : -1000000000000 ≤ x ∧ x ≤ 1000000000000) : -99000000000000 ≤ w * x ∧ w * x ≤ 99000000000000 := by
  obtain ⟨n, rfl⟩ : ∃ n : Nat, w = n := ⟨w.toNat, by omega⟩
  have key : ∀ n : Nat, -(n * 1000000000000 : Int) ≤ n * x ∧ (n * x : Int) ≤ n * 1000000000000 := by
    intro n
    induction n with
    | zero => simp
    | succ n ih =>
      rw [Int.natCast_add, Int.add_mul, Int.add_mul]
      omega
  have := key n
  omega
theorem zO0 : FnSpec Tryz.prog 97 zOZ := by
  refine FnSpec.of_tri' (E := know [(143, zGw)] [] [] []) (zAm (all_cons zLg all_nil) all_nil all_nil) Tryz.func97 rfl rfl (by kernel_rfl) ?_
  intro C x hE hnl hfit hpre
  simp only [Tryz.ntmps97, Tryz.results97, maxLen, Nat.reduceSub, Nat.reducePow, Nat.reduceAdd, Int.cast_ofNat_Int, push_cast] at hnl hfit hpre ⊢
  obtain ⟨(a : List Int), (b : List Int), (w : Int), (k : Int), (u : Int), _⟩ := x
  dsimp only at hfit hpre ⊢
  obtain ⟨h1, h2, h3, h4, h5, h6, h7⟩ := hpre
  have h8 := zSv h5 (x := lsum a + lsum b - 2 * u) (by omega)
  replace hnl := And.intro hnl (And.intro (fun m => eq_true (h1 m)) (fun m => eq_true (h2 m)))
  exact auB
@[push_cast] def zJF : Con := ⟨[.dat (.sl .int), .dat (.sl .int), .dat (.sl (.sl .int)), .dat .int], fun (x : List Int × List Int × List (List Int) × Int × Unit) => ForOK x.1 x.2.1 x.2.2.1 ∧ 0 ≤ x.2.2.2.1 ∧ x.2.2.2.1 ≤ 99,
  fun (x : List Int × List Int × List (List Int) × Int × Unit) => { res := [.val .int (zDC x.1 x.2.1 x.2.2.1 x.2.2.2.1)] }⟩
theorem zLf : FnSpec Tryz.prog 94 zJF := by
  refine FnSpec.of_tri' (E := know [(141, zJA), (97, zOZ)] [] [] []) (zAm (all_cons zLd (all_cons zO0 all_nil)) all_nil all_nil) Tryz.func94 rfl rfl (by kernel_rfl) ?_
  intro C x hE hnl hfit hpre
  simp only [Tryz.ntmps94, Tryz.results94, maxLen, Nat.reduceSub, Nat.reducePow, Nat.reduceAdd, Int.cast_ofNat_Int, push_cast] at hnl hfit hpre ⊢
  obtain ⟨(a : List Int), (b : List Int), (c : List (List Int)), (w : Int), _⟩ := x
  dsimp only at hfit hpre ⊢
  obtain ⟨hf, h0, h99⟩ := hpre
  have hm := hf.mc
  have hk := (zIq hm w).1
  have hl := zHS a b c (fewK a b c w)
  have hmx := zMv hm
  have hpb := zGu hm _ hk
  obtain ⟨s1, s2, s3, s4⟩ := MC.sums hf
  have e2 : (((zBu a b c (fewK a b c w)).length : Int) - 1) = (fewK a b c w : Nat) := by omega
  have e3 := zJT a b c (Nat.le_refl (fewK a b c w))
  have hfp : FullP a b w (partV a b c (fewK a b c w)) (fewK a b c w : Nat) := ⟨s1, s2, s3, s4, ⟨h0, h99⟩, by omega, by omega⟩
  have e4 : partV a b c (fewK a b c w) + w * (lsum a + lsum b - 2 * (fewK a b c w : Nat)) = zDC a b c w := by rw [zDV, zDV]; rfl
  replace hnl := And.intro hnl (And.intro hm (And.intro h0 (And.intro h99 (And.intro e2 (And.intro e3 (And.intro (eq_true hfp) e4))))))
  exact auB
end Go.Proofs.YtlgkplnifaoeeaaGreatDoor
namespace Go.Proofs.YtlgkplnifaoeeaaGreatDoor
open Go.RowKit Go.VS Go.OT
structure CatP (l : List (List Int)) : Prop where
  n : l.length ≤ 10
  row : ∀ k, k < l.length → (l.getD k []).length ≤ 100
  pos : 0 < l.flatten.length
def catK (l : List (List Int)) (k : Nat) : List Int := (l.take k).flatten
theorem zQt {l : List (List Int)} {k : Nat} (h : k < l.length) : catK l (k + 1) = catK l k ++ l.getD k [] := by
  unfold catK
  rw [List.take_succ_eq_append_getElem h, List.flatten_append]
  simp [List.getD_eq_getElem?_getD, h]
theorem CatP.le {l : List (List Int)} (h : CatP l) : ∀ k, k ≤ l.length → (catK l k).length ≤ 100 * k
  | 0, _ => by simp [catK]
  | k + 1, hk => by
    have := h.le k (by omega)
    have := h.row k (by omega)
    rw [zQt (by omega), List.length_append]
    omega
end Go.Proofs.YtlgkplnifaoeeaaGreatDoor
namespace Go.Proofs.YtlgkplnifaoeeaaGreatDoor
open Go.RowKit Go.VS Go.OT
def zDf (a b : List Int) (c : List (List Int)) (w : Int) : Int := if errWd a b c w = 0 then zDC a b c w else 0
@[push_cast] def zJw : Con := ⟨[.dat (.sl .int), .dat (.sl .int), .dat (.sl (.sl .int)), .dat .int], fun _ => True, fun (x : List Int × List Int × List (List Int) × Int × Unit) => { res := [.val .int (zDf x.1 x.2.1 x.2.2.1 x.2.2.2.1), .val .int (errWd x.1 x.2.1 x.2.2.1 x.2.2.2.1)] }⟩
theorem zLc : FnSpec Tryz.prog 49 zJw := by
  refine FnSpec.of_tri' (E := know [(93, zKx), (94, zJF)] [] [] []) (zAm (all_cons zLQ (all_cons zLf all_nil)) all_nil all_nil) Tryz.func49 rfl rfl (by kernel_rfl) ?_
  intro C x hE hnl hfit hpre
  simp only [Tryz.ntmps49, Tryz.results49, maxLen, Nat.reduceSub, Nat.reducePow, Nat.reduceAdd, Int.cast_ofNat_Int, push_cast] at hnl hfit hpre ⊢
  obtain ⟨(a : List Int), (b : List Int), (c : List (List Int)), (w : Int), _⟩ := x
  dsimp only at hfit hpre ⊢
  by_cases he : errWd a b c w = 0
  · have h1 := zMc he
    have h3 : zDf a b c w = zDC a b c w := if_pos he
    replace hnl := And.intro hnl (And.intro he (And.intro h3 (And.intro h1.1 h1.2)))
    repeat' (first|(refine goK (by assumption) ?_; iterate 4 (try clear hK K))|(refine zAd fun K hK => ?_)|((first|refine zAb hE rfl ?_|refine zAh ?_|((first|refine zAa hE 1 rfl rfl (by kernel_rfl) ?_|refine zAa hE 2 rfl rfl (by kernel_rfl) ?_|refine zAa hE 3 rfl rfl (by kernel_rfl) ?_|refine zAa hE 4 rfl rfl (by kernel_rfl) ?_); simp only [List.length_cons, List.length_nil, Nat.reduceAdd, Nat.reduceSub, List.take_succ_cons, List.take_zero, List.drop_succ_cons, List.drop_zero])); simp +contextual only [hnl, ↓kN, ↓kP, ↓kG, ↓qN, ↓qP, ↓qG, push_cast, seval, reduceCtorEq, Int.cast_ofNat_Int])|refine zAc ?_|((first|refine zAg ?_|refine zAf ?_); simp only [thenQ, zAk, if_true, if_false, Nat.reduceEqDiff, reduceCtorEq])|(refine zAe (by rfl) (fun hb => ?_) (fun hb => ?_) <;> (try simp only [b1, b2, b3, b4, reduceCtorEq, b5, b6] at hb) <;> (try omega))|refine zAi (by rfl) ?_ ?_|refine andS ?_|(refine ⟨fun hc => ?_, fun hc => ?_⟩)|(intro hc; try omega))
    all_goals skip
  · have h3 : zDf a b c w = 0 := if_neg he
    replace hnl := And.intro hnl (And.intro h3 (eq_false he))
    repeat' (first|(refine goK (by assumption) ?_; iterate 4 (try clear hK K))|(refine zAd fun K hK => ?_)|((first|refine zAb hE rfl ?_|refine zAh ?_|((first|refine zAa hE 1 rfl rfl (by kernel_rfl) ?_|refine zAa hE 2 rfl rfl (by kernel_rfl) ?_|refine zAa hE 3 rfl rfl (by kernel_rfl) ?_|refine zAa hE 4 rfl rfl (by kernel_rfl) ?_); simp only [List.length_cons, List.length_nil, Nat.reduceAdd, Nat.reduceSub, List.take_succ_cons, List.take_zero, List.drop_succ_cons, List.drop_zero])); simp +contextual only [hnl, ↓kN, ↓kP, ↓kG, ↓qN, ↓qP, ↓qG, push_cast, seval, reduceCtorEq, Int.cast_ofNat_Int])|refine zAc ?_|((first|refine zAg ?_|refine zAf ?_); simp only [thenQ, zAk, if_true, if_false, Nat.reduceEqDiff, reduceCtorEq])|(refine zAe (by rfl) (fun hb => ?_) (fun hb => ?_) <;> (try simp only [b1, b2, b3, b4, reduceCtorEq, b5, b6] at hb) <;> (try omega))|refine zAi (by rfl) ?_ ?_|refine andS ?_|(refine ⟨fun hc => ?_, fun hc => ?_⟩)|(intro hc; try omega))
    all_goals skip
end Go.Proofs.YtlgkplnifaoeeaaGreatDoor
namespace Go.Proofs.YtlgkplnifaoeeaaGreatDoor
open Go.RowKit Go.VS
abbrev State := List (List Int) × List Int × List Int × Int
@[push_cast] def zCO : Con := ⟨[.dat (.prod (.sl (.sl .int)) (.prod (.sl .int) (.prod (.sl .int) .int)))], fun _ => True, fun (x : State × Unit) => { res := [.val .int (zDf x.1.2.1 x.1.2.2.1 x.1.1 x.1.2.2.2)] }⟩
theorem zEP : FnSpec Tryz.prog 81 zCO := by
  refine FnSpec.of_tri' (E := know [(49, zJw)] [] [] []) (zAm (all_cons zLc all_nil) all_nil all_nil) Tryz.func81 rfl rfl (by kernel_rfl) ?_
  intro C x hE hnl hfit hpre
  simp only [Tryz.ntmps81, Tryz.results81, maxLen, Nat.reduceSub, Nat.reducePow, Nat.reduceAdd, Int.cast_ofNat_Int, push_cast] at hnl hfit hpre ⊢
  obtain ⟨⟨(c : List (List Int)), (a : List Int), (b : List Int), (w : Int)⟩, _⟩ := x
  dsimp only at hfit hpre ⊢
  exact auB
end Go.Proofs.YtlgkplnifaoeeaaGreatDoor
namespace Go.Proofs.YtlgkplnifaoeeaaGreatDoor
open Go.RowKit Go.VS
theorem zP4 {C : Ctx} {f : FuncId} {fn : Func} {code : Code} {s0 : AS} {γ : Gam} {w : World} {vs : List Value} {Q : Exit → AS → Prop} (hf : C.P.funcs[f]? = some fn) (hb : fn.body = some code) (hds : C.ds = []) (hle : vs.length ≤ fn.ntmps)
    (hr : Rel C γ s0 { tmps := vs.toArray ++ Array.replicate (fn.ntmps - vs.length) undef, defers := [] } w) (h : tri C fn.ntmps code Q s0) (hQ : ∀ e s, Q e s → e = .normal ∨ e = .ret) {R : Ending → World → Prop}
    (hR : ∀ e s' γ' a' w', Rel C γ' s' a' w' → Q e s' → ∃ v, (results fn a'.tmps).run C.P w' = .ok v w' ∧ R (.returned v) w') : Calls C.P f vs.toArray w R := by
  refine calls_of_wp hf hb ?_
  refine wp_mono (h.run γ _ _ hr (by simp; omega)) ?_
  rintro e a' w' ⟨s', γ', h1, h2, h3⟩
  obtain ⟨v, k1, k2⟩ := hR e s' γ' a' w' h1 h3
  rcases hQ e s' h3 with rfl | rfl
  · exact ⟨h1.defers.1.trans hds, v, k1, k2⟩
  · exact ⟨h1.defers.1.trans hds, v, k1, k2⟩
def doV (k : Nat) (l : List Int) (s : State) : Int × State :=
  if k = 0 then (chgE s.2.1 (l.getD 0 0) (l.getD 1 0) (l.getD 1 0), s.1, chgL s.2.1 (l.getD 0 0) (l.getD 1 0) (l.getD 1 0), s.2.2)
  else if k = 1 then (chgE s.2.1 (l.getD 0 0) (l.getD 1 0) (-(l.getD 1 0)), s.1, chgL s.2.1 (l.getD 0 0) (l.getD 1 0) (-(l.getD 1 0)), s.2.2)
  else if k = 2 then (chgE s.2.2.1 (l.getD 0 0) (l.getD 1 0) (l.getD 1 0), s.1, s.2.1, chgL s.2.2.1 (l.getD 0 0) (l.getD 1 0) (l.getD 1 0), s.2.2.2)
  else if k = 3 then (chgE s.2.2.1 (l.getD 0 0) (l.getD 1 0) (-(l.getD 1 0)), s.1, s.2.1, chgL s.2.2.1 (l.getD 0 0) (l.getD 1 0) (-(l.getD 1 0)), s.2.2.2)
  else if k = 4 then (if (s.2.1.length : Int) ≤ l.getD 0 0 ∨ (s.2.2.1.length : Int) ≤ l.getD 1 0 then (4, s) else if 99 < l.getD 2 0 then (1, s) else (0, s.1.set (l.getD 0 0).toNat ((s.1.getD (l.getD 0 0).toNat []).set (l.getD 1 0).toNat (l.getD 2 0)), s.2))
  else if k = 5 then (if 99 < l.getD 0 0 then (1, s) else (0, s.1, s.2.1, s.2.2.1, l.getD 0 0))
  else (if zDf s.2.1 s.2.2.1 s.1 s.2.2.2 = l.getD 0 0 then (0, s) else (7, s))
theorem doV4 (l : List Int) (c : List (List Int)) (a b : List Int) (w : Int) : doV 4 l (c, a, b, w) = if (a.length : Int) ≤ l.getD 0 0 ∨ (b.length : Int) ≤ l.getD 1 0 then (4, (c, a, b, w)) else if 99 < l.getD 2 0 then (1, (c, a, b, w)) else (0, (c.set (l.getD 0 0).toNat ((c.getD (l.getD 0 0).toNat []).set (l.getD 1 0).toNat (l.getD 2 0)), a, b, w)) := rfl
theorem doV5 (l : List Int) (c : List (List Int)) (a b : List Int) (w : Int) : doV 5 l (c, a, b, w) = if 99 < l.getD 0 0 then (1, (c, a, b, w)) else (0, (c, a, b, l.getD 0 0)) := rfl
theorem doV6 (l : List Int) (c : List (List Int)) (a b : List Int) (w : Int) : doV 6 l (c, a, b, w) = if zDf a b c w = l.getD 0 0 then (0, (c, a, b, w)) else (7, (c, a, b, w)) := rfl
structure DoPre (k : Nat) (l : List Int) (s : State) : Prop where
  kind : k ≤ 6
  len : l.length = if k = 4 then 3 else if k ≤ 3 then 2 else 1
  num : ∀ i, i < l.length → 0 ≤ l.getD i 0 ∧ l.getD i 0 ≤ 99999
  tab : InTab 0 99 s.1
  la : s.2.1.length = s.1.length
  lb : s.2.2.1.length = wid s.1
  a : ∀ i, i < s.2.1.length → 0 ≤ s.2.1.getD i 0 ∧ s.2.1.getD i 0 ≤ 30
  b : ∀ i, i < s.2.2.1.length → 0 ≤ s.2.2.1.getD i 0 ∧ s.2.2.1.getD i 0 ≤ 30
def doIn (k : Nat) (l : List Int) (s : State) : AS := AS.of [(0, .one (.box 0)), (1, .one (.val .int (k : Int))), (2, .one (.val (.sl .int) l))] [(1, .deep 25 3 .int s.1), (2, .flat 3 .int s.2.1), (3, .flat 3 .int s.2.2.1)] [(0, .rcd [.ref 1, .ref 2, .ref 3, .val .int s.2.2.2])]
def doOut (k : Nat) (l : List Int) (s : State) : AS := AS.of [(6, .one (.val (.err 161) (doV k l s).1))] [] [(0, .rcd [.val (.sl (.sl .int)) (doV k l s).2.1, .val (.sl .int) (doV k l s).2.2.1, .val (.sl .int) (doV k l s).2.2.2.1, .val .int (doV k l s).2.2.2.2])]
structure DoQ (nl : Nat) (k : Nat) (l : List Int) (s : State) (e : Exit) (t : AS) : Prop where
  e : e = .normal ∨ e = .ret
  h : Weak nl t (doOut k l s)
def zTd : Know := know [(127, zOu), (81, zCO)] []
theorem zOG : KnowOK Tryz.prog zTd := zAm (all_cons zQu (all_cons zEP all_nil)) all_nil all_nil
set_option maxHeartbeats 4000000 in
theorem zTf {C : Ctx} (hP : C.P = Tryz.prog) (hE : KnowOK C.P (know [(127, zOu), (81, zCO)] [])) (hnl : C.nl = 4) (k : Nat) (l : List Int) (s : State) (hpre : DoPre k l s) {code : Code} (hb : Tryz.f79.body = some code) :
    tri C 146 code (DoQ 4 k l s) (doIn k l s) := by
  obtain ⟨c, a, b, wst⟩ := s
  obtain ⟨hk, hl, hn, ht, hla, hlb, ha, hbb⟩ := hpre
  dsimp only at *
  unfold doIn
  dsimp only
  have hb' : code = (Tryz.f79.body).getD .skip := by rw [hb]; rfl
  subst hb'
  clear hb
  show tri C 146 _ _ _
  dsimp only [Tryz.f79]
  simp only [Option.getD_some]
  have hn0 := hn 0
  have hn1 := hn 1
  have hrs := ht.rows
  have hcs := ht.cols
  obtain rfl | rfl | rfl | rfl | rfl | rfl | rfl : k = 0 ∨ k = 1 ∨ k = 2 ∨ k = 3 ∨ k = 4 ∨ k = 5 ∨ k = 6 := by omega
  · have hl' : l.length = 2 := hl
    have hp : ChgPre (.flat 3 .int a) (l.getD 0 0) (l.getD 1 0) := ⟨by rw [zA6], by rw [zA6]; omega, by rw [zA6]; exact ha, by have := hn0 (by omega); omega, by have := hn1 (by omega); omega⟩
    have e : doV 0 l (c, a, b, wst) = (chgE a (l.getD 0 0) (l.getD 1 0) (l.getD 1 0), c, chgL a (l.getD 0 0) (l.getD 1 0) (l.getD 1 0), b, wst) := rfl
    replace hnl := And.intro hnl (And.intro (eq_true hp) hl')
    repeat' (first|(refine zAa hE 2 rfl rfl (by decide +kernel) ?_; simp only [List.length_cons, List.length_nil, Nat.reduceAdd, Nat.reduceSub, List.take_succ_cons, List.take_zero, List.drop_succ_cons, List.drop_zero]; simp +contextual only [hnl, ↓kN, ↓kP, ↓kG, ↓qN, ↓qP, ↓qG, push_cast, seval, reduceCtorEq, Int.cast_ofNat_Int])|(first|(refine goK (by assumption) ?_; iterate 4 (try clear hK K))|(refine zAd fun K hK => ?_)|((first|refine zAb hE rfl ?_|refine zAh ?_|((first|refine zAa hE 1 rfl rfl (by kernel_rfl) ?_|refine zAa hE 2 rfl rfl (by kernel_rfl) ?_|refine zAa hE 3 rfl rfl (by kernel_rfl) ?_|refine zAa hE 4 rfl rfl (by kernel_rfl) ?_); simp only [List.length_cons, List.length_nil, Nat.reduceAdd, Nat.reduceSub, List.take_succ_cons, List.take_zero, List.drop_succ_cons, List.drop_zero])); simp +contextual only [hnl, ↓kN, ↓kP, ↓kG, ↓qN, ↓qP, ↓qG, push_cast, seval, reduceCtorEq, Int.cast_ofNat_Int])|refine zAc ?_|((first|refine zAg ?_|refine zAf ?_); simp only [thenQ, zAk, if_true, if_false, Nat.reduceEqDiff, reduceCtorEq])|(refine zAe (by rfl) (fun hb => ?_) (fun hb => ?_) <;> (try simp only [b1, b2, b3, b4, reduceCtorEq, b5, b6] at hb) <;> (try omega))|refine zAi (by rfl) ?_ ?_|refine andS ?_|(refine ⟨fun hc => ?_, fun hc => ?_⟩)|(intro hc; try omega)))
    all_goals ((try refine zAh ?_); refine ⟨.inr rfl, ?_⟩; unfold doOut; rw [e]; dsimp only; refine zAj ?_ ?_ ?_ <;> simp only [push_cast, seval, reduceCtorEq, Int.cast_ofNat_Int])
  · have hl' : l.length = 2 := hl
    have hp : ChgPre (.flat 3 .int a) (l.getD 0 0) (-(l.getD 1 0)) := ⟨by rw [zA6], by rw [zA6]; omega, by rw [zA6]; exact ha, by have := hn0 (by omega); omega, by have := hn1 (by omega); omega⟩
    have e : doV 1 l (c, a, b, wst) = (chgE a (l.getD 0 0) (l.getD 1 0) (-(l.getD 1 0)), c, chgL a (l.getD 0 0) (l.getD 1 0) (-(l.getD 1 0)), b, wst) := rfl
    replace hnl := And.intro hnl (And.intro (eq_true hp) hl')
    repeat' (first|(refine zAa hE 2 rfl rfl (by decide +kernel) ?_; simp only [List.length_cons, List.length_nil, Nat.reduceAdd, Nat.reduceSub, List.take_succ_cons, List.take_zero, List.drop_succ_cons, List.drop_zero]; simp +contextual only [hnl, ↓kN, ↓kP, ↓kG, ↓qN, ↓qP, ↓qG, push_cast, seval, reduceCtorEq, Int.cast_ofNat_Int])|(first|(refine goK (by assumption) ?_; iterate 4 (try clear hK K))|(refine zAd fun K hK => ?_)|((first|refine zAb hE rfl ?_|refine zAh ?_|((first|refine zAa hE 1 rfl rfl (by kernel_rfl) ?_|refine zAa hE 2 rfl rfl (by kernel_rfl) ?_|refine zAa hE 3 rfl rfl (by kernel_rfl) ?_|refine zAa hE 4 rfl rfl (by kernel_rfl) ?_); simp only [List.length_cons, List.length_nil, Nat.reduceAdd, Nat.reduceSub, List.take_succ_cons, List.take_zero, List.drop_succ_cons, List.drop_zero])); simp +contextual only [hnl, ↓kN, ↓kP, ↓kG, ↓qN, ↓qP, ↓qG, push_cast, seval, reduceCtorEq, Int.cast_ofNat_Int])|refine zAc ?_|((first|refine zAg ?_|refine zAf ?_); simp only [thenQ, zAk, if_true, if_false, Nat.reduceEqDiff, reduceCtorEq])|(refine zAe (by rfl) (fun hb => ?_) (fun hb => ?_) <;> (try simp only [b1, b2, b3, b4, reduceCtorEq, b5, b6] at hb) <;> (try omega))|refine zAi (by rfl) ?_ ?_|refine andS ?_|(refine ⟨fun hc => ?_, fun hc => ?_⟩)|(intro hc; try omega)))
    all_goals ((try refine zAh ?_); refine ⟨.inr rfl, ?_⟩; unfold doOut; rw [e]; dsimp only; refine zAj ?_ ?_ ?_ <;> simp only [push_cast, seval, reduceCtorEq, Int.cast_ofNat_Int])
  · have hl' : l.length = 2 := hl
    have hp : ChgPre (.flat 3 .int b) (l.getD 0 0) (l.getD 1 0) := ⟨by rw [zA6], by rw [zA6]; omega, by rw [zA6]; exact hbb, by have := hn0 (by omega); omega, by have := hn1 (by omega); omega⟩
    have e : doV 2 l (c, a, b, wst) = (chgE b (l.getD 0 0) (l.getD 1 0) (l.getD 1 0), c, a, chgL b (l.getD 0 0) (l.getD 1 0) (l.getD 1 0), wst) := rfl
    replace hnl := And.intro hnl (And.intro (eq_true hp) hl')
    repeat' (first|(refine zAa hE 2 rfl rfl (by decide +kernel) ?_; simp only [List.length_cons, List.length_nil, Nat.reduceAdd, Nat.reduceSub, List.take_succ_cons, List.take_zero, List.drop_succ_cons, List.drop_zero]; simp +contextual only [hnl, ↓kN, ↓kP, ↓kG, ↓qN, ↓qP, ↓qG, push_cast, seval, reduceCtorEq, Int.cast_ofNat_Int])|(first|(refine goK (by assumption) ?_; iterate 4 (try clear hK K))|(refine zAd fun K hK => ?_)|((first|refine zAb hE rfl ?_|refine zAh ?_|((first|refine zAa hE 1 rfl rfl (by kernel_rfl) ?_|refine zAa hE 2 rfl rfl (by kernel_rfl) ?_|refine zAa hE 3 rfl rfl (by kernel_rfl) ?_|refine zAa hE 4 rfl rfl (by kernel_rfl) ?_); simp only [List.length_cons, List.length_nil, Nat.reduceAdd, Nat.reduceSub, List.take_succ_cons, List.take_zero, List.drop_succ_cons, List.drop_zero])); simp +contextual only [hnl, ↓kN, ↓kP, ↓kG, ↓qN, ↓qP, ↓qG, push_cast, seval, reduceCtorEq, Int.cast_ofNat_Int])|refine zAc ?_|((first|refine zAg ?_|refine zAf ?_); simp only [thenQ, zAk, if_true, if_false, Nat.reduceEqDiff, reduceCtorEq])|(refine zAe (by rfl) (fun hb => ?_) (fun hb => ?_) <;> (try simp only [b1, b2, b3, b4, reduceCtorEq, b5, b6] at hb) <;> (try omega))|refine zAi (by rfl) ?_ ?_|refine andS ?_|(refine ⟨fun hc => ?_, fun hc => ?_⟩)|(intro hc; try omega)))
    all_goals ((try refine zAh ?_); refine ⟨.inr rfl, ?_⟩; unfold doOut; rw [e]; dsimp only; refine zAj ?_ ?_ ?_ <;> simp only [push_cast, seval, reduceCtorEq, Int.cast_ofNat_Int])
  · have hl' : l.length = 2 := hl
    have hp : ChgPre (.flat 3 .int b) (l.getD 0 0) (-(l.getD 1 0)) := ⟨by rw [zA6], by rw [zA6]; omega, by rw [zA6]; exact hbb, by have := hn0 (by omega); omega, by have := hn1 (by omega); omega⟩
    have e : doV 3 l (c, a, b, wst) = (chgE b (l.getD 0 0) (l.getD 1 0) (-(l.getD 1 0)), c, a, chgL b (l.getD 0 0) (l.getD 1 0) (-(l.getD 1 0)), wst) := rfl
    replace hnl := And.intro hnl (And.intro (eq_true hp) hl')
    repeat' (first|(refine zAa hE 2 rfl rfl (by decide +kernel) ?_; simp only [List.length_cons, List.length_nil, Nat.reduceAdd, Nat.reduceSub, List.take_succ_cons, List.take_zero, List.drop_succ_cons, List.drop_zero]; simp +contextual only [hnl, ↓kN, ↓kP, ↓kG, ↓qN, ↓qP, ↓qG, push_cast, seval, reduceCtorEq, Int.cast_ofNat_Int])|(first|(refine goK (by assumption) ?_; iterate 4 (try clear hK K))|(refine zAd fun K hK => ?_)|((first|refine zAb hE rfl ?_|refine zAh ?_|((first|refine zAa hE 1 rfl rfl (by kernel_rfl) ?_|refine zAa hE 2 rfl rfl (by kernel_rfl) ?_|refine zAa hE 3 rfl rfl (by kernel_rfl) ?_|refine zAa hE 4 rfl rfl (by kernel_rfl) ?_); simp only [List.length_cons, List.length_nil, Nat.reduceAdd, Nat.reduceSub, List.take_succ_cons, List.take_zero, List.drop_succ_cons, List.drop_zero])); simp +contextual only [hnl, ↓kN, ↓kP, ↓kG, ↓qN, ↓qP, ↓qG, push_cast, seval, reduceCtorEq, Int.cast_ofNat_Int])|refine zAc ?_|((first|refine zAg ?_|refine zAf ?_); simp only [thenQ, zAk, if_true, if_false, Nat.reduceEqDiff, reduceCtorEq])|(refine zAe (by rfl) (fun hb => ?_) (fun hb => ?_) <;> (try simp only [b1, b2, b3, b4, reduceCtorEq, b5, b6] at hb) <;> (try omega))|refine zAi (by rfl) ?_ ?_|refine andS ?_|(refine ⟨fun hc => ?_, fun hc => ?_⟩)|(intro hc; try omega)))
    all_goals ((try refine zAh ?_); refine ⟨.inr rfl, ?_⟩; unfold doOut; rw [e]; dsimp only; refine zAj ?_ ?_ ?_ <;> simp only [push_cast, seval, reduceCtorEq, Int.cast_ofNat_Int])
  · have hl' : l.length = 3 := hl
    have hn2 := hn 2
    by_cases h1 : (a.length : Int) ≤ l.getD 0 0 ∨ (b.length : Int) ≤ l.getD 1 0
    · have e : doV 4 l (c, a, b, wst) = (4, (c, a, b, wst)) := by rw [doV4, if_pos h1]
      replace hnl := And.intro hnl hl'
      repeat' (first|(refine goK (by assumption) ?_; iterate 4 (try clear hK K))|(refine zAd fun K hK => ?_)|((first|refine zAb hE rfl ?_|refine zAh ?_|((first|refine zAa hE 1 rfl rfl (by kernel_rfl) ?_|refine zAa hE 2 rfl rfl (by kernel_rfl) ?_|refine zAa hE 3 rfl rfl (by kernel_rfl) ?_|refine zAa hE 4 rfl rfl (by kernel_rfl) ?_); simp only [List.length_cons, List.length_nil, Nat.reduceAdd, Nat.reduceSub, List.take_succ_cons, List.take_zero, List.drop_succ_cons, List.drop_zero])); simp +contextual only [hnl, ↓kN, ↓kP, ↓kG, ↓qN, ↓qP, ↓qG, push_cast, seval, reduceCtorEq, Int.cast_ofNat_Int])|refine zAc ?_|((first|refine zAg ?_|refine zAf ?_); simp only [thenQ, zAk, if_true, if_false, Nat.reduceEqDiff, reduceCtorEq])|(refine zAe (by rfl) (fun hb => ?_) (fun hb => ?_) <;> (try simp only [b1, b2, b3, b4, reduceCtorEq, b5, b6] at hb) <;> (try omega))|refine zAi (by rfl) ?_ ?_|refine andS ?_|(refine ⟨fun hc => ?_, fun hc => ?_⟩)|(intro hc; try omega))
      all_goals ((try refine zAh ?_); refine ⟨.inr rfl, ?_⟩; unfold doOut; rw [e]; dsimp only; refine zAj ?_ ?_ ?_ <;> simp only [push_cast, seval, reduceCtorEq, Int.cast_ofNat_Int])
    by_cases h2 : 99 < l.getD 2 0
    · have e : doV 4 l (c, a, b, wst) = (1, (c, a, b, wst)) := by rw [doV4, if_neg h1, if_pos h2]
      replace hnl := And.intro hnl hl'
      repeat' (first|(refine goK (by assumption) ?_; iterate 4 (try clear hK K))|(refine zAd fun K hK => ?_)|((first|refine zAb hE rfl ?_|refine zAh ?_|((first|refine zAa hE 1 rfl rfl (by kernel_rfl) ?_|refine zAa hE 2 rfl rfl (by kernel_rfl) ?_|refine zAa hE 3 rfl rfl (by kernel_rfl) ?_|refine zAa hE 4 rfl rfl (by kernel_rfl) ?_); simp only [List.length_cons, List.length_nil, Nat.reduceAdd, Nat.reduceSub, List.take_succ_cons, List.take_zero, List.drop_succ_cons, List.drop_zero])); simp +contextual only [hnl, ↓kN, ↓kP, ↓kG, ↓qN, ↓qP, ↓qG, push_cast, seval, reduceCtorEq, Int.cast_ofNat_Int])|refine zAc ?_|((first|refine zAg ?_|refine zAf ?_); simp only [thenQ, zAk, if_true, if_false, Nat.reduceEqDiff, reduceCtorEq])|(refine zAe (by rfl) (fun hb => ?_) (fun hb => ?_) <;> (try simp only [b1, b2, b3, b4, reduceCtorEq, b5, b6] at hb) <;> (try omega))|refine zAi (by rfl) ?_ ?_|refine andS ?_|(refine ⟨fun hc => ?_, fun hc => ?_⟩)|(intro hc; try omega))
      all_goals ((try refine zAh ?_); refine ⟨.inr rfl, ?_⟩; unfold doOut; rw [e]; dsimp only; refine zAj ?_ ?_ ?_ <;> simp only [push_cast, seval, reduceCtorEq, Int.cast_ofNat_Int])
    · have e : doV 4 l (c, a, b, wst) = (0, (c.set (l.getD 0 0).toNat ((c.getD (l.getD 0 0).toNat []).set (l.getD 1 0).toNat (l.getD 2 0)), a, b, wst)) := by rw [doV4, if_neg h1, if_neg h2]
      have q0 := hn0 (by omega)
      have q1 := hn1 (by omega)
      have hrl := ht.len (show (l.getD 0 0).toNat < c.length by omega)
      replace hnl := And.intro hnl (And.intro hl' hrl)
      repeat' (first|(refine goK (by assumption) ?_; iterate 4 (try clear hK K))|(refine zAd fun K hK => ?_)|((first|refine zAb hE rfl ?_|refine zAh ?_|((first|refine zAa hE 1 rfl rfl (by kernel_rfl) ?_|refine zAa hE 2 rfl rfl (by kernel_rfl) ?_|refine zAa hE 3 rfl rfl (by kernel_rfl) ?_|refine zAa hE 4 rfl rfl (by kernel_rfl) ?_); simp only [List.length_cons, List.length_nil, Nat.reduceAdd, Nat.reduceSub, List.take_succ_cons, List.take_zero, List.drop_succ_cons, List.drop_zero])); simp +contextual only [hnl, ↓kN, ↓kP, ↓kG, ↓qN, ↓qP, ↓qG, push_cast, seval, reduceCtorEq, Int.cast_ofNat_Int])|refine zAc ?_|((first|refine zAg ?_|refine zAf ?_); simp only [thenQ, zAk, if_true, if_false, Nat.reduceEqDiff, reduceCtorEq])|(refine zAe (by rfl) (fun hb => ?_) (fun hb => ?_) <;> (try simp only [b1, b2, b3, b4, reduceCtorEq, b5, b6] at hb) <;> (try omega))|refine zAi (by rfl) ?_ ?_|refine andS ?_|(refine ⟨fun hc => ?_, fun hc => ?_⟩)|(intro hc; try omega))
      all_goals ((try refine zAh ?_); refine ⟨.inr rfl, ?_⟩; unfold doOut; rw [e]; dsimp only; refine zAj ?_ ?_ ?_ <;> simp only [push_cast, seval, reduceCtorEq, Int.cast_ofNat_Int]; exact ⟨_, rfl⟩)
  · have hl' : l.length = 1 := hl
    by_cases h1 : 99 < l.getD 0 0
    · have e : doV 5 l (c, a, b, wst) = (1, (c, a, b, wst)) := by rw [doV5, if_pos h1]
      replace hnl := And.intro hnl hl'
      repeat' (first|(refine goK (by assumption) ?_; iterate 4 (try clear hK K))|(refine zAd fun K hK => ?_)|((first|refine zAb hE rfl ?_|refine zAh ?_|((first|refine zAa hE 1 rfl rfl (by kernel_rfl) ?_|refine zAa hE 2 rfl rfl (by kernel_rfl) ?_|refine zAa hE 3 rfl rfl (by kernel_rfl) ?_|refine zAa hE 4 rfl rfl (by kernel_rfl) ?_); simp only [List.length_cons, List.length_nil, Nat.reduceAdd, Nat.reduceSub, List.take_succ_cons, List.take_zero, List.drop_succ_cons, List.drop_zero])); simp +contextual only [hnl, ↓kN, ↓kP, ↓kG, ↓qN, ↓qP, ↓qG, push_cast, seval, reduceCtorEq, Int.cast_ofNat_Int])|refine zAc ?_|((first|refine zAg ?_|refine zAf ?_); simp only [thenQ, zAk, if_true, if_false, Nat.reduceEqDiff, reduceCtorEq])|(refine zAe (by rfl) (fun hb => ?_) (fun hb => ?_) <;> (try simp only [b1, b2, b3, b4, reduceCtorEq, b5, b6] at hb) <;> (try omega))|refine zAi (by rfl) ?_ ?_|refine andS ?_|(refine ⟨fun hc => ?_, fun hc => ?_⟩)|(intro hc; try omega))
      all_goals ((try refine zAh ?_); refine ⟨.inr rfl, ?_⟩; unfold doOut; rw [e]; dsimp only; refine zAj ?_ ?_ ?_ <;> simp only [push_cast, seval, reduceCtorEq, Int.cast_ofNat_Int])
    · have e : doV 5 l (c, a, b, wst) = (0, (c, a, b, l.getD 0 0)) := by rw [doV5, if_neg h1]
      replace hnl := And.intro hnl hl'
      repeat' (first|(refine goK (by assumption) ?_; iterate 4 (try clear hK K))|(refine zAd fun K hK => ?_)|((first|refine zAb hE rfl ?_|refine zAh ?_|((first|refine zAa hE 1 rfl rfl (by kernel_rfl) ?_|refine zAa hE 2 rfl rfl (by kernel_rfl) ?_|refine zAa hE 3 rfl rfl (by kernel_rfl) ?_|refine zAa hE 4 rfl rfl (by kernel_rfl) ?_); simp only [List.length_cons, List.length_nil, Nat.reduceAdd, Nat.reduceSub, List.take_succ_cons, List.take_zero, List.drop_succ_cons, List.drop_zero])); simp +contextual only [hnl, ↓kN, ↓kP, ↓kG, ↓qN, ↓qP, ↓qG, push_cast, seval, reduceCtorEq, Int.cast_ofNat_Int])|refine zAc ?_|((first|refine zAg ?_|refine zAf ?_); simp only [thenQ, zAk, if_true, if_false, Nat.reduceEqDiff, reduceCtorEq])|(refine zAe (by rfl) (fun hb => ?_) (fun hb => ?_) <;> (try simp only [b1, b2, b3, b4, reduceCtorEq, b5, b6] at hb) <;> (try omega))|refine zAi (by rfl) ?_ ?_|refine andS ?_|(refine ⟨fun hc => ?_, fun hc => ?_⟩)|(intro hc; try omega))
      all_goals ((try refine zAh ?_); refine ⟨.inr rfl, ?_⟩; unfold doOut; rw [e]; dsimp only; refine zAj ?_ ?_ ?_ <;> simp only [push_cast, seval, reduceCtorEq, Int.cast_ofNat_Int]; exact ⟨_, rfl⟩)
  · have hl' : l.length = 1 := hl
    refine zAK (t := AS.of [(0, .one (.box 0)), (1, .one (.val .int ((6 : Nat) : Int))), (2, .one (.val (.sl .int) l))] [] [(0, .rcd [.val (.sl (.sl .int)) c, .val (.sl .int) a, .val (.sl .int) b, .val .int wst])]) (by refine zAj ?_ ?_ ?_ <;> simp only [push_cast, seval, reduceCtorEq, Int.cast_ofNat_Int]) ?_
    by_cases h1 : zDf a b c wst = l.getD 0 0
    · have e : doV 6 l (c, a, b, wst) = (0, (c, a, b, wst)) := by rw [doV6, if_pos h1]
      replace hnl := And.intro hnl (And.intro hl' h1)
      repeat' (first|(refine goK (by assumption) ?_; iterate 4 (try clear hK K))|(refine zAd fun K hK => ?_)|((first|refine zAb hE rfl ?_|refine zAh ?_|((first|refine zAa hE 1 rfl rfl (by kernel_rfl) ?_|refine zAa hE 2 rfl rfl (by kernel_rfl) ?_|refine zAa hE 3 rfl rfl (by kernel_rfl) ?_|refine zAa hE 4 rfl rfl (by kernel_rfl) ?_); simp only [List.length_cons, List.length_nil, Nat.reduceAdd, Nat.reduceSub, List.take_succ_cons, List.take_zero, List.drop_succ_cons, List.drop_zero])); simp +contextual only [hnl, ↓kN, ↓kP, ↓kG, ↓qN, ↓qP, ↓qG, push_cast, seval, reduceCtorEq, Int.cast_ofNat_Int])|refine zAc ?_|((first|refine zAg ?_|refine zAf ?_); simp only [thenQ, zAk, if_true, if_false, Nat.reduceEqDiff, reduceCtorEq])|(refine zAe (by rfl) (fun hb => ?_) (fun hb => ?_) <;> (try simp only [b1, b2, b3, b4, reduceCtorEq, b5, b6] at hb) <;> (try omega))|refine zAi (by rfl) ?_ ?_|refine andS ?_|(refine ⟨fun hc => ?_, fun hc => ?_⟩)|(intro hc; try omega))
      all_goals ((try refine zAh ?_); refine ⟨.inr rfl, ?_⟩; unfold doOut; rw [e]; dsimp only; refine zAj ?_ ?_ ?_ <;> simp only [push_cast, seval, reduceCtorEq, Int.cast_ofNat_Int]; exact ⟨_, rfl⟩)
    · have e : doV 6 l (c, a, b, wst) = (7, (c, a, b, wst)) := by rw [doV6, if_neg h1]
      replace hnl := And.intro hnl (And.intro hl' (eq_false h1))
      repeat' (first|(refine goK (by assumption) ?_; iterate 4 (try clear hK K))|(refine zAd fun K hK => ?_)|((first|refine zAb hE rfl ?_|refine zAh ?_|((first|refine zAa hE 1 rfl rfl (by kernel_rfl) ?_|refine zAa hE 2 rfl rfl (by kernel_rfl) ?_|refine zAa hE 3 rfl rfl (by kernel_rfl) ?_|refine zAa hE 4 rfl rfl (by kernel_rfl) ?_); simp only [List.length_cons, List.length_nil, Nat.reduceAdd, Nat.reduceSub, List.take_succ_cons, List.take_zero, List.drop_succ_cons, List.drop_zero])); simp +contextual only [hnl, ↓kN, ↓kP, ↓kG, ↓qN, ↓qP, ↓qG, push_cast, seval, reduceCtorEq, Int.cast_ofNat_Int])|refine zAc ?_|((first|refine zAg ?_|refine zAf ?_); simp only [thenQ, zAk, if_true, if_false, Nat.reduceEqDiff, reduceCtorEq])|(refine zAe (by rfl) (fun hb => ?_) (fun hb => ?_) <;> (try simp only [b1, b2, b3, b4, reduceCtorEq, b5, b6] at hb) <;> (try omega))|refine zAi (by rfl) ?_ ?_|refine andS ?_|(refine ⟨fun hc => ?_, fun hc => ?_⟩)|(intro hc; try omega))
      all_goals ((try refine zAh ?_); refine ⟨.inr rfl, ?_⟩; unfold doOut; rw [e]; dsimp only; refine zAj ?_ ?_ ?_ <;> simp only [push_cast, seval, reduceCtorEq, Int.cast_ofNat_Int])
end Go.Proofs.YtlgkplnifaoeeaaGreatDoor
namespace Go.Proofs.YtlgkplnifaoeeaaGreatDoor
open Go.RowKit Go.VS Go.ChangeMaps Go.MapKept
def formsL : List (ByteArray × Int × Int) := [(pPut, 0, 2), (pTake, 1, 2), (pWant, 2, 2), (pDrop, 3, 2), (pCost, 4, 3), (zTO, 5, 1), (zTN, 6, 1)]
structure MapAt (w0 w : World) (b : Nat) (l : List (ByteArray × Int × Int)) : Prop where
  new : w0.heap.size ≤ b
  keep : Keep (fun _ => False) w0 w
  at' : ∃ es clock, w.heap[b]? = some (.map es clock) ∧ MapIs es l
theorem zPn (w : World) : MapAt w (w.alloc (.map #[] 0)) w.heap.size [] :=
  ⟨Nat.le_refl _, ⟨rfl, rfl, rfl, by simp, fun k hk _ => Below.heap_alloc w _ k hk⟩, #[], 0, heap_alloc_new w _, rfl⟩
theorem zSo {P : Program} {t k e : TypeId} (ht : P.underlying t = some (.map k e)) (hk : P.underlying k = some .string) {w0 w : World} {b : Nat} {l : List (ByteArray × Int × Int)} (h : MapAt w0 w b l) (s : ByteArray) (y : Int × Int) (hs : smHas l s = false) :
    ∃ w', (Instr.mapUpdate t (.map (some b)) (.string s) (.agg #[.int .i64 y.1, .int .i64 y.2])).run P w = .ok () w' ∧ MapAt w0 w' b (l ++ [(s, y)]) := by
  obtain ⟨h1, h2, es, cl, hb, hm⟩ := h
  have hck : (Instr.checkKey false 10000 k (.string s)).run P w = .ok () w := by rw [show (10000 : Nat) = 9999 + 1 from rfl]; unfold Instr.checkKey; simp only [Sem.run_bind, run_underlying hk, Result.andThen_ok, Sem.run_pure]
  have hf : Instr.findNow .string (.string s) es.toList 0 = some none := by
    rcases zEL s es.toList l 0 hm with ⟨h5, _⟩ | ⟨j, p, _, h6⟩
    · exact h5
    · rw [smHas, h6] at hs; cases hs
  have hfind : (Instr.findKey k (.string s) es.toList).run P w = .ok none w := by
    simp only [Instr.findKey, Sem.run_bind, run_underlying hk, Result.andThen_ok, hf, Sem.run_pure]
  refine ⟨setBlock w b (.map (es.push ⟨.string s, .agg #[.int .i64 y.1, .int .i64 y.2], cl⟩) (cl + 1)), ?_, h1, ?_, _, _, heap_setBlock_same hb _, ?_⟩
  · have hset : (setObj b (.map (es.push ⟨.string s, .agg #[.int .i64 y.1, .int .i64 y.2], cl⟩) (cl + 1))).run P w = .ok () (setBlock w b (.map (es.push ⟨.string s, .agg #[.int .i64 y.1, .int .i64 y.2], cl⟩) (cl + 1))) := by
      exact run_setObj_map _ hb
    simp only [Instr.mapUpdate, Sem.run_bind, run_underlying ht, Result.andThen_ok, run_getObj_map w b es cl hb, hck, hfind]
    exact hset
  · exact h2.step (M := fun k => k = b) ⟨rfl, rfl, rfl, by simp [setBlock], fun k hk hne => heap_setBlock_other hb _ hne⟩ (fun k hk hlt => by omega)
  · show ((es.push _).toList.map _) = _
    rw [Array.toList_push, List.map_append, List.map_append, hm]
    rfl
theorem zN6 {P : Program} {ops : Array Oper} {rest : List Oper} {o : Oper} {a : Act} {w w0 : World} {Q : Exit → Act → World → Prop} (hg : o.guard = none) {t : TypeId} {mo x v : Operand} (hop : o.op = .insert t mo x v) {k e : TypeId}
    (ht : P.underlying t = some (.map k e)) (hk : P.underlying k = some .string) {b : Nat} {s : ByteArray} {n m : Int} {l : List (ByteArray × Int × Int)} (hm : a.eval mo = .map (some b)) (hx : a.eval x = .string s) (hv : a.eval v = .agg #[.int .i64 n, .int .i64 m])
    (h : MapAt w0 w b l) (hs : smHas l s = false) (K : ∀ w', MapAt w0 w' b (l ++ [(s, n, m)]) → wpList P ops Q rest (a.put o.dst undef) w') : wpList P ops Q (o :: rest) a w := by
  refine wpList_plain hg fun K' hK' => ?_
  obtain ⟨w', hrun, h'⟩ := zSo ht hk h s (n, m) hs
  unfold Oper.wp
  simp [execOp, hop, hm, hx, hv, hrun, Result.andThen]
  exact hK' _ _ (K w' h')
theorem zNf (n m : Int) (w : World) : (Instr.build 164 #[(0, .int .i64 n), (1, .int .i64 m)]).run Tryz.prog w = .ok (.agg #[.int .i64 n, .int .i64 m]) w := by kernel_rfl
set_option maxRecDepth 20000 in
set_option maxHeartbeats 1000000 in
theorem zK5 (w : World) : Calls Tryz.prog 123 #[] w fun e w' => ∃ b, e = .returned (.map (some b)) ∧ MapAt w w' b formsL := by
  have h0 := zPn w
  have hb := zNf
  have hmk := fun w => run_makeMap (P := Tryz.prog) 166 w
  go_enter Tryz.func123, Tryz.ntmps123
  go_wp2_with (refine zN6 rfl rfl Tryz.underlying166 Tryz.underlying9 (b := w.heap.size) rfl rfl rfl (by assumption) (by decide +kernel) ?_; intro w' h0')
  go_ret
  exact ⟨_, rfl, by assumption⟩
@[push_cast] def zMg : Con := ⟨[], fun _ => True, fun _ => { res := [.val .smap formsL] }⟩
theorem zNg : FnSpec Tryz.prog 123 zMg := by
  refine zBm ⟨_, Tryz.func123, by kernel_rfl, rfl⟩ (fun _ => rfl) (fun _ => rfl) fun C γ x vs hpre hen => ?_
  have hlt := hen.ownlt
  have hargs := hen.args
  obtain rfl : vs = [] := hargs
  refine (zK5 C.w0).mono ?_
  rintro e w' ⟨b, rfl, h1, h2, es, cl, hb, hm⟩
  refine ⟨[_], rfl, ⟨_, [], rfl, ⟨_, ⟨b, es, cl, rfl, ⟨.inr (.inl h1), ?_⟩, ?_, hb, hm⟩, rfl⟩, rfl, rfl, rfl⟩, h2⟩
  · cases ho : γ.own b with
    | none => rfl
    | some l => have := hlt b l ho; omega
  · exact (Array.getElem?_eq_some_iff.1 hb).1
end Go.Proofs.YtlgkplnifaoeeaaGreatDoor
namespace Go.Proofs.YtlgkplnifaoeeaaGreatDoor
open Go.RowKit Go.VS
theorem zBw {x y : Bool} (o : x = true → y = true) (h : y = false) : x = false := by
  cases x with
  | false => rfl
  | true => rw [o rfl] at h; cases h
structure StateSz (s : State) : Prop where
  c : s.1.length ≤ 1000
  row : ∀ k, k < s.1.length → (s.1.getD k []).length ≤ 1000
  a : s.2.1.length ≤ 1000
  b : s.2.2.1.length ≤ 1000
abbrev stSh : Sh := .prod (.sl (.sl .int)) (.prod (.sl .int) (.prod (.sl .int) .int))
def zCc (s : State) : AS := AS.of [(2, .one (.box 2))] [(27, .deep 25 3 .int s.1), (8, .flat 3 .int s.2.1), (11, .flat 3 .int s.2.2.1)] [(2, .rcd [.ref 27, .ref 8, .ref 11, .val .int s.2.2.2])]
def zIl (s : State) : AS := AS.of [(2, .one (.box 2))] [] [(2, .rcd [.val (.sl (.sl .int)) s.1, .val (.sl .int) s.2.1, .val (.sl .int) s.2.2.1, .val .int s.2.2.2])]
structure CloneQ (nl : Nat) (s : State) (e : Exit) (t : AS) : Prop where
  e : e = .normal ∨ e = .ret
  h : Weak nl t (zCc s)
set_option maxHeartbeats 4000000 in
theorem zJh {C : Ctx} (hE : KnowOK C.P (know [(119, zE4)] [])) (hnl : C.nl = 0) (s : State) (hs : StateSz s) {code : Code} (hb : Tryz.f74.body = some code) :
    tri C 31 code (CloneQ 0 s) (AS.of [(0, .one (.val stSh s))] [] []) := by
  obtain ⟨c, a, b, w⟩ := s
  obtain ⟨hc, hrow, ha, hbl⟩ := hs
  dsimp only at *
  have hb' : code = (Tryz.f74.body).getD .skip := by rw [hb]; rfl
  subst hb'
  clear hb
  show tri C 31 _ _ _
  dsimp only [Tryz.f74]
  simp only [Option.getD_some]
  have hnl0 := hnl
  replace hnl := And.intro hnl (And.intro ha hbl)
  repeat' (first|(refine goK (by assumption) ?_; iterate 4 (try clear hK K))|(refine zAd fun K hK => ?_)|((first|refine zAb hE rfl ?_|refine zAh ?_); simp +contextual only [hnl, ↓kN, ↓kP, ↓kG, ↓qN, ↓qP, ↓qG, push_cast, seval, reduceCtorEq, Int.cast_ofNat_Int])|refine zAc ?_|((first|refine zAg ?_|refine zAf ?_); simp only [thenQ, zAk, if_true, if_false, Nat.reduceEqDiff, reduceCtorEq])|(refine zAe (by rfl) (fun hb => ?_) (fun hb => ?_) <;> (try simp only [b1, b2, b3, b4, reduceCtorEq, b5, b6] at hb) <;> (try omega))|refine zAi (by rfl) ?_ ?_|refine andS ?_|(refine ⟨fun hc => ?_, fun hc => ?_⟩)|(intro hc; try omega))
  refine zEW hE (fun D s => (D 8 = true → D 2 = true) ∧
    (D 8 = true → D 5 = true) ∧
    (D 10 = true → D 8 = true) ∧
    (D 10 = true → D 9 = true) ∧
    s.boxes 1 = some (.one (.val (.prod (.sl (.sl .int)) (.prod (.sl .int) (.prod (.sl .int) .int))) (c, a, b, w))) ∧
    s.boxes 2 = some (.rcd [.nils, .nils, .nils, .val .int 0]) ∧
    s.env 1 = .one (.box 1) ∧
    s.env 2 = .one (.box 2) ∧
    (D 2 = true → s.roots 8 = some (.flat 3 .int a)) ∧
    (D 5 = true → s.roots 11 = some (.flat 3 .int b)) ∧
    (D 0 = true → s.env 6 = .one (.boxf 1 4 1 1)) ∧
    (D 1 = true → s.env 7 = .one (.val (.sl .int) a)) ∧
    (D 2 = true → s.env 8 = .one (.ref 8)) ∧
    (D 3 = true → s.env 9 = .one (.boxf 1 4 2 2)) ∧
    (D 4 = true → s.env 10 = .one (.val (.sl .int) b)) ∧
    (D 5 = true → s.env 11 = .one (.ref 11)) ∧
    (D 6 = true → s.env 12 = .one (.boxf 1 4 3 3)) ∧
    (D 7 = true → s.env 13 = .one (.val .int w)) ∧
    (D 8 = true → s.env 14 = .rcd [.nils, .ref 8, .ref 11, .val .int w]) ∧
    (D 9 = true → s.env 3 = .one (.box 3)) ∧
    (D 9 = true → D 10 = false → s.boxes 3 = some (.rcd [.nils, .nils, .nils, .val .int 0])) ∧
    (D 10 = true → s.boxes 3 = some (.rcd [.nils, .ref 8, .ref 11, .val .int w]))) rfl (by kernel_rfl) ?_ ?_ ?_
  · dsimp only
    simp only [push_cast, seval, reduceCtorEq, Int.cast_ofNat_Int]
  · refine ⟨fun D s h0 hp hI => ?_, fun D s h0 hp hI => ?_, fun D s h0 hp hI => ?_, fun D s h0 hp hI => ?_, fun D s h0 hp hI => ?_, fun D s h0 hp hI => ?_, fun D s h0 hp hI => ?_, fun D s h0 hp hI => ?_, fun D s h0 hp hI => ?_, fun D s h0 hp hI => ?_, fun D s h0 hp hI => ?_, trivial⟩
    all_goals obtain ⟨o1, o2, o3, o4, q1, q2, e1, e2, r8, r11, f0, f1, f2, f3, f4, f5, f6, f7, f8, f9, g9, f10⟩ := hI
    all_goals replace hp := List.all_eq_true.1 hp
    · simp +contextual only [hnl, h0, o1, o2, o3, o4, q1, q2, e1, e2, r8, r11, f0, f1, f2, f3, f4, f5, f6, f7, f8, f9, g9, f10, setD, ↓kN, ↓kP, push_cast, seval, reduceCtorEq, Int.cast_ofNat_Int]
    · have d0 := hp 0 (by decide)
      simp +contextual only [d0, hnl, h0, o1, o2, o3, o4, q1, q2, e1, e2, r8, r11, f0, f1, f2, f3, f4, f5, f6, f7, f8, f9, g9, f10, setD, ↓kN, ↓kP, push_cast, seval, reduceCtorEq, Int.cast_ofNat_Int]
    · have d1 := hp 1 (by decide)
      have n8 := zBw o1 h0
      have n10 := zBw o3 n8
      simp +contextual only [d1, n8, n10, hnl, h0, o1, o2, o3, o4, q1, q2, e1, e2, r8, r11, f0, f1, f2, f3, f4, f5, f6, f7, f8, f9, g9, f10, setD, ↓kN, ↓kP, push_cast, seval, reduceCtorEq, Int.cast_ofNat_Int]
    · simp +contextual only [hnl, h0, o1, o2, o3, o4, q1, q2, e1, e2, r8, r11, f0, f1, f2, f3, f4, f5, f6, f7, f8, f9, g9, f10, setD, ↓kN, ↓kP, push_cast, seval, reduceCtorEq, Int.cast_ofNat_Int]
    · have d3 := hp 3 (by decide)
      simp +contextual only [d3, hnl, h0, o1, o2, o3, o4, q1, q2, e1, e2, r8, r11, f0, f1, f2, f3, f4, f5, f6, f7, f8, f9, g9, f10, setD, ↓kN, ↓kP, push_cast, seval, reduceCtorEq, Int.cast_ofNat_Int]
    · have d4 := hp 4 (by decide)
      have n8 := zBw o2 h0
      have n10 := zBw o3 n8
      simp +contextual only [d4, n8, n10, hnl, h0, o1, o2, o3, o4, q1, q2, e1, e2, r8, r11, f0, f1, f2, f3, f4, f5, f6, f7, f8, f9, g9, f10, setD, ↓kN, ↓kP, push_cast, seval, reduceCtorEq, Int.cast_ofNat_Int]
    · simp +contextual only [hnl, h0, o1, o2, o3, o4, q1, q2, e1, e2, r8, r11, f0, f1, f2, f3, f4, f5, f6, f7, f8, f9, g9, f10, setD, ↓kN, ↓kP, push_cast, seval, reduceCtorEq, Int.cast_ofNat_Int]
    · have d6 := hp 6 (by decide)
      simp +contextual only [d6, hnl, h0, o1, o2, o3, o4, q1, q2, e1, e2, r8, r11, f0, f1, f2, f3, f4, f5, f6, f7, f8, f9, g9, f10, setD, ↓kN, ↓kP, push_cast, seval, reduceCtorEq, Int.cast_ofNat_Int]
    · have d2 := hp 2 (by decide)
      have d5 := hp 5 (by decide)
      have d7 := hp 7 (by decide)
      have n10 := zBw o3 h0
      simp +contextual only [d2, d5, d7, n10, hnl, h0, o1, o2, o3, o4, q1, q2, e1, e2, r8, r11, f0, f1, f2, f3, f4, f5, f6, f7, f8, f9, g9, f10, setD, ↓kN, ↓kP, push_cast, seval, reduceCtorEq, Int.cast_ofNat_Int]
    · have n10 := zBw o4 h0
      simp +contextual only [n10, hnl, h0, o1, o2, o3, o4, q1, q2, e1, e2, r8, r11, f0, f1, f2, f3, f4, f5, f6, f7, f8, f9, g9, f10, setD, ↓kN, ↓kP, push_cast, seval, reduceCtorEq, Int.cast_ofNat_Int]
    · have d8 := hp 8 (by decide)
      have d9 := hp 9 (by decide)
      simp +contextual only [d8, d9, hnl, h0, o1, o2, o3, o4, q1, q2, e1, e2, r8, r11, f0, f1, f2, f3, f4, f5, f6, f7, f8, f9, g9, f10, setD, ↓kN, ↓kP, push_cast, seval, reduceCtorEq, Int.cast_ofNat_Int]
  intro D s hD hI
  obtain ⟨o1, o2, o3, o4, q1, q2, e1, e2, r8, r11, f0, f1, f2, f3, f4, f5, f6, f7, f8, f9, g9, f10⟩ := hI
  have v1 := r8 (hD 2 (by decide))
  have v2 := r11 (hD 5 (by decide))
  have v3 := f10 (hD 10 (by decide))
  have v4 := f9 (hD 9 (by decide))
  refine goK hK ?_
  refine zAK (t := AS.of [(1, .one (.box 1)), (2, .one (.box 2)), (3, .one (.box 3))] [(8, .flat 3 .int a), (11, .flat 3 .int b)] [(1, .one (.val stSh (c, a, b, w))), (2, .rcd [.nils, .nils, .nils, .val .int 0]), (3, .rcd [.nils, .ref 8, .ref 11, .val .int w])]) ?_ ?_
  · refine zAj ?_ ?_ ?_ <;> simp only [v1, v2, v3, v4, q1, q2, e1, e2, push_cast, seval, reduceCtorEq, Int.cast_ofNat_Int]
  clear hK hD
  repeat' (first|(refine goK (by assumption) ?_; iterate 4 (try clear hK K))|(refine zAd fun K hK => ?_)|((first|refine zAb hE rfl ?_|refine zAh ?_); simp +contextual only [hnl, ↓kN, ↓kP, ↓kG, ↓qN, ↓qP, ↓qG, push_cast, seval, reduceCtorEq, Int.cast_ofNat_Int])|refine zAc ?_|((first|refine zAg ?_|refine zAf ?_); simp only [thenQ, zAk, if_true, if_false, Nat.reduceEqDiff, reduceCtorEq])|(refine zAe (by rfl) (fun hb => ?_) (fun hb => ?_) <;> (try simp only [b1, b2, b3, b4, reduceCtorEq, b5, b6] at hb) <;> (try omega))|refine zAi (by rfl) ?_ ?_|refine andS ?_|(refine ⟨fun hc => ?_, fun hc => ?_⟩)|(intro hc; try omega))
  refine zAl (fun k : Nat => AS.of [(2, .one (.box 2)), (3, .one (.box 3)), (16, .one (.val (.sl (.sl .int)) c)), (17, .I (c.length : Nat)), (18, .I (k : Nat))] [(27, .deep 25 3 .int (c.take k)), (8, .flat 3 .int a), (11, .flat 3 .int b)] [(2, .rcd [.nils, .nils, .nils, .val .int 0]), (3, .rcd [.ref 27, .ref 8, .ref 11, .val .int w])]) (fun k => k ≤ c.length) (fun k => c.length - k) 0 (Nat.zero_le _) ?_ ?_
  · refine zAj ?_ ?_ ?_ <;> simp only [push_cast, seval, reduceCtorEq, Int.cast_ofNat_Int]
    all_goals first | omega | rfl | exact ⟨by omega, rfl⟩ | skip
  intro k hk K' hL
  rcases Nat.lt_or_ge k c.length with hkl | hkl
  · have hrk := hrow k hkl
    have htl : (c.take k).length ≤ 1000000 := by rw [List.length_take]; omega
    have hst : c.take k ++ [c.getD k []] = c.take (k + 1) := by
      rw [List.take_succ_eq_append_getElem hkl]
      simp [List.getD_eq_getElem?_getD, hkl]
    replace hnl := And.intro hnl (And.intro hrk (And.intro htl hst))
    repeat' (first|(refine goK (by assumption) ?_; iterate 4 (try clear hK K))|(refine zAd fun K hK => ?_)|((first|refine zAb hE rfl ?_|refine zAh ?_); simp +contextual only [hnl, ↓kN, ↓kP, ↓kG, ↓qN, ↓qP, ↓qG, push_cast, seval, reduceCtorEq, Int.cast_ofNat_Int])|refine zAc ?_|((first|refine zAg ?_|refine zAf ?_); simp only [thenQ, zAk, if_true, if_false, Nat.reduceEqDiff, reduceCtorEq])|(refine zAe (by rfl) (fun hb => ?_) (fun hb => ?_) <;> (try simp only [b1, b2, b3, b4, reduceCtorEq, b5, b6] at hb) <;> (try omega))|refine zAi (by rfl) ?_ ?_|refine andS ?_|(refine ⟨fun hc => ?_, fun hc => ?_⟩)|(intro hc; try omega))
    refine zEW hE (fun D s => (D 5 = true → D 1 = true) ∧
      (D 5 = true → D 4 = true) ∧
      (D 4 = true → D 3 = true) ∧
      (D 7 = true → D 5 = true) ∧
      s.env 2 = .one (.box 2) ∧
      s.env 3 = .one (.box 3) ∧
      s.env 5 = .one (.val (.sl .int) (c.getD k [])) ∧
      s.env 16 = .one (.val (.sl (.sl .int)) c) ∧
      s.env 17 = .I (c.length : Nat) ∧
      s.env 18 = .I (k : Nat) ∧
      s.boxes 2 = some (.rcd [.nils, .nils, .nils, .val .int 0]) ∧
      s.roots 8 = some (.flat 3 .int a) ∧
      s.roots 11 = some (.flat 3 .int b) ∧
      s.roots 27 = some (.deep 25 3 .int (if D 5 = true then c.take (k + 1) else c.take k)) ∧
      (D 3 = true → D 5 = false → s.roots 25 = some (.flat 3 .int (c.getD k []))) ∧
      (D 5 = false → s.boxes 3 = some (.rcd [.ref 27, .ref 8, .ref 11, .val .int w])) ∧
      (D 5 = true → D 7 = false → s.boxes 3 = some (.rcd [.any, .ref 8, .ref 11, .val .int w])) ∧
      (D 7 = true → s.boxes 3 = some (.rcd [.ref 27, .ref 8, .ref 11, .val .int w])) ∧
      (D 0 = true → s.env 22 = .one (.boxf 3 4 0 0)) ∧
      (D 1 = true → D 5 = false → s.env 23 = .one (.ref 27)) ∧
      (D 2 = true → s.env 24 = .one (.val (.sl .int) (c.getD k []))) ∧
      (D 3 = true → D 5 = false → s.env 25 = .one (.ref 25)) ∧
      (D 4 = true → D 5 = false → s.env 26 = .one (.lits 25)) ∧
      (D 5 = true → s.env 27 = .one (.ref 27)) ∧
      (D 6 = true → s.env 28 = .one (.boxf 3 4 0 0))) rfl (by kernel_rfl) ?_ ?_ ?_
    · dsimp only
      simp only [push_cast, seval, reduceCtorEq, Int.cast_ofNat_Int]
    · refine ⟨fun D s h0 hp hI => ?_, fun D s h0 hp hI => ?_, fun D s h0 hp hI => ?_, fun D s h0 hp hI => ?_, fun D s h0 hp hI => ?_, fun D s h0 hp hI => ?_, fun D s h0 hp hI => ?_, fun D s h0 hp hI => ?_, trivial⟩
      all_goals obtain ⟨o1, o2, o3, o4, e2, e3, e5, e16, e17, e18, q2, r8, r11, r27, r25, q3, q5, q7, f0, f1, f2, f3, f4, f5, f6⟩ := hI
      all_goals replace hp := List.all_eq_true.1 hp
      · simp +contextual only [hnl, h0, o1, o2, o3, o4, e2, e3, e5, e16, e17, e18, q2, r8, r11, r27, r25, q3, q5, q7, f0, f1, f2, f3, f4, f5, f6, setD, ↓kN, ↓kP, push_cast, seval, reduceCtorEq, Int.cast_ofNat_Int]
      · have d0 := hp 0 (by decide)
        have n5 := zBw o1 h0
        have n7 := zBw o4 n5
        simp +contextual only [d0, n5, n7, hnl, h0, o1, o2, o3, o4, e2, e3, e5, e16, e17, e18, q2, r8, r11, r27, r25, q3, q5, q7, f0, f1, f2, f3, f4, f5, f6, setD, ↓kN, ↓kP, push_cast, seval, reduceCtorEq, Int.cast_ofNat_Int]
      · simp +contextual only [hnl, h0, o1, o2, o3, o4, e2, e3, e5, e16, e17, e18, q2, r8, r11, r27, r25, q3, q5, q7, f0, f1, f2, f3, f4, f5, f6, setD, ↓kN, ↓kP, push_cast, seval, reduceCtorEq, Int.cast_ofNat_Int]
      · have d2 := hp 2 (by decide)
        have n4 := zBw o3 h0
        have n5 := zBw o2 n4
        have n7 := zBw o4 n5
        simp +contextual only [d2, n4, n5, n7, hnl, h0, o1, o2, o3, o4, e2, e3, e5, e16, e17, e18, q2, r8, r11, r27, r25, q3, q5, q7, f0, f1, f2, f3, f4, f5, f6, setD, ↓kN, ↓kP, push_cast, seval, reduceCtorEq, Int.cast_ofNat_Int]
      · have d3 := hp 3 (by decide)
        have n5 := zBw o2 h0
        have n7 := zBw o4 n5
        simp +contextual only [d3, n5, n7, hnl, h0, o1, o2, o3, o4, e2, e3, e5, e16, e17, e18, q2, r8, r11, r27, r25, q3, q5, q7, f0, f1, f2, f3, f4, f5, f6, setD, ↓kN, ↓kP, push_cast, seval, reduceCtorEq, Int.cast_ofNat_Int]
      · have d1 := hp 1 (by decide)
        have d4 := hp 4 (by decide)
        have n7 := zBw o4 h0
        have d3 := o3 d4
        simp +contextual only [d1, d4, n7, d3, hnl, h0, o1, o2, o3, o4, e2, e3, e5, e16, e17, e18, q2, r8, r11, r27, r25, q3, q5, q7, f0, f1, f2, f3, f4, f5, f6, setD, ↓kN, ↓kP, push_cast, seval, reduceCtorEq, Int.cast_ofNat_Int]
      · simp +contextual only [hnl, h0, o1, o2, o3, o4, e2, e3, e5, e16, e17, e18, q2, r8, r11, r27, r25, q3, q5, q7, f0, f1, f2, f3, f4, f5, f6, setD, ↓kN, ↓kP, push_cast, seval, reduceCtorEq, Int.cast_ofNat_Int]
      · have d5 := hp 5 (by decide)
        have d6 := hp 6 (by decide)
        simp +contextual only [d5, d6, hnl, h0, o1, o2, o3, o4, e2, e3, e5, e16, e17, e18, q2, r8, r11, r27, r25, q3, q5, q7, f0, f1, f2, f3, f4, f5, f6, setD, ↓kN, ↓kP, push_cast, seval, reduceCtorEq, Int.cast_ofNat_Int]
    intro D s hD hI
    obtain ⟨o1, o2, o3, o4, e2, e3, e5, e16, e17, e18, q2, r8, r11, r27, r25, q3, q5, q7, f0, f1, f2, f3, f4, f5, f6⟩ := hI
    have v1 := r27
    rw [if_pos (hD 5 (by decide))] at v1
    have v3 := q7 (hD 7 (by decide))
    refine goK hK ?_
    refine zAK (t := AS.of [(2, .one (.box 2)), (3, .one (.box 3)), (16, .one (.val (.sl (.sl .int)) c)), (17, .I (c.length : Nat)), (18, .I (k : Nat))] [(27, .deep 25 3 .int (c.take (k + 1))), (8, .flat 3 .int a), (11, .flat 3 .int b)] [(2, .rcd [.nils, .nils, .nils, .val .int 0]), (3, .rcd [.ref 27, .ref 8, .ref 11, .val .int w])]) ?_ ?_
    · refine zAj ?_ ?_ ?_ <;> simp only [v1, v3, r8, r11, q2, e2, e3, e16, e17, e18, push_cast, seval, reduceCtorEq, Int.cast_ofNat_Int]
    clear hK hD
    repeat' (first|(refine goK (by assumption) ?_; iterate 4 (try clear hK K))|(refine zAd fun K hK => ?_)|((first|refine zAb hE rfl ?_|refine zAh ?_); simp +contextual only [hnl, ↓kN, ↓kP, ↓kG, ↓qN, ↓qP, ↓qG, push_cast, seval, reduceCtorEq, Int.cast_ofNat_Int])|refine zAc ?_|((first|refine zAg ?_|refine zAf ?_); simp only [thenQ, zAk, if_true, if_false, Nat.reduceEqDiff, reduceCtorEq])|(refine zAe (by rfl) (fun hb => ?_) (fun hb => ?_) <;> (try simp only [b1, b2, b3, b4, reduceCtorEq, b5, b6] at hb) <;> (try omega))|refine zAi (by rfl) ?_ ?_|refine andS ?_|(refine ⟨fun hc => ?_, fun hc => ?_⟩)|(intro hc; try omega))
    refine hL _ (k + 1) (by omega) (by omega) ?_
    refine zAj ?_ ?_ ?_ <;> simp only [push_cast, seval, reduceCtorEq, Int.cast_ofNat_Int]
  · obtain rfl : k = c.length := by omega
    clear hL
    repeat' (first|(refine goK (by assumption) ?_; iterate 4 (try clear hK K))|(refine zAd fun K hK => ?_)|((first|refine zAb hE rfl ?_|refine zAh ?_); simp +contextual only [hnl, ↓kN, ↓kP, ↓kG, ↓qN, ↓qP, ↓qG, push_cast, seval, reduceCtorEq, Int.cast_ofNat_Int])|refine zAc ?_|((first|refine zAg ?_|refine zAf ?_); simp only [thenQ, zAk, if_true, if_false, Nat.reduceEqDiff, reduceCtorEq])|(refine zAe (by rfl) (fun hb => ?_) (fun hb => ?_) <;> (try simp only [b1, b2, b3, b4, reduceCtorEq, b5, b6] at hb) <;> (try omega))|refine zAi (by rfl) ?_ ?_|refine andS ?_|(refine ⟨fun hc => ?_, fun hc => ?_⟩)|(intro hc; try omega))
    all_goals ((try refine zAh ?_); refine ⟨.inr rfl, ?_⟩; unfold zCc; dsimp only; refine zAj ?_ ?_ ?_ <;> simp only [push_cast, seval, reduceCtorEq, Int.cast_ofNat_Int]; exact .inl (by rw [List.take_length]))
def zOv : Know := know [(119, zE4)] []
theorem zJg : KnowOK Tryz.prog zOv := zAm (all_cons zM5 all_nil) all_nil all_nil
@[push_cast] def zDi : Con := ⟨[.dat stSh], fun (x : State × Unit) => StateSz x.1, fun (x : State × Unit) => { res := [.val stSh x.1] }⟩
theorem stClone_spec : FnSpec Tryz.prog 74 zDi := by
  refine FnSpec.of_tri' (E := zOv) zJg Tryz.func74 rfl rfl (by kernel_rfl) ?_
  intro C x hE hnl hfit hpre
  simp only [Tryz.ntmps74, Tryz.results74, lends] at hnl ⊢
  obtain ⟨s, _⟩ := x
  refine zMU (zMU (zRC (zJh hE hnl s hpre rfl) ?_))
  rintro e t ⟨he, hw⟩
  refine ⟨zCc s, by rw [hnl]; exact hw, zIl s, ?_, ?_⟩
  · unfold zCc zIl
    refine zAj ?_ ?_ ?_ <;> simp only [push_cast, seval, reduceCtorEq, Int.cast_ofNat_Int]
  · unfold zIl
    rcases he with rfl | rfl <;> simp only [zOv, hnl, push_cast, seval, reduceCtorEq, Int.cast_ofNat_Int]
end Go.Proofs.YtlgkplnifaoeeaaGreatDoor
namespace Go.Proofs.YtlgkplnifaoeeaaGreatDoor
open Go.RowKit Go.VS
def hw (t : ByteArray) (i : Nat) : ByteArray := (zAP t spS).getD i ByteArray.empty
def zGM (s : ByteArray) : Bool := zDJ s && decide (0 ≤ atoiV s) && decide (atoiV s ≤ 99999) && decide (itoaV (atoiV s) = s)
def hform (t : ByteArray) : Int × Int := smGet formsL (hw t 0)
def hpOK (t : ByteArray) : Bool := decide (1 ≤ t.size ∧ t.size ≤ 30) && smHas formsL (hw t 0) && decide (((zAP t spS).length : Int) = (hform t).2 + 1) && (List.range ((zAP t spS).length - 1)).all fun i => zGM (hw t (i + 1))
def zJs (t : ByteArray) (k : Nat) : List Int := tbl k fun i => atoiV (hw t (i + 1))
def hargs (t : ByteArray) : List Int := zJs t ((zAP t spS).length - 1)
section
variable {t : ByteArray} {k : Nat}
theorem zCZ : hpOK t = true ↔ ((1 ≤ t.size ∧ t.size ≤ 30) ∧ smHas formsL (hw t 0) = true ∧ ((zAP t spS).length : Int) = (hform t).2 + 1) ∧ ∀ i, i < (zAP t spS).length - 1 → zGM (hw t (i + 1)) = true := by
  simp only [hpOK, Bool.and_eq_true, decide_eq_true_eq, List.all_eq_true, List.mem_range, and_assoc]
theorem zTs (h : ¬ (1 ≤ t.size ∧ t.size ≤ 30)) : hpOK t = false := by
  rw [Bool.eq_false_iff]; exact fun h2 => h (zCZ.1 h2).1.1
theorem zTt (h : ¬ smHas formsL (hw t 0) = true) : hpOK t = false := by
  rw [Bool.eq_false_iff]; exact fun h2 => h (zCZ.1 h2).1.2.1
theorem zTu (h : ¬ ((zAP t spS).length : Int) = (hform t).2 + 1) : hpOK t = false := by
  rw [Bool.eq_false_iff]; exact fun h2 => h (zCZ.1 h2).1.2.2
theorem zTv (hk : k < (zAP t spS).length - 1) (h : ¬ zGM (hw t (k + 1)) = true) : hpOK t = false := by
  rw [Bool.eq_false_iff]; exact fun h2 => h ((zCZ.1 h2).2 k hk)
theorem zFA {s : ByteArray} : zGM s = true ↔ zDJ s = true ∧ 0 ≤ atoiV s ∧ atoiV s ≤ 99999 ∧ itoaV (atoiV s) = s := by
  simp only [zGM, Bool.and_eq_true, decide_eq_true_eq, and_assoc]
theorem zIZ (k : ByteArray) : 0 ≤ (smGet formsL k).1 ∧ (smGet formsL k).1 ≤ 6 ∧ 0 ≤ (smGet formsL k).2 ∧ (smGet formsL k).2 ≤ 3 := by
  unfold smGet
  cases h : formsL.find? (fun p => decide (p.1 = k)) with
  | none => exact ⟨by decide, by decide, by decide, by decide⟩
  | some p =>
    have hm := List.mem_of_find?_eq_some h
    simp only [formsL, List.mem_cons, List.not_mem_nil, or_false] at hm
    rcases hm with rfl | rfl | rfl | rfl | rfl | rfl | rfl <;> exact ⟨by decide, by decide, by decide, by decide⟩
end
@[push_cast] def zE7 : Con := ⟨[.dat .str], fun _ => True, fun (x : ByteArray × Unit) =>
  { res := [.val .int (if hpOK x.1 = true then (hform x.1).1 else 0), .own (.flat 3 .int (if hpOK x.1 = true then hargs x.1 else [])), .val (.err 161) (if hpOK x.1 = true then 0 else 2)] }⟩
set_option maxHeartbeats 4000000 in
theorem zLa : FnSpec Tryz.prog 77 zE7 := by
  refine FnSpec.of_tri' (E := know [(122, zI0), (123, zMg), (124, zKK), (125, zLb)] [] [] []) (zAm (all_cons zH1 (all_cons zNg (all_cons zJb (all_cons zJv all_nil)))) all_nil all_nil) Tryz.func77 rfl rfl (by kernel_rfl) ?_
  intro C x hE hnl hfit hpre
  simp only [Tryz.ntmps77, Tryz.results77, maxLen, Nat.reduceSub, Nat.reducePow, Nat.reduceAdd, Int.cast_ofNat_Int, push_cast] at hnl hfit hpre ⊢
  obtain ⟨(t : ByteArray), _⟩ := x
  dsimp only at hfit hpre ⊢
  by_cases h1 : 1 ≤ t.size ∧ t.size ≤ 30
  rotate_left
  · have e := zTs h1
    replace hnl := And.intro hnl (And.intro e zML)
    exact auA
  have hsp : spS.size = 1 := rfl
  have hpos : 1 ≤ (zAP t spS).length := by rw [zEu t spS (by omega)]; omega
  have hlen := zHZ t spS (by omega)
  have hw0 : (zAP t spS).getD 0 ByteArray.empty = hw t 0 := rfl
  have hfo : smGet formsL (hw t 0) = hform t := rfl
  obtain ⟨f1, f2, f3, f4⟩ := zIZ (hw t 0)
  rw [hfo] at f1 f2 f3 f4
  have hnl1 := hnl
  replace hnl := And.intro hnl (And.intro zML (And.intro hw0 (And.intro hfo hsp)))
  repeat' (first|(refine goK (by assumption) ?_; iterate 4 (try clear hK K))|(refine zAd fun K hK => ?_)|((first|refine zAb hE rfl ?_|refine zAh ?_); simp +contextual only [hnl, ↓kN, ↓kP, ↓kG, ↓qN, ↓qP, ↓qG, push_cast, seval, reduceCtorEq, Int.cast_ofNat_Int])|refine zAc ?_|((first|refine zAg ?_|refine zAf ?_); simp only [thenQ, zAk, if_true, if_false, Nat.reduceEqDiff, reduceCtorEq])|(refine zAe (by rfl) (fun hb => ?_) (fun hb => ?_) <;> (try simp only [b1, b2, b3, b4, reduceCtorEq, b5, b6] at hb) <;> (try omega))|refine zAi (by rfl) ?_ ?_|refine andS ?_|(refine ⟨fun hc => ?_, fun hc => ?_⟩)|(intro hc; try omega))
  refine zEW hE (fun D s => (D 9 = true → D 8 = true) ∧
    s.env 5 = .one (.val (.sl .str) (zAP t spS)) ∧
    (D 0 = true → s.env 26 = .one (.val .smap formsL)) ∧
    (D 1 = true → s.env 27 = .one (.val (.sl .str) (zAP t spS))) ∧
    (D 2 = true → s.env 28 = .one (.padr .str (hw t 0))) ∧
    (D 3 = true → s.env 29 = .one (.val .str (hw t 0))) ∧
    (D 4 = true → s.env 30 = .tup [.val (.prod .int .int) (hform t), .val .bool (smHas formsL (hw t 0))]) ∧
    (D 5 = true → s.env 25 = .tup [.val (.prod .int .int) (hform t), .val .bool (smHas formsL (hw t 0))]) ∧
    (D 6 = true → s.env 31 = .one (.val (.prod .int .int) (hform t))) ∧
    (D 7 = true → s.env 32 = .one (.val .bool (smHas formsL (hw t 0)))) ∧
    (D 8 = true → s.env 6 = .one (.box 6)) ∧
    (D 8 = true → D 9 = false → s.boxes 6 = some (.rcd [.val .int 0, .val .int 0])) ∧
    (D 9 = true → s.boxes 6 = some (.one (.val (.prod .int .int) (hform t)))) ∧
    (D 10 = true → s.env 7 = .one (.val .bool (smHas formsL (hw t 0))))) rfl (by kernel_rfl) ?_ ?_ ?_
  · dsimp only
    simp only [push_cast, seval, reduceCtorEq, Int.cast_ofNat_Int]
  · refine ⟨fun D s h0 hp hI => ?_, fun D s h0 hp hI => ?_, fun D s h0 hp hI => ?_, fun D s h0 hp hI => ?_, fun D s h0 hp hI => ?_, fun D s h0 hp hI => ?_, fun D s h0 hp hI => ?_, fun D s h0 hp hI => ?_, fun D s h0 hp hI => ?_, fun D s h0 hp hI => ?_, fun D s h0 hp hI => ?_, trivial⟩
    all_goals obtain ⟨o1, e5, f0, f1, f2, f3, f4, f5, f6, f7, f8, g8, f9, f10⟩ := hI
    all_goals replace hp := List.all_eq_true.1 hp
    · simp +contextual only [hnl, h0, o1, e5, f0, f1, f2, f3, f4, f5, f6, f7, f8, g8, f9, f10, setD, ↓kN, ↓kP, push_cast, seval, reduceCtorEq, Int.cast_ofNat_Int]
    · simp +contextual only [hnl, h0, o1, e5, f0, f1, f2, f3, f4, f5, f6, f7, f8, g8, f9, f10, setD, ↓kN, ↓kP, push_cast, seval, reduceCtorEq, Int.cast_ofNat_Int]
    · have d1 := hp 1 (by decide)
      simp +contextual only [d1, hnl, h0, o1, e5, f0, f1, f2, f3, f4, f5, f6, f7, f8, g8, f9, f10, setD, ↓kN, ↓kP, push_cast, seval, reduceCtorEq, Int.cast_ofNat_Int]
      omega
    · have d2 := hp 2 (by decide)
      simp +contextual only [d2, hnl, h0, o1, e5, f0, f1, f2, f3, f4, f5, f6, f7, f8, g8, f9, f10, setD, ↓kN, ↓kP, push_cast, seval, reduceCtorEq, Int.cast_ofNat_Int]
    · have d0 := hp 0 (by decide)
      have d3 := hp 3 (by decide)
      simp +contextual only [d0, d3, hnl, h0, o1, e5, f0, f1, f2, f3, f4, f5, f6, f7, f8, g8, f9, f10, setD, ↓kN, ↓kP, push_cast, seval, reduceCtorEq, Int.cast_ofNat_Int]
    · have d4 := hp 4 (by decide)
      simp +contextual only [d4, hnl, h0, o1, e5, f0, f1, f2, f3, f4, f5, f6, f7, f8, g8, f9, f10, setD, ↓kN, ↓kP, push_cast, seval, reduceCtorEq, Int.cast_ofNat_Int]
    · have d5 := hp 5 (by decide)
      simp +contextual only [d5, hnl, h0, o1, e5, f0, f1, f2, f3, f4, f5, f6, f7, f8, g8, f9, f10, setD, ↓kN, ↓kP, push_cast, seval, reduceCtorEq, Int.cast_ofNat_Int]
    · have d5 := hp 5 (by decide)
      simp +contextual only [d5, hnl, h0, o1, e5, f0, f1, f2, f3, f4, f5, f6, f7, f8, g8, f9, f10, setD, ↓kN, ↓kP, push_cast, seval, reduceCtorEq, Int.cast_ofNat_Int]
    · have n9 := zBw o1 h0
      simp +contextual only [n9, hnl, h0, o1, e5, f0, f1, f2, f3, f4, f5, f6, f7, f8, g8, f9, f10, setD, ↓kN, ↓kP, push_cast, seval, reduceCtorEq, Int.cast_ofNat_Int]
    · have d8 := hp 8 (by decide)
      have d6 := hp 6 (by decide)
      simp +contextual only [d8, d6, hnl, h0, o1, e5, f0, f1, f2, f3, f4, f5, f6, f7, f8, g8, f9, f10, setD, ↓kN, ↓kP, push_cast, seval, reduceCtorEq, Int.cast_ofNat_Int]
    · have d7 := hp 7 (by decide)
      simp +contextual only [d7, hnl, h0, o1, e5, f0, f1, f2, f3, f4, f5, f6, f7, f8, g8, f9, f10, setD, ↓kN, ↓kP, push_cast, seval, reduceCtorEq, Int.cast_ofNat_Int]
  intro D s hD hI
  obtain ⟨o1, e5, f0, f1, f2, f3, f4, f5, f6, f7, f8, g8, f9, f10⟩ := hI
  have v1 := f8 (hD 8 (by decide))
  have v2 := f9 (hD 9 (by decide))
  have v3 := f10 (hD 10 (by decide))
  refine goK hK ?_
  refine zAK (t := AS.of [(5, .one (.val (.sl .str) (zAP t spS))), (6, .one (.box 6)), (7, .one (.val .bool (smHas formsL (hw t 0))))] [] [(6, .one (.val (.prod .int .int) (hform t)))]) ?_ ?_
  · refine zAj ?_ ?_ ?_ <;> simp only [v1, v2, v3, e5, push_cast, seval, reduceCtorEq, Int.cast_ofNat_Int]
    all_goals first | exact ⟨_, rfl⟩ | skip
  clear hK hD
  replace hnl := hnl1
  by_cases h2 : smHas formsL (hw t 0) = true
  rotate_left
  · have e := zTt h2
    rw [Bool.not_eq_true] at h2
    replace hnl := And.intro hnl (And.intro e h2)
    exact auA
  by_cases h3 : ((zAP t spS).length : Int) = (hform t).2 + 1
  rotate_left
  · have e := zTu h3
    replace hnl := And.intro hnl (And.intro e (And.intro h2 (eq_false h3)))
    exact auA
  replace hnl := And.intro hnl (And.intro h2 (eq_true h3))
  repeat' (first|(refine goK (by assumption) ?_; iterate 4 (try clear hK K))|(refine zAd fun K hK => ?_)|((first|refine zAb hE rfl ?_|refine zAh ?_); simp +contextual only [hnl, ↓kN, ↓kP, ↓kG, ↓qN, ↓qP, ↓qG, push_cast, seval, reduceCtorEq, Int.cast_ofNat_Int])|refine zAc ?_|((first|refine zAg ?_|refine zAf ?_); simp only [thenQ, zAk, if_true, if_false, Nat.reduceEqDiff, reduceCtorEq])|(refine zAe (by rfl) (fun hb => ?_) (fun hb => ?_) <;> (try simp only [b1, b2, b3, b4, reduceCtorEq, b5, b6] at hb) <;> (try omega))|refine zAi (by rfl) ?_ ?_|refine andS ?_|(refine ⟨fun hc => ?_, fun hc => ?_⟩)|(intro hc; try omega))
  refine zAl (fun k : Nat => AS.of [(6, .one (.box 6)), (8, .one (.ref 78)), (46, .one (.val (.sl .str) ((zAP t spS).drop 1))), (47, .I ((zAP t spS).length - 1 : Nat)), (48, .I k)] [(78, .flat 3 .int (zJs t k))] [(6, .one (.val (.prod .int .int) (hform t)))]) (fun k => k ≤ (zAP t spS).length - 1 ∧ ∀ i, i < k → zGM (hw t (i + 1)) = true) (fun k => (zAP t spS).length - 1 - k) 0 ⟨Nat.zero_le _, by omega⟩ ?_ ?_
  · refine zAj ?_ ?_ ?_ <;> simp only [push_cast, seval, reduceCtorEq, Int.cast_ofNat_Int]
    all_goals first | omega | rfl | exact ⟨by omega, rfl⟩ | (rw [List.length_drop]) | skip
  intro k ⟨hk, hall⟩ K' hL
  have hal : (zJs t k).length = k := zBK _ _
  have hdl : ((zAP t spS).drop 1).length = (zAP t spS).length - 1 := List.length_drop ..
  rcases Nat.lt_or_ge k ((zAP t spS).length - 1) with hkl | hkl
  · have hwk : ((zAP t spS).drop 1).getD k ByteArray.empty = hw t (k + 1) := by
      simp only [List.getD_eq_getElem?_getD, List.getElem?_drop, hw]
      rw [Nat.add_comm]
    have hws : (hw t (k + 1)).size ≤ 30 := by
      have := zH0 t spS (hw t (k + 1)) (by
        have hk1 : k + 1 < (zAP t spS).length := by omega
        simp only [hw, List.getD_eq_getElem?_getD, List.getElem?_eq_getElem hk1, Option.getD_some]
        exact List.getElem_mem _)
      omega
    replace hnl := And.intro hnl (And.intro hwk (And.intro hdl hal))
    by_cases h4 : zGM (hw t (k + 1)) = true
    · obtain ⟨q1, q2, q3, q4⟩ := zFA.1 h4
      have hst : zJs t (k + 1) = zJs t k ++ [atoiV (hw t (k + 1))] := zFr _ _
      have hin : InR (atoiV (hw t (k + 1))) := by unfold InR; omega
      replace hnl := And.intro hnl (And.intro q1 (And.intro q4 (eq_true hin)))
      repeat' (first|(refine goK (by assumption) ?_; iterate 4 (try clear hK K))|(refine zAd fun K hK => ?_)|((first|refine zAb hE rfl ?_|refine zAh ?_); simp +contextual only [hnl, ↓kN, ↓kP, ↓kG, ↓qN, ↓qP, ↓qG, push_cast, seval, reduceCtorEq, Int.cast_ofNat_Int])|refine zAc ?_|((first|refine zAg ?_|refine zAf ?_); simp only [thenQ, zAk, if_true, if_false, Nat.reduceEqDiff, reduceCtorEq])|(refine zAe (by rfl) (fun hb => ?_) (fun hb => ?_) <;> (try simp only [b1, b2, b3, b4, reduceCtorEq, b5, b6] at hb) <;> (try omega))|refine zAi (by rfl) ?_ ?_|refine andS ?_|(refine ⟨fun hc => ?_, fun hc => ?_⟩)|(intro hc; try omega))
      refine hL _ (k + 1) ⟨by omega, fun i hi => ?_⟩ (by omega) ?_
      · rcases Nat.lt_or_ge i k with h5 | h5
        · exact hall i h5
        · obtain rfl : i = k := by omega
          exact h4
      refine zAj ?_ ?_ ?_ <;> simp only [push_cast, seval, reduceCtorEq, Int.cast_ofNat_Int]
      exact .inl (by rw [hst])
    · have e := zTv hkl h4
      cases q1 : zDJ (hw t (k + 1)) with
      | false =>
        replace hnl := And.intro hnl (And.intro q1 e)
        repeat' (first|(refine goK (by assumption) ?_; iterate 4 (try clear hK K))|(refine zAd fun K hK => ?_)|((first|refine zAb hE rfl ?_|refine zAh ?_); simp +contextual only [hnl, ↓kN, ↓kP, ↓kG, ↓qN, ↓qP, ↓qG, push_cast, seval, reduceCtorEq, Int.cast_ofNat_Int])|refine zAc ?_|((first|refine zAg ?_|refine zAf ?_); simp only [thenQ, zAk, if_true, if_false, Nat.reduceEqDiff, reduceCtorEq])|(refine zAe (by rfl) (fun hb => ?_) (fun hb => ?_) <;> (try simp only [b1, b2, b3, b4, reduceCtorEq, b5, b6] at hb) <;> (try omega))|refine zAi (by rfl) ?_ ?_|refine andS ?_|(refine ⟨fun hc => ?_, fun hc => ?_⟩)|(intro hc; try omega))
      | true =>
        by_cases q2 : atoiV (hw t (k + 1)) < 0
        · replace hnl := And.intro hnl (And.intro q1 (And.intro e (eq_true q2)))
          exact auA
        by_cases q3 : 99999 < atoiV (hw t (k + 1))
        · replace hnl := And.intro hnl (And.intro q1 (And.intro e (And.intro (eq_false q2) (eq_true q3))))
          exact auA
        have q4 : ¬ itoaV (atoiV (hw t (k + 1))) = hw t (k + 1) := fun h => h4 (zFA.2 ⟨q1, by omega, by omega, h⟩)
        have hin : InR (atoiV (hw t (k + 1))) := by unfold InR; omega
        replace hnl := And.intro hnl (And.intro q1 (And.intro e (And.intro (eq_false q2) (And.intro (eq_false q3) (And.intro (eq_false q4) (eq_true hin))))))
        exact auA
  · obtain rfl : k = (zAP t spS).length - 1 := by omega
    have e : hpOK t = true := zCZ.2 ⟨⟨h1, h2, h3⟩, hall⟩
    replace hnl := And.intro hnl (And.intro e hdl)
    repeat' (first|(refine goK (by assumption) ?_; iterate 4 (try clear hK K))|(refine zAd fun K hK => ?_)|((first|refine zAb hE rfl ?_|refine zAh ?_); simp +contextual only [hnl, ↓kN, ↓kP, ↓kG, ↓qN, ↓qP, ↓qG, push_cast, seval, reduceCtorEq, Int.cast_ofNat_Int])|refine zAc ?_|((first|refine zAg ?_|refine zAf ?_); simp only [thenQ, zAk, if_true, if_false, Nat.reduceEqDiff, reduceCtorEq])|(refine zAe (by rfl) (fun hb => ?_) (fun hb => ?_) <;> (try simp only [b1, b2, b3, b4, reduceCtorEq, b5, b6] at hb) <;> (try omega))|refine zAi (by rfl) ?_ ?_|refine andS ?_|(refine ⟨fun hc => ?_, fun hc => ?_⟩)|(intro hc; try omega))
    all_goals first | rfl | skip
end Go.Proofs.YtlgkplnifaoeeaaGreatDoor
namespace Go.Proofs.YtlgkplnifaoeeaaGreatDoor
open Go.RowKit Go.VS Go.Extern.Stop Go.Stop Go.Extern
theorem zS6 (t : Value) (w : World) : Calls Tryz.prog 126 #[.nilIface, t] w fun e w' => e = .returned (.bool false) ∧ w' = w := by
  go_enter Tryz.func126, Tryz.ntmps126
  go_wp2
  go_ret
  exact ⟨rfl, rfl⟩
theorem as_vp (t : Addr) (w : World) : (ReflectliteValue.unpack (.iface 172 (.pointer (some t)))).run Tryz.prog w = .ok (.agg #[.pointer (some ⟨9, 172, none⟩), .pointer (some ⟨w.heap.size, 0, none⟩), .int .u64 150]) (w.alloc (.cells #[.pointer (some t)] 172)) := by kernel_rfl
theorem as_vr (n : Int) (w : World) : (ReflectliteValue.unpack (.iface 161 (.agg #[.int .i64 n]))).run Tryz.prog w = .ok (.agg #[.pointer (some ⟨9, 161, none⟩), .pointer (some ⟨w.heap.size, 0, none⟩), .int .u64 153]) (w.alloc (.cells #[.int .i64 n] 161)) := by kernel_rfl
theorem zTb (a : Addr) (w : World) : (ReflectliteValue.methodAny (ReflectliteValue.valueError "reflectlite.Value.Type" 0) (fun t _ _ _ => ReflectliteType.toType t) #[.agg #[.pointer (some ⟨9, 172, none⟩), .pointer (some a), .int .u64 150]]).run Tryz.prog w = .ok (.iface 238 (.agg #[.pointer (some ⟨9, 172, none⟩)])) w := by kernel_rfl
theorem as_mk (h : Value) (w : World) : (Go.method 418 238 (.agg #[h]) "Kind").run Tryz.prog w = .ok (260, h) w := by kernel_rfl
theorem as_kp (w : World) : ((ReflectliteType.abiMethod fun t => (fun a : Nat => Value.int IntKind.u8 (a : Int)) <$> Rtype.kind t) #[.pointer (some ⟨9, 172, none⟩)]).run Tryz.prog w = .ok (.int .u8 22) w := by kernel_rfl
theorem as_kr (w : World) : ((ReflectliteType.abiMethod fun t => (fun a : Nat => Value.int IntKind.u8 (a : Int)) <$> Rtype.kind t) #[.pointer (some ⟨9, 161, none⟩)]).run Tryz.prog w = .ok (.int .u8 25) w := by kernel_rfl
theorem zRJ (z : Sem Value) (f : TypeId → Addr → Nat → Nat → Sem Value) (v : Value) : ReflectliteValue.method z f #[v] = (do match ← ReflectliteValue.parts v with | none => z | some (t, a, fl) => f t a fl (fl % 32)) := rfl
theorem as_pp (a : Addr) (w : World) : (ReflectliteValue.parts (.agg #[.pointer (some ⟨9, 172, none⟩), .pointer (some a), .int .u64 150])).run Tryz.prog w = .ok (some (172, a, 150)) w := by kernel_rfl
theorem zQs (a p : Addr) (W : World) (ha : W.cell? a = some (.pointer (some p))) : (ReflectliteValue.method (ReflectliteValue.valueError "reflectlite.Value.IsNil" 0) ReflectliteValue.isNil #[.agg #[.pointer (some ⟨9, 172, none⟩), .pointer (some a), .int .u64 150]]).run Tryz.prog W = .ok (.bool false) W := by
  rw [zRJ]
  simp only [Sem.run_bind, as_pp, Result.andThen]
  simp [ReflectliteValue.isNil, loadVar, isAgg, underlying, Tryz.underlying172, ha, Result.andThen]
theorem as_me (h : Value) (w : World) : (Go.method 418 238 (.agg #[h]) "Elem").run Tryz.prog w = .ok (273, .agg #[h]) w := by kernel_rfl
theorem as_mi (h : Value) (w : World) : (Go.method 418 238 (.agg #[h]) "Implements").run Tryz.prog w = .ok (274, .agg #[h]) w := by kernel_rfl
theorem as_ma (h : Value) (w : World) : (Go.method 418 238 (.agg #[h]) "AssignableTo").run Tryz.prog w = .ok (271, .agg #[h]) w := by kernel_rfl
theorem as_ep (w : World) : (ReflectliteType.method ReflectliteType.elem #[.agg #[.pointer (some ⟨9, 172, none⟩)]]).run Tryz.prog w = .ok (.iface 238 (.agg #[.pointer (some ⟨9, 161, none⟩)])) w := by kernel_rfl
theorem as_ir (w : World) : (ReflectliteType.relation "Implements" ReflectliteType.implements_ #[.agg #[.pointer (some ⟨9, 161, none⟩)], .iface 238 (.agg #[.pointer (some ⟨9, 116, none⟩)])]).run Tryz.prog w = .ok (.bool true) w := by kernel_rfl
theorem as_to (v : Value) (w : World) : (ReflectliteType.typeOf #[.iface 161 v]).run Tryz.prog w = .ok (.iface 238 (.agg #[.pointer (some ⟨9, 161, none⟩)])) w := by kernel_rfl
theorem as_ar (w : World) : (ReflectliteType.relation "AssignableTo" ReflectliteType.assignableTo #[.agg #[.pointer (some ⟨9, 161, none⟩)], .iface 238 (.agg #[.pointer (some ⟨9, 161, none⟩)])]).run Tryz.prog w = .ok (.bool true) w := by kernel_rfl
theorem as_eo (w : World) : (Rtype.elem? 172).run Tryz.prog w = .ok (some 161) w := by kernel_rfl
theorem zS5 (p : Addr) (w : World) : (ReflectliteValue.mk 161 p ReflectliteValue.flagAddr).run Tryz.prog w = .ok (.agg #[.pointer (some ⟨9, 161, none⟩), .pointer (some p), .int .u64 409]) w := by kernel_rfl
theorem as_ev (a p : Addr) (W : World) (ha : W.cell? a = some (.pointer (some p))) : (ReflectliteValue.method (ReflectliteValue.valueError "reflectlite.Value.Elem" 0) ReflectliteValue.elem #[.agg #[.pointer (some ⟨9, 172, none⟩), .pointer (some a), .int .u64 150]]).run Tryz.prog W = .ok (.agg #[.pointer (some ⟨9, 161, none⟩), .pointer (some p), .int .u64 409]) W := by
  rw [zRJ]
  simp only [Sem.run_bind, as_pp, Result.andThen]
  simp [ReflectliteValue.elem, loadVar, isAgg, underlying, Tryz.underlying172, ha, Result.andThen, as_eo, zS5]
theorem zS9 (v x : Value) : ReflectliteValue.set #[v, x] = (do
    let (some (dst, a, fl), some (src, b, _)) := (← ReflectliteValue.parts v, ← ReflectliteValue.parts x)
      | unsupported (.noEntry "extern/(internal/reflectlite.Value).Set.zeroValue")
    if fl / ReflectliteValue.flagAddr % 2 == 0 then unsupported (.noEntry "extern/(internal/reflectlite.Value).Set.unaddressable")
    let val ← loadVar src b
    if ← Rtype.directlyAssignable dst src then storeVar dst a val
    else if ← Rtype.implements dst src then
      if (← Rtype.kind src) == 20 then
        match val with
        | .nilIface => unsupported (.noEntry "extern/reflectlite: a nil value of one interface type handed on as a value of another")
        | _ => storeVar dst a val
      else storeVar dst a (.iface src val)
    else panicString ("reflectlite.Set: value of type " ++ (← Rtype.spelt src) ++ " is not assignable to type " ++ (← Rtype.spelt dst))
    pure (.tuple #[])) := rfl
theorem zS7 (a : Addr) (w : World) : (ReflectliteValue.parts (.agg #[.pointer (some ⟨9, 161, none⟩), .pointer (some a), .int .u64 409])).run Tryz.prog w = .ok (some (161, a, 409)) w := by kernel_rfl
theorem zS8 (a : Addr) (w : World) : (ReflectliteValue.parts (.agg #[.pointer (some ⟨9, 161, none⟩), .pointer (some a), .int .u64 153])).run Tryz.prog w = .ok (some (161, a, 153)) w := by kernel_rfl
theorem as_dr (w : World) : (Rtype.directlyAssignable 161 161).run Tryz.prog w = .ok true w := by kernel_rfl
theorem as_sz (w : World) : (sizeOf 161).run Tryz.prog w = .ok 1 w := by kernel_rfl
theorem as_ag (w : World) : (isAgg 161).run Tryz.prog w = .ok true w := by kernel_rfl
theorem zTa (t b : Addr) (n : Int) (old : Value) (W : World) (hb : W.cell? b = some (.int .i64 n)) (ht : W.cell? t = some old) (hf : W.frozen? t = false) :
    (ReflectliteValue.set #[.agg #[.pointer (some ⟨9, 161, none⟩), .pointer (some t), .int .u64 409], .agg #[.pointer (some ⟨9, 161, none⟩), .pointer (some b), .int .u64 153]]).run Tryz.prog W = .ok (.tuple #[]) (W.setCell t (.int .i64 n)) := by
  rw [zS9]
  simp only [Sem.run_bind, zS7, zS8, Result.andThen]
  simp [ReflectliteValue.flagAddr, loadVar, as_ag, as_sz, loadCells, loadCellsFrom, Addr.add, hb, Result.andThen, as_dr, storeVar, Value.cells, storeCells]
  rw [run_store Tryz.prog W t _ _ (by rfl)]
  simp [ht, hf]
set_option maxHeartbeats 4000000 in
theorem zS4 (n : Int) (t : Addr) (old : Value) (w : World) (hg : w.cell? ⟨0, 0, none⟩ = some (.iface 238 (.agg #[.pointer (some ⟨9, 116, none⟩)]))) (ht0 : w.cell? t = some old) (hf0 : w.frozen? t = false) :
    Calls Tryz.prog 126 #[.iface 161 (.agg #[.int .i64 n]), .iface 172 (.pointer (some t))] w fun ev w' => ev = .returned (.bool true) ∧ w' = ((((w.alloc (.cells #[.pointer (some t)] 172)).alloc (.cells #[.pointer (some ⟨9, 172, none⟩), .pointer (some ⟨w.heap.size, 0, none⟩), .int .u64 150] 206)).alloc (.cells #[.pointer (some ⟨9, 172, none⟩), .pointer (some ⟨w.heap.size, 0, none⟩), .int .u64 150] 206)).alloc (.cells #[.int .i64 n] 161)).setCell t (.int .i64 n) := by
  have h6 := @run_callFunc_extern Tryz.prog 171 _ (fun args => ReflectliteValue.unpack (args.getD 0 (.tuple #[]))) Tryz.func171 (by kernel_rfl) (by kernel_rfl) (by kernel_rfl) (by kernel_rfl)
  have h7 := @run_callFunc_extern Tryz.prog 172 _ (ReflectliteValue.methodAny (ReflectliteValue.valueError "reflectlite.Value.Type" 0) (fun t _ _ _ => ReflectliteType.toType t)) Tryz.func172 (by kernel_rfl) (by kernel_rfl) (by kernel_rfl) (by kernel_rfl)
  have h8 := @run_callFunc_extern Tryz.prog 173 _ (ReflectliteValue.method (ReflectliteValue.valueError "reflectlite.Value.IsNil" 0) ReflectliteValue.isNil) Tryz.func173 (by kernel_rfl) (by kernel_rfl) (by kernel_rfl) (by kernel_rfl)
  have h27 := @run_callFunc_extern Tryz.prog 260 _ (ReflectliteType.abiMethod fun t => do pure (.int .u8 (← Rtype.kind t))) Tryz.func260 (by kernel_rfl) (by kernel_rfl) (by kernel_rfl) (by kernel_rfl)
  have h37 := @run_callFunc_extern Tryz.prog 273 _ (ReflectliteType.method ReflectliteType.elem) Tryz.func273 (by kernel_rfl) (by kernel_rfl) (by kernel_rfl) (by kernel_rfl)
  have h38 := @run_callFunc_extern Tryz.prog 274 _ (ReflectliteType.relation "Implements" ReflectliteType.implements_) Tryz.func274 (by kernel_rfl) (by kernel_rfl) (by kernel_rfl) (by kernel_rfl)
  have h10 := @run_callFunc_extern Tryz.prog 206 _ ReflectliteType.typeOf Tryz.func206 (by kernel_rfl) (by kernel_rfl) (by kernel_rfl) (by kernel_rfl)
  have h35 := @run_callFunc_extern Tryz.prog 271 _ (ReflectliteType.relation "AssignableTo" ReflectliteType.assignableTo) Tryz.func271 (by kernel_rfl) (by kernel_rfl) (by kernel_rfl) (by kernel_rfl)
  have h11 := @run_callFunc_extern Tryz.prog 207 _ (ReflectliteValue.method (ReflectliteValue.valueError "reflectlite.Value.Elem" 0) ReflectliteValue.elem) Tryz.func207 (by kernel_rfl) (by kernel_rfl) (by kernel_rfl) (by kernel_rfl)
  have h12 := @run_callFunc_extern Tryz.prog 208 _ ReflectliteValue.set Tryz.func208 (by kernel_rfl) (by kernel_rfl) (by kernel_rfl) (by kernel_rfl)
  have tO := as_to
  have mA := as_ma
  have aR := as_ar
  have vR := as_vr
  have f6 := as_vp
  have f7 := zTb
  have mK := as_mk
  have mE := as_me
  have mI := as_mi
  have kP := as_kp
  have kR := as_kr
  have eP := as_ep
  have iR := as_ir
  have n8 := zQs ⟨w.heap.size, 0, none⟩ t ((w.alloc (.cells #[.pointer (some t)] 172)).alloc (.cells #[.pointer (some ⟨9, 172, none⟩), .pointer (some ⟨w.heap.size, 0, none⟩), .int .u64 150] 206)) (by simp)
  have hlt : 0 < w.heap.size := by
    rcases Nat.lt_or_ge 0 w.heap.size with h | h
    · exact h
    · simp [World.cell?, Array.getElem?_eq_none h] at hg
  have hg2 : ((w.alloc (.cells #[.pointer (some t)] 172)).alloc (.cells #[.pointer (some ⟨9, 172, none⟩), .pointer (some ⟨w.heap.size, 0, none⟩), .int .u64 150] 206)).cell? ⟨0, 0, none⟩ = some (.iface 238 (.agg #[.pointer (some ⟨9, 116, none⟩)])) := by
    rw [World.cell?_alloc_lt _ _ ⟨0, 0, none⟩ (by simp), World.cell?_alloc_lt _ _ ⟨0, 0, none⟩ hlt]; exact hg
  have htl : t.block < w.heap.size := by
    rcases Nat.lt_or_ge t.block w.heap.size with h | h
    · exact h
    · simp [World.cell?, Array.getElem?_eq_none h] at ht0
  have el := as_ev ⟨w.heap.size, 0, none⟩ t (((w.alloc (.cells #[.pointer (some t)] 172)).alloc (.cells #[.pointer (some ⟨9, 172, none⟩), .pointer (some ⟨w.heap.size, 0, none⟩), .int .u64 150] 206)).alloc (.cells #[.pointer (some ⟨9, 172, none⟩), .pointer (some ⟨w.heap.size, 0, none⟩), .int .u64 150] 206)) (by rw [World.cell?_alloc_lt _ _ ⟨w.heap.size, 0, none⟩ (by simp; omega)]; simp)
  have st := zTa t ⟨w.heap.size + 1 + 1 + 1, 0, none⟩ n old ((((w.alloc (.cells #[.pointer (some t)] 172)).alloc (.cells #[.pointer (some ⟨9, 172, none⟩), .pointer (some ⟨w.heap.size, 0, none⟩), .int .u64 150] 206)).alloc (.cells #[.pointer (some ⟨9, 172, none⟩), .pointer (some ⟨w.heap.size, 0, none⟩), .int .u64 150] 206)).alloc (.cells #[.int .i64 n] 161))
    (by rw [World.cell?_alloc_at _ _ _ _ (by simp)]; rfl)
    (by rw [World.cell?_alloc_lt _ _ t (by simp; omega), World.cell?_alloc_lt _ _ t (by simp; omega), World.cell?_alloc_lt _ _ t (by simp; omega), World.cell?_alloc_lt _ _ t htl]; exact ht0)
    (by rw [World.frozen?_alloc_old _ _ t (by simp; omega), World.frozen?_alloc_old _ _ t (by simp; omega), World.frozen?_alloc_old _ _ t (by simp; omega), World.frozen?_alloc_old _ _ t (Nat.ne_of_lt htl)]; exact hf0)
  go_enter Tryz.func126, Tryz.ntmps126
  go_wp2
  refine wp_loop_rounds 1 ?_
  rw [rounds_succ]
  go_wp2
  go_ret
  exact ⟨rfl, rfl⟩
end Go.Proofs.YtlgkplnifaoeeaaGreatDoor
namespace Go.Proofs.YtlgkplnifaoeeaaGreatDoor
open Go.RowKit Go.VS
set_option maxRecDepth 20000
theorem et_rt : (Tryz.prog.cutTypes.find? (·.1 == "internal/reflectlite.rtype")).map (·.2) = some 238 := by kernel_rfl
theorem zTj : ((List.range 318).filter fun t => Tryz.prog.rowNamed t [101, 114, 114, 111, 114]) = [116] := by kernel_rfl
theorem zSi : Tryz.prog.types.size = 318 := by kernel_rfl
theorem et_g : Tryz.prog.globalNamed "errors.errorType" = some 0 := by kernel_rfl
theorem zSh {w : World} (h : Gd Tryz.prog w) : w.cell? ⟨0, 0, none⟩ = some (.iface 238 (.agg #[.pointer (some ⟨9, 116, none⟩)])) := by
  obtain ⟨u, ty, e2, e3, e4, e5⟩ := h.typ _ et_g
  obtain rfl := Option.some.inj (et_rt.symm.trans e2)
  have hm : ty ∈ (List.range 318).filter fun t => Tryz.prog.rowNamed t [101, 114, 114, 111, 114] := List.mem_filter.2 ⟨List.mem_range.2 (by rw [← zSi]; exact e3), e4⟩
  rw [zTj] at hm
  obtain rfl := List.mem_singleton.1 hm
  have hh : typeHandle Tryz.prog 116 = .pointer (some ⟨9, 116, none⟩) := by kernel_rfl
  rw [hh] at e5
  simpa using World.var?_cell et_g e5 0
theorem zR8 (n : Int) (t : Addr) (old : Value) (w : World) (hgd : Gd Tryz.prog w) (ht0 : w.cell? t = some old) (hf0 : w.frozen? t = false) :
    Calls Tryz.prog 126 #[.iface 161 (.agg #[.int .i64 n]), .iface 172 (.pointer (some t))] w fun ev w' => ev = .returned (.bool true) ∧ w'.cell? t = some (.int .i64 n) ∧ Keep (fun k => k = t.block) w w' := by
  refine (zS4 n t old w (zSh hgd) ht0 hf0).mono ?_
  rintro e w' ⟨rfl, rfl⟩
  have htl : t.block < w.heap.size := by
    rcases Nat.lt_or_ge t.block w.heap.size with h | h
    · exact h
    · simp [World.cell?, Array.getElem?_eq_none h] at ht0
  refine ⟨rfl, World.cell?_setCell_same _ t _ (u := old) ?_, ?_⟩
  · rw [World.cell?_alloc_lt _ _ t (by simp; omega), World.cell?_alloc_lt _ _ t (by simp; omega), World.cell?_alloc_lt _ _ t (by simp; omega), World.cell?_alloc_lt _ _ t htl]; exact ht0
  · have k4 : Keep (fun k => k = t.block) w ((((w.alloc (.cells #[.pointer (some t)] 172)).alloc (.cells #[.pointer (some ⟨9, 172, none⟩), .pointer (some ⟨w.heap.size, 0, none⟩), .int .u64 150] 206)).alloc (.cells #[.pointer (some ⟨9, 172, none⟩), .pointer (some ⟨w.heap.size, 0, none⟩), .int .u64 150] 206)).alloc (.cells #[.int .i64 n] 161)) :=
      ⟨rfl, rfl, rfl, by simp; omega, fun k hk _ => by
        rw [Below.heap_alloc _ _ k (by simp; omega), Below.heap_alloc _ _ k (by simp; omega), Below.heap_alloc _ _ k (by simp; omega), Below.heap_alloc _ _ k hk]⟩
    refine k4.step (M := fun k => k = t.block) ⟨rfl, rfl, rfl, ?_, fun k hk hne => ?_⟩ (fun b hb _ => hb)
    · simp [World.setCell]
    · exact Below.heap_setCell _ _ _ k hne
set_option maxHeartbeats 2000000 in
theorem zM6 (n : Int) (w : World) (hg : Gd Tryz.prog w) : Calls Tryz.prog 78 #[errV 161 n] w fun e w' => e = .returned (.int .i64 n) ∧ Keep (fun _ => False) w w' := by
  have hkA : Keep (fun _ => False) w (w.alloc (.cells #[.int .i64 0] 161)) := ⟨rfl, rfl, rfl, by simp, fun k hk _ => Below.heap_alloc w _ k hk⟩
  by_cases hn : n = 0
  · subst hn
    rw [show errV 161 0 = .nilIface from rfl]
    go_enter Tryz.func78, Tryz.ntmps78
    go_wp2_with (go_at_call 126; refine (zS6 _ _).mono ?_; rintro e w' ⟨rfl, rfl⟩)
    go_ret
    exact ⟨rfl, hkA⟩
  · rw [show errV 161 n = .iface 161 (.agg #[.int .i64 n]) from if_neg hn]
    have hgA := hg.later hkA
    have hnew := heap_alloc_new w (.cells #[.int .i64 0] 161)
    have c0 : (w.alloc (.cells #[.int .i64 0] 161)).cell? ⟨w.heap.size, 0, none⟩ = some (.int .i64 0) := by simp only [World.cell?, hnew]; rfl
    have z0 : (w.alloc (.cells #[.int .i64 0] 161)).frozen? ⟨w.heap.size, 0, none⟩ = false := by simp only [World.frozen?, hnew]; rfl
    have hcall := zR8 n ⟨w.heap.size, 0, none⟩ _ _ hgA c0 z0
    clear hnew c0 z0 hgA
    go_enter Tryz.func78, Tryz.ntmps78
    go_wp2_with (go_at_call 126; refine hcall.mono ?_; rintro e w' ⟨rfl, hc, hk⟩)
    go_ret
    exact ⟨rfl, hkA.step hk (fun b hb hlt => by have : b = w.heap.size := hb; omega)⟩
@[push_cast] def zIm : Con := ⟨[.dat (.err 161)], fun _ => True, fun (x : Int × Unit) => { res := [.val .int x.1] }⟩
theorem zOx : FnSpec Tryz.prog 78 zIm := by
  refine zBm ⟨_, Tryz.func78, by kernel_rfl, rfl⟩ (fun _ => rfl) (fun _ => rfl) fun C γ x vs hpre hen => ?_
  have hg := hen.ds.2.gd
  rw [hen.P] at hg
  have hargs := hen.args
  obtain ⟨(n : Int), _⟩ := x
  obtain ⟨v0, _, rfl, h0, rfl⟩ := hargs
  obtain rfl : v0 = errV 161 n := zLu h0
  refine (zM6 n C.w0 hg).mono ?_
  rintro e w' ⟨rfl, hk⟩
  exact ⟨[_], rfl, ⟨_, [], rfl, ⟨[.int .i64 n], rfl, rfl⟩, rfl, rfl, rfl⟩, hk⟩
end Go.Proofs.YtlgkplnifaoeeaaGreatDoor
