import Derived.Test.YtlgkplnifaoeeaaGreatDoorY6
import Derived.Test.YtlgkplnifaoeeaaGreatDoorY4
import Derived.Tactics2
import Derived.Laws.CopyOwn
import Derived.Laws.Bits64b
import Derived.WalkKit
set_option linter.unusedSimpArgs false
set_option linter.unusedVariables false
namespace Go.Proofs.YtlgkplnifaoeeaaGreatDoor
open Go.RowKit Go.VS
def Small (p : List (List Int)) : Prop := p.length ≤ 1000 ∧ ∀ r ∈ p, r.length ≤ 1000
theorem Small.row {p : List (List Int)} (h : Small p) {i : Nat} (hi : i < p.length) : (p.getD i []).length ≤ 1000 := h.2 _ (zAw [] hi)
theorem InPlan.small {p : List (List Int)} (h : InPlan p) : Small p := ⟨by have := h.rows; omega, fun r hr => by rw [h.len r hr]; have := h.cols; omega⟩
@[push_cast] def zOC : Con := ⟨[.dat (.sl (.sl .int))], fun (x : List (List Int) × Unit) => Small x.1, fun (x : List (List Int) × Unit) => { res := [.own (.deep 25 3 .int x.1)] }⟩
theorem zNG : FnSpec Tryz.prog 71 zOC := by
  refine FnSpec.of_tri' (E := know [] [] [] [12]) (zAm all_nil all_nil all_nil) Tryz.func71 rfl rfl (by kernel_rfl) ?_
  intro C x hE hnl hfit hpre
  simp only [Tryz.ntmps71, Tryz.results71, maxLen, Nat.reduceSub, Nat.reducePow, Nat.reduceAdd, Int.cast_ofNat_Int, push_cast] at hnl hfit hpre ⊢
  obtain ⟨(p : List (List Int)), _⟩ := x
  dsimp only at hfit hpre ⊢
  have hl := hpre.1
  repeat' (first|(refine goK (by assumption) ?_; iterate 4 (try clear hK K))|(refine zAd fun K hK => ?_)|((first|refine zAb hE rfl ?_|refine zAh ?_); simp +contextual only [hnl, ↓kN, ↓kP, ↓kG, ↓qN, ↓qP, ↓qG, push_cast, seval, reduceCtorEq, Int.cast_ofNat_Int])|refine zAc ?_|((first|refine zAg ?_|refine zAf ?_); simp only [thenQ, zAk, if_true, if_false, Nat.reduceEqDiff, reduceCtorEq])|(refine zAe (by rfl) (fun hb => ?_) (fun hb => ?_) <;> (try simp only [b1, b2, b3, b4, reduceCtorEq, b5, b6] at hb) <;> (try omega))|refine zAi (by rfl) ?_ ?_|refine andS ?_|(refine ⟨fun hc => ?_, fun hc => ?_⟩)|(intro hc; try omega))
  refine zAl (fun i : Nat => AS.of [(0, .one (.val (.sl (.sl .int)) p)), (3, .one (.ref 19)), (4, .I i)] [(19, .deep 25 3 .int (tbl i fun r => p.getD r []))] []) (fun i => i ≤ p.length) (fun i => p.length - i) 0 (Nat.zero_le _) ?_ ?_
  · refine zAj ?_ ?_ ?_ <;> simp only [push_cast, seval, reduceCtorEq, Int.cast_ofNat_Int]
    exact ⟨by omega, zMQ _⟩
  intro i hi K' hL
  replace hnl := And.intro hnl (zBK i fun r => p.getD r [])
  have hrow := @Small.row p hpre i
  repeat' (first|(refine goK (by assumption) ?_; iterate 4 (try clear hK K))|(refine zAd fun K hK => ?_)|((first|refine zAb hE rfl ?_|refine zAh ?_); simp +contextual only [hnl, ↓kN, ↓kP, ↓kG, ↓qN, ↓qP, ↓qG, push_cast, seval, reduceCtorEq, Int.cast_ofNat_Int])|refine zAc ?_|((first|refine zAg ?_|refine zAf ?_); simp only [thenQ, zAk, if_true, if_false, Nat.reduceEqDiff, reduceCtorEq])|(refine zAe (by rfl) (fun hb => ?_) (fun hb => ?_) <;> (try simp only [b1, b2, b3, b4, reduceCtorEq, b5, b6] at hb) <;> (try omega))|refine zAi (by rfl) ?_ ?_|refine andS ?_|(refine ⟨fun hc => ?_, fun hc => ?_⟩)|(intro hc; try omega))
  · have hrow := hrow (by omega)
    repeat' (first|(refine goK (by assumption) ?_; iterate 4 (try clear hK K))|(refine zAd fun K hK => ?_)|((first|refine zAb hE rfl ?_|refine zAh ?_); simp +contextual only [hnl, ↓kN, ↓kP, ↓kG, ↓qN, ↓qP, ↓qG, push_cast, seval, reduceCtorEq, Int.cast_ofNat_Int])|refine zAc ?_|((first|refine zAg ?_|refine zAf ?_); simp only [thenQ, zAk, if_true, if_false, Nat.reduceEqDiff, reduceCtorEq])|(refine zAe (by rfl) (fun hb => ?_) (fun hb => ?_) <;> (try simp only [b1, b2, b3, b4, reduceCtorEq, b5, b6] at hb) <;> (try omega))|refine zAi (by rfl) ?_ ?_|refine andS ?_|(refine ⟨fun hc => ?_, fun hc => ?_⟩)|(intro hc; try omega))
    refine hL _ (i + 1) (by omega) (by omega) ?_
    refine zAj ?_ ?_ ?_ <;> simp only [push_cast, seval, reduceCtorEq, Int.cast_ofNat_Int]
    left
    rw [zFr]
  · obtain rfl : i = p.length := by omega
    rw [← zGo p []]
end Go.Proofs.YtlgkplnifaoeeaaGreatDoor
namespace Go.Proofs.YtlgkplnifaoeeaaGreatDoor
open Go.RowKit Go.VS
theorem zOb : FnSpec Tryz.prog 66 zRO := by
  refine FnSpec.of_tri' (E := know [(65, zGX), (113, zOL)] [] [] []) (zAm (all_cons zJU (all_cons zOM all_nil)) all_nil all_nil) Tryz.func66 rfl rfl (by kernel_rfl) ?_
  intro C x hE hnl hfit hpre
  simp only [Tryz.ntmps66, Tryz.results66, maxLen, Nat.reduceSub, Nat.reducePow, Nat.reduceAdd, Int.cast_ofNat_Int, push_cast] at hnl hfit hpre ⊢
  obtain ⟨(p : List (List Int)), _⟩ := x
  dsimp only at hfit hpre ⊢
  rcases zFy p with he | he
  · have hin := zEd he
    replace hnl := And.intro hnl he
    exact auB
  · replace hnl := And.intro hnl he
    exact auB
def okPic (l : List Int) (n : Int) : Bool := decide (1 ≤ l.length ∧ l.length ≤ 40) && l.all fun c => decide (0 ≤ c ∧ c < n ∧ c < 5)
def cntV (c : Int) (l : List Int) : Int := (l.count c : Nat)
def palV (l : List Int) (n : Nat) : List Int := tbl n fun c => cntV (c : Int) l
def zPN : Clo := ⟨[.int], [.int], .bool, fun _ _ => True, fun (y : Int × Unit) (x : Int × Unit) => decide (x.1 < 0) || decide (min y.1 5 ≤ x.1)⟩
attribute [push_cast] zPN
@[push_cast] def zSA : Con := ⟨[.dat .int, .ptr .int], fun _ => True, fun (x : Int × Int × Unit) => { res := [.val .bool (decide (x.1 < 0) || decide (min x.2.1 5 ≤ x.1))] }⟩
@[push_cast] def zMz : Con := ⟨[.dat (.sl .int), .dat .int], fun _ => True, fun (x : List Int × Int × Unit) => { res := [.val .bool (okPic x.1 x.2.1)] }⟩
def zOc (l : List Int) : Prop := 0 < l.length
def maxP (l : List Int) : Nat → Int
  | 0 => l.getD 0 0
  | k + 1 => max (maxP l k) (l.getD (k + 1) 0)
def maxV (l : List Int) : Int := maxP l (l.length - 1)
@[push_cast] def zRT : Con := ⟨[.dat (.sl .int)], fun (x : List Int × Unit) => zOc x.1, fun (x : List Int × Unit) => { res := [.val .int (maxV x.1)] }⟩
structure PalPre (l : List Int) (n : Int) : Prop where
  num : 0 ≤ n ∧ n ≤ 1000
  len : l.length ≤ 1000
  at' : ∀ c ∈ l, 0 ≤ c ∧ c < n
@[push_cast] def zHR : Con := ⟨[.dat (.sl .int), .dat .int], fun (x : List Int × Int × Unit) => PalPre x.1 x.2.1, fun (x : List Int × Int × Unit) => { res := [.own (.flat 3 .int (palV x.1 x.2.1.toNat))] }⟩
def zED (l : List Int) (n : Int) : Int := if 1 ≤ n ∧ n ≤ 5 ∧ okPic l n = true then (if 30 < maxV (palV l n.toNat) then 3 else 0) else 1
@[push_cast] def zI7 : Con := ⟨[.dat (.sl .int), .dat .int], fun _ => True, fun (x : List Int × Int × Unit) =>
  { res := [.val (.sl .int) (if zED x.1 x.2.1 = 0 then palV x.1 x.2.1.toNat else []), .val .int (zED x.1 x.2.1)] }⟩
theorem zSB : FnSpec Tryz.prog 111 zSA := by
  refine FnSpec.of_tri' (E := know [] [] [] []) (zAm all_nil all_nil all_nil) Tryz.func111 rfl rfl (by kernel_rfl) ?_
  intro C x hE hnl hfit hpre
  simp only [Tryz.ntmps111, Tryz.results111, maxLen, Nat.reduceSub, Nat.reducePow, Nat.reduceAdd, Int.cast_ofNat_Int, push_cast] at hnl hfit hpre ⊢
  obtain ⟨(c : Int), (n : Int), _⟩ := x
  dsimp only at hfit hpre ⊢
  repeat' (first|(refine goK (by assumption) ?_; iterate 4 (try clear hK K))|(refine zAd fun K hK => ?_)|((first|refine zAb hE rfl ?_|refine zAh ?_|((first|refine zAa hE 1 rfl rfl (by kernel_rfl) ?_|refine zAa hE 2 rfl rfl (by kernel_rfl) ?_|refine zAa hE 3 rfl rfl (by kernel_rfl) ?_|refine zAa hE 4 rfl rfl (by kernel_rfl) ?_); simp only [List.length_cons, List.length_nil, Nat.reduceAdd, Nat.reduceSub, List.take_succ_cons, List.take_zero, List.drop_succ_cons, List.drop_zero])); simp +contextual only [hnl, ↓kN, ↓kP, ↓kG, ↓qN, ↓qP, ↓qG, push_cast, seval, reduceCtorEq, Int.cast_ofNat_Int])|refine zAc ?_|((first|refine zAg ?_|refine zAf ?_); simp only [thenQ, zAk, if_true, if_false, Nat.reduceEqDiff, reduceCtorEq])|(refine zAe (by rfl) (fun hb => ?_) (fun hb => ?_) <;> (try simp only [b1, b2, b3, b4, reduceCtorEq, b5, b6] at hb) <;> (try omega))|refine zAi (by rfl) ?_ ?_|refine andS ?_|(refine ⟨fun hc => ?_, fun hc => ?_⟩)|(intro hc; try omega))
  all_goals first | omega | (simp only [decide_eq_decide]; omega) | (simp only [hc, decide_true, decide_false, Bool.true_or, Bool.false_or]; done) | (simp; done) | (simp; omega) | (simp [*]; done) | (simp [*]; omega)
theorem zPM : CloSpec Tryz.prog 111 zPN := CloSpec.of zSB
theorem zPC {l : List Int} {n : Int} (h : 1 ≤ l.length ∧ l.length ≤ 40) : (!l.any fun y => decide (y < 0) || decide (min n 5 ≤ y)) = okPic l n := by
  unfold okPic
  rw [decide_eq_true h, Bool.true_and]
  induction l with
  | nil => rfl
  | cons x l ih =>
    clear ih h
    generalize x :: l = l
    induction l with
    | nil => rfl
    | cons x l ih =>
      rw [List.any_cons, List.all_cons, Bool.not_or, ih]
      congr 1
      by_cases h1 : x < 0
      · have h2 : ¬ (0 ≤ x ∧ x < n ∧ x < 5) := by omega
        rw [decide_eq_true h1, decide_eq_false h2]; rfl
      · by_cases h3 : min n 5 ≤ x
        · have h2 : ¬ (0 ≤ x ∧ x < n ∧ x < 5) := by omega
          rw [decide_eq_false h1, decide_eq_true h3, decide_eq_false h2]; rfl
        · have h2 : 0 ≤ x ∧ x < n ∧ x < 5 := by omega
          rw [decide_eq_false h1, decide_eq_false h3, decide_eq_true h2]; rfl
theorem zPD {l : List Int} {n : Int} (h : ¬ (1 ≤ l.length ∧ l.length ≤ 40)) : okPic l n = false := by
  unfold okPic
  rw [decide_eq_false h]; rfl
theorem zBp {l : List Int} {n : Int} : okPic l n = true ↔ (1 ≤ l.length ∧ l.length ≤ 40) ∧ ∀ c ∈ l, 0 ≤ c ∧ c < n ∧ c < 5 := by
  simp only [okPic, Bool.and_eq_true, decide_eq_true_eq, List.all_eq_true]
theorem zIG : FnSpec Tryz.prog 59 zMz := by
  refine FnSpec.of_tri' (E := know [(110, zCL)] [(111, zPN)] [] []) (zAm (all_cons zCx all_nil) (all_cons zPM all_nil) all_nil) Tryz.func59 rfl rfl (by kernel_rfl) ?_
  intro C x hE hnl hfit hpre
  simp only [Tryz.ntmps59, Tryz.results59, maxLen, Nat.reduceSub, Nat.reducePow, Nat.reduceAdd, Int.cast_ofNat_Int, push_cast] at hnl hfit hpre ⊢
  obtain ⟨(l : List Int), (n : Int), _⟩ := x
  dsimp only at hfit hpre ⊢
  repeat' (first|(refine goK (by assumption) ?_; iterate 4 (try clear hK K))|(refine zAd fun K hK => ?_)|((first|refine zAb hE rfl ?_|refine zAh ?_|((first|refine zAa hE 1 rfl rfl (by kernel_rfl) ?_|refine zAa hE 2 rfl rfl (by kernel_rfl) ?_|refine zAa hE 3 rfl rfl (by kernel_rfl) ?_|refine zAa hE 4 rfl rfl (by kernel_rfl) ?_); simp only [List.length_cons, List.length_nil, Nat.reduceAdd, Nat.reduceSub, List.take_succ_cons, List.take_zero, List.drop_succ_cons, List.drop_zero])); simp +contextual only [hnl, ↓kN, ↓kP, ↓kG, ↓qN, ↓qP, ↓qG, push_cast, seval, reduceCtorEq, Int.cast_ofNat_Int])|refine zAc ?_|((first|refine zAg ?_|refine zAf ?_); simp only [thenQ, zAk, if_true, if_false, Nat.reduceEqDiff, reduceCtorEq])|(refine zAe (by rfl) (fun hb => ?_) (fun hb => ?_) <;> (try simp only [b1, b2, b3, b4, reduceCtorEq, b5, b6] at hb) <;> (try omega))|refine zAi (by rfl) ?_ ?_|refine andS ?_|(refine ⟨fun hc => ?_, fun hc => ?_⟩)|(intro hc; try omega))
  all_goals first
    | exact zPC (by omega)
    | exact (zPD (by omega)).symm
theorem zJL (l : List Int) (k : Nat) : maxP l (k + 1) = max (maxP l k) (l.getD (k + 1) 0) := rfl
theorem zPr {l : List Int} {m : Int} : ∀ {k : Nat}, m < maxP l k → ∃ i, i ≤ k ∧ m < l.getD i 0
  | 0, h => ⟨0, Nat.le_refl _, h⟩
  | k + 1, h => by
    rw [zJL] at h
    rcases Int.le_total (maxP l k) (l.getD (k + 1) 0) with h1 | h1
    · exact ⟨k + 1, Nat.le_refl _, by omega⟩
    · obtain ⟨i, h2, h3⟩ := zPr (l := l) (k := k) (m := m) (by omega)
      exact ⟨i, by omega, h3⟩
theorem zPq {l : List Int} : ∀ {k i : Nat}, i ≤ k → l.getD i 0 ≤ maxP l k
  | 0, i, h => by
    obtain rfl : i = 0 := by omega
    exact Int.le_refl _
  | k + 1, i, h => by
    rw [zJL]
    rcases Nat.lt_or_ge k i with h1 | h1
    · obtain rfl : i = k + 1 := by omega
      omega
    · have := zPq (l := l) (k := k) h1
      omega
theorem zQZ : FnSpec Tryz.prog 61 zRT := by
  refine FnSpec.of_tri' (E := know [] [] [] []) (zAm all_nil all_nil all_nil) Tryz.func61 rfl rfl (by kernel_rfl) ?_
  intro C x hE hnl hfit hpre
  simp only [Tryz.ntmps61, Tryz.results61, maxLen, Nat.reduceSub, Nat.reducePow, Nat.reduceAdd, Int.cast_ofNat_Int, push_cast] at hnl hfit hpre ⊢
  obtain ⟨(l : List Int), _⟩ := x
  dsimp only at hfit hpre ⊢
  have hl : 0 < l.length := hpre
  replace hnl := And.intro hnl (show decide ((l.length : Int) < 1) = false from decide_eq_false (by omega))
  repeat' (first|(refine goK (by assumption) ?_; iterate 4 (try clear hK K))|(refine zAd fun K hK => ?_)|((first|refine zAb hE rfl ?_|refine zAh ?_|((first|refine zAa hE 1 rfl rfl (by kernel_rfl) ?_|refine zAa hE 2 rfl rfl (by kernel_rfl) ?_|refine zAa hE 3 rfl rfl (by kernel_rfl) ?_|refine zAa hE 4 rfl rfl (by kernel_rfl) ?_); simp only [List.length_cons, List.length_nil, Nat.reduceAdd, Nat.reduceSub, List.take_succ_cons, List.take_zero, List.drop_succ_cons, List.drop_zero])); simp +contextual only [hnl, ↓kN, ↓kP, ↓kG, ↓qN, ↓qP, ↓qG, push_cast, seval, reduceCtorEq, Int.cast_ofNat_Int])|refine zAc ?_|((first|refine zAg ?_|refine zAf ?_); simp only [thenQ, zAk, if_true, if_false, Nat.reduceEqDiff, reduceCtorEq])|(refine zAe (by rfl) (fun hb => ?_) (fun hb => ?_) <;> (try simp only [b1, b2, b3, b4, reduceCtorEq, b5, b6] at hb) <;> (try omega))|refine zAi (by rfl) ?_ ?_|refine andS ?_|(refine ⟨fun hc => ?_, fun hc => ?_⟩)|(intro hc; try omega))
  refine zAl (fun k : Nat => AS.of [(0, .one (.val (.sl .int) l)), (3, .I (maxP l (k - 1))), (4, .I k)] [] []) (fun k => 1 ≤ k ∧ k ≤ l.length) (fun k => l.length - k) 1 ⟨Nat.le_refl _, hl⟩ ?_ ?_
  · refine zAj ?_ ?_ ?_ <;> simp only [push_cast, seval, reduceCtorEq, Int.cast_ofNat_Int]
    rfl
  intro k ⟨hk1, hk⟩ K' hL
  repeat' (first|(refine goK (by assumption) ?_; iterate 4 (try clear hK K))|(refine zAd fun K hK => ?_)|((first|refine zAb hE rfl ?_|refine zAh ?_|((first|refine zAa hE 1 rfl rfl (by kernel_rfl) ?_|refine zAa hE 2 rfl rfl (by kernel_rfl) ?_|refine zAa hE 3 rfl rfl (by kernel_rfl) ?_|refine zAa hE 4 rfl rfl (by kernel_rfl) ?_); simp only [List.length_cons, List.length_nil, Nat.reduceAdd, Nat.reduceSub, List.take_succ_cons, List.take_zero, List.drop_succ_cons, List.drop_zero])); simp +contextual only [hnl, ↓kN, ↓kP, ↓kG, ↓qN, ↓qP, ↓qG, push_cast, seval, reduceCtorEq, Int.cast_ofNat_Int])|refine zAc ?_|((first|refine zAg ?_|refine zAf ?_); simp only [thenQ, zAk, if_true, if_false, Nat.reduceEqDiff, reduceCtorEq])|(refine zAe (by rfl) (fun hb => ?_) (fun hb => ?_) <;> (try simp only [b1, b2, b3, b4, reduceCtorEq, b5, b6] at hb) <;> (try omega))|refine zAi (by rfl) ?_ ?_|refine andS ?_|(refine ⟨fun hc => ?_, fun hc => ?_⟩)|(intro hc; try omega))
  · refine hL _ (k + 1) ⟨by omega, by omega⟩ (by omega) ?_
    refine zAj ?_ ?_ ?_ <;> simp only [push_cast, seval, reduceCtorEq, Int.cast_ofNat_Int]
    obtain ⟨j, rfl⟩ : ∃ j, k = j + 1 := ⟨k - 1, by omega⟩
    rfl
  · obtain rfl : k = l.length := by omega
    rfl
theorem zCK (c : Int) {l : List Int} {k : Nat} (h : k < l.length) : cntV c (l.take (k + 1)) = cntV c (l.take k) + if l.getD k 0 = c then 1 else 0 := by
  unfold cntV
  rw [List.take_succ_eq_append_getElem h, List.count_append]
  rw [List.getD_eq_getElem?_getD, List.getElem?_eq_getElem h, Option.getD_some]
  simp only [List.count_singleton, beq_iff_eq]
  split <;> simp
theorem zCJ (c : Int) (l : List Int) : 0 ≤ cntV c l ∧ cntV c l ≤ l.length := by
  unfold cntV
  have := List.count_le_length (a := c) (l := l)
  omega
theorem zJR {l : List Int} {n k : Nat} (h : k < l.length) (hc : 0 ≤ l.getD k 0) :
    (palV (l.take k) n).set (l.getD k 0).toNat ((palV (l.take k) n).getD (l.getD k 0).toNat 0 + 1) = palV (l.take (k + 1)) n := by
  unfold palV
  rw [zD7]
  refine zAB fun i hi => ?_
  rw [zCK _ h]
  split
  · rename_i e
    rw [← e, zCa _ _ hi, if_pos (by omega)]
  · rename_i e
    rw [if_neg (by omega), Int.add_zero]
theorem zF3 : FnSpec Tryz.prog 60 zHR := by
  refine FnSpec.of_tri' (E := know [] [] [] []) (zAm all_nil all_nil all_nil) Tryz.func60 rfl rfl (by kernel_rfl) ?_
  intro C x hE hnl hfit hpre
  simp only [Tryz.ntmps60, Tryz.results60, maxLen, Nat.reduceSub, Nat.reducePow, Nat.reduceAdd, Int.cast_ofNat_Int, push_cast] at hnl hfit hpre ⊢
  obtain ⟨(l : List Int), (n : Int), _⟩ := x
  dsimp only at hfit hpre ⊢
  obtain ⟨⟨hn0, hn1⟩, hl, hat⟩ := hpre
  obtain ⟨m, rfl⟩ : ∃ m : Nat, n = m := ⟨n.toNat, by omega⟩
  repeat' (first|(refine goK (by assumption) ?_; iterate 4 (try clear hK K))|(refine zAd fun K hK => ?_)|((first|refine zAb hE rfl ?_|refine zAh ?_|((first|refine zAa hE 1 rfl rfl (by kernel_rfl) ?_|refine zAa hE 2 rfl rfl (by kernel_rfl) ?_|refine zAa hE 3 rfl rfl (by kernel_rfl) ?_|refine zAa hE 4 rfl rfl (by kernel_rfl) ?_); simp only [List.length_cons, List.length_nil, Nat.reduceAdd, Nat.reduceSub, List.take_succ_cons, List.take_zero, List.drop_succ_cons, List.drop_zero])); simp +contextual only [hnl, ↓kN, ↓kP, ↓kG, ↓qN, ↓qP, ↓qG, push_cast, seval, reduceCtorEq, Int.cast_ofNat_Int])|refine zAc ?_|((first|refine zAg ?_|refine zAf ?_); simp only [thenQ, zAk, if_true, if_false, Nat.reduceEqDiff, reduceCtorEq])|(refine zAe (by rfl) (fun hb => ?_) (fun hb => ?_) <;> (try simp only [b1, b2, b3, b4, reduceCtorEq, b5, b6] at hb) <;> (try omega))|refine zAi (by rfl) ?_ ?_|refine andS ?_|(refine ⟨fun hc => ?_, fun hc => ?_⟩)|(intro hc; try omega))
  refine zAl (fun k : Nat => AS.of [(0, .one (.val (.sl .int) l)), (5, .one (.ref 9)), (10, .one (.val (.sl .int) l)), (11, .I l.length), (12, .I k)] [(9, .flat 3 .int (palV (l.take k) m))] []) (fun k => k ≤ l.length) (fun k => l.length - k) 0 (Nat.zero_le _) ?_ ?_
  · refine zAj ?_ ?_ ?_ <;> simp only [push_cast, seval, reduceCtorEq, Int.cast_ofNat_Int]
    simp [palV, cntV, zDk]
  intro k hk K' hL
  by_cases hkl : k < l.length
  · have h1 := hat _ (zAw 0 hkl)
    have h2 : (l.getD k 0).toNat < m := by omega
    have h3 : (palV (l.take k) m).getD (l.getD k 0).toNat 0 = cntV (l.getD k 0) (l.take k) := by
      unfold palV
      rw [zCa _ _ h2, Int.toNat_of_nonneg h1.1]
    have h4 := zCJ (l.getD k 0) (l.take k)
    have h5 : (l.take k).length ≤ 1000 := by rw [List.length_take]; omega
    have h6 := zJR (n := m) hkl h1.1
    have h7 : (palV (l.take k) m).length = m := zBK _ _
    replace hnl := And.intro hnl h7
    repeat' (first|(refine goK (by assumption) ?_; iterate 4 (try clear hK K))|(refine zAd fun K hK => ?_)|((first|refine zAb hE rfl ?_|refine zAh ?_|((first|refine zAa hE 1 rfl rfl (by kernel_rfl) ?_|refine zAa hE 2 rfl rfl (by kernel_rfl) ?_|refine zAa hE 3 rfl rfl (by kernel_rfl) ?_|refine zAa hE 4 rfl rfl (by kernel_rfl) ?_); simp only [List.length_cons, List.length_nil, Nat.reduceAdd, Nat.reduceSub, List.take_succ_cons, List.take_zero, List.drop_succ_cons, List.drop_zero])); simp +contextual only [hnl, ↓kN, ↓kP, ↓kG, ↓qN, ↓qP, ↓qG, push_cast, seval, reduceCtorEq, Int.cast_ofNat_Int])|refine zAc ?_|((first|refine zAg ?_|refine zAf ?_); simp only [thenQ, zAk, if_true, if_false, Nat.reduceEqDiff, reduceCtorEq])|(refine zAe (by rfl) (fun hb => ?_) (fun hb => ?_) <;> (try simp only [b1, b2, b3, b4, reduceCtorEq, b5, b6] at hb) <;> (try omega))|refine zAi (by rfl) ?_ ?_|refine andS ?_|(refine ⟨fun hc => ?_, fun hc => ?_⟩)|(intro hc; try omega))
    refine hL _ (k + 1) (by omega) (by omega) ?_
    refine zAj ?_ ?_ ?_ <;> simp only [push_cast, seval, reduceCtorEq, Int.cast_ofNat_Int]
    exact .inl (congrArg _ h6)
  · obtain rfl : k = l.length := by omega
    rw [List.take_length]
    exact auB
theorem zGt (l : List Int) (n : Nat) : (palV l n).length = n := zBK _ _
theorem zL8 {l : List Int} {n : Int} (h : ¬ (1 ≤ n ∧ n ≤ 5 ∧ okPic l n = true)) : zED l n = 1 := if_neg h
theorem zL9 {l : List Int} {n : Int} (h : 1 ≤ n ∧ n ≤ 5 ∧ okPic l n = true) (h2 : 30 < maxV (palV l n.toNat)) : zED l n = 3 := by
  unfold zED
  rw [if_pos h, if_pos h2]
theorem zL7 {l : List Int} {n : Int} (h : 1 ≤ n ∧ n ≤ 5 ∧ okPic l n = true) (h2 : ¬ 30 < maxV (palV l n.toNat)) : zED l n = 0 := by
  unfold zED
  rw [if_pos h, if_neg h2]
theorem zFT : FnSpec Tryz.prog 21 zI7 := by
  refine FnSpec.of_tri' (E := know [(59, zMz), (60, zHR), (61, zRT)] [] [] []) (zAm (all_cons zIG (all_cons zF3 (all_cons zQZ all_nil))) all_nil all_nil) Tryz.func21 rfl rfl (by kernel_rfl) ?_
  intro C x hE hnl hfit hpre
  simp only [Tryz.ntmps21, Tryz.results21, maxLen, Nat.reduceSub, Nat.reducePow, Nat.reduceAdd, Int.cast_ofNat_Int, push_cast] at hnl hfit hpre ⊢
  obtain ⟨(l : List Int), (n : Int), _⟩ := x
  dsimp only at hfit hpre ⊢
  by_cases h : 1 ≤ n ∧ n ≤ 5 ∧ okPic l n = true
  · obtain ⟨h1, h2, h3⟩ := h
    obtain ⟨⟨g1, g2⟩, g3⟩ := zBp.1 h3
    have hp : PalPre l n := ⟨by omega, by omega, fun c hc => by have := g3 c hc; omega⟩
    have hm : zOc (palV l n.toNat) := by unfold zOc; rw [zGt]; omega
    by_cases h4 : 30 < maxV (palV l n.toNat)
    · replace hnl := And.intro hnl (And.intro h3 (And.intro (zL9 ⟨h1, h2, h3⟩ h4) (And.intro (eq_true hp) (And.intro (eq_true hm) (show decide (30 < maxV (palV l n.toNat)) = true from decide_eq_true h4)))))
      exact auB
    · replace hnl := And.intro hnl (And.intro h3 (And.intro (zL7 ⟨h1, h2, h3⟩ h4) (And.intro (eq_true hp) (And.intro (eq_true hm) (show decide (30 < maxV (palV l n.toNat)) = false from decide_eq_false h4)))))
      exact auB
  · have he := zL8 h
    replace hnl := And.intro hnl he
    repeat' (first|(refine goK (by assumption) ?_; iterate 4 (try clear hK K))|(refine zAd fun K hK => ?_)|((first|refine zAb hE rfl ?_|refine zAh ?_|((first|refine zAa hE 1 rfl rfl (by kernel_rfl) ?_|refine zAa hE 2 rfl rfl (by kernel_rfl) ?_|refine zAa hE 3 rfl rfl (by kernel_rfl) ?_|refine zAa hE 4 rfl rfl (by kernel_rfl) ?_); simp only [List.length_cons, List.length_nil, Nat.reduceAdd, Nat.reduceSub, List.take_succ_cons, List.take_zero, List.drop_succ_cons, List.drop_zero])); simp +contextual only [hnl, ↓kN, ↓kP, ↓kG, ↓qN, ↓qP, ↓qG, push_cast, seval, reduceCtorEq, Int.cast_ofNat_Int])|refine zAc ?_|((first|refine zAg ?_|refine zAf ?_); simp only [thenQ, zAk, if_true, if_false, Nat.reduceEqDiff, reduceCtorEq])|(refine zAe (by rfl) (fun hb => ?_) (fun hb => ?_) <;> (try simp only [b1, b2, b3, b4, reduceCtorEq, b5, b6] at hb) <;> (try omega))|refine zAi (by rfl) ?_ ?_|refine andS ?_|(refine ⟨fun hc => ?_, fun hc => ?_⟩)|(intro hc; try omega))
    all_goals first
      | omega
      | exact absurd ⟨by omega, by omega, by simpa using hb⟩ h
end Go.Proofs.YtlgkplnifaoeeaaGreatDoor
namespace Go.Proofs.YtlgkplnifaoeeaaGreatDoor
open Go.RowKit Go.VS
theorem zID (n : Nat) (hn : n ≤ 1000) : bits .and .u64 (n : Int) 4294967295 = n := by
  have := bits_and_u64_nat n 4294967295 (by omega) (by omega)
  rw [show ((4294967295 : Nat) : Int) = 4294967295 from rfl] at this
  rw [this, show (4294967295 : Nat) = 2 ^ 32 - 1 from rfl, Nat.and_two_pow_sub_one_eq_mod, Nat.mod_eq_of_lt (by omega)]
theorem zPx (n : Nat) (hn : n ≤ 1000) (w : World) : Calls Tryz.prog 156 #[.int .u64 1, .int .u64 n] w fun e w' => e = .returned (.tuple #[.int .u64 0, .int .u64 n]) ∧ w' = w := by
  have a1 : bits .and .u64 1 4294967295 = 1 := zID 1 (by omega)
  have a0 : bits .and .u64 0 4294967295 = 0 := zID 0 (by omega)
  have an := zID n hn
  have w0 : IntKind.u64.wrap 0 = 0 := by decide
  have wn : IntKind.u64.wrap (n : Int) = n := IntWalk.u64_in _ (by omega)
  have d1 : (n : Int) / 4294967296 = 0 := by omega
  go_enter Tryz.func156, Tryz.ntmps156
  go_wp2
  simp [bodyPost, results, Tryz.results156, go_sem, a1, a0, an, w0, wn, d1]
theorem mul_one (n : Nat) (hn : n ≤ 1000) (w : World) : Calls Tryz.prog 114 #[.int .u64 1, .int .u64 n] w fun e w' => e = .returned (.tuple #[.int .u64 0, .int .u64 n]) ∧ w' = w := by
  go_enter Tryz.func114, Tryz.ntmps114
  go_wp2_with (go_at_call 156; refine (zPx n hn _).mono ?_; rintro e w' ⟨rfl, rfl⟩)
  simp [bodyPost, results, Tryz.results114, go_sem]
set_option maxRecDepth 20000 in
theorem zJ3 (v : Int) (n : Nat) (hn : n ≤ 1000) (w : World) (b off cap : Nat) (hx : w.cell? ⟨b, off, none⟩ = some (.int .i64 v)) (hlt : b < w.heap.size) :
    Calls Tryz.prog 68 #[.slice (some ⟨b, off, none⟩) 1 cap, .int .i64 n] w fun e w' =>
      e = .returned (.slice (some ⟨w.heap.size, 0, none⟩) n n) ∧ w'.heap[w.heap.size]? = some (.cells (List.replicate n (.int .i64 v)).toArray 3 (0, 0)) ∧ Below w.heap.size w w' := by
  have wn : IntKind.u64.wrap (n : Int) = n := IntWalk.u64_in _ (by omega)
  have wi : IntKind.i64.wrap (n : Int) = n := IntWalk.i64_in _ (by omega)
  have w1 : IntKind.u64.wrap 1 = 1 := by decide
  have hmk : ∀ w : World, (Instr.makeSlice 25 (.int .i64 n) (.int .i64 n)).run Tryz.prog w = .ok (.slice (some ⟨w.heap.size, 0, none⟩) n n) (w.alloc (.cells (List.replicate n (Value.int .i64 0)).toArray 3)) := fun w => by
    obtain ⟨i, z, hi, hs, hby, hz, hzc⟩ := tabOK.lang.info 3 .int shI
    have h1 := Nat.mul_le_mul hn hby
    have h2 : ((n * i.bytes : Nat) : Int) ≤ 1024000 := by omega
    rw [Int.natCast_mul] at h2
    have h3 : (i.bytes : Int) * (n : Int) ≤ 281474976710656 := by rw [Int.mul_comm]; omega
    have h4 := run_makeSlice (P := Tryz.prog) (w := w) 25 3 i z Tryz.underlying25 hi hz .i64 .i64 n n (by omega) (by omega) (by rw [Int.toNat_natCast, show i.size = 1 from hs]; omega) h3 (by omega)
    rw [Int.toNat_natCast, show i.size = 1 from hs, Nat.mul_one] at h4
    rw [h4]
    have hz' : z.cells.toList = [Value.int .i64 0] := hzc
    have h5 := zDW (sh := .int) z.cells hz' (by decide) n
    have h6 : (List.replicate n (Sh.int).zero).flatMap (Sh.int).cells = List.replicate n (Value.int .i64 0) := by rw [List.flatMap_replicate]; simp [Sh.cells, Sh.zero]
    rw [h6, show (Sh.int).size = 1 from rfl, Nat.mul_one] at h5
    rw [show madeCells z.cells n = (List.replicate n (Value.int .i64 0)).toArray from by rw [← Array.toList_inj, h5]]
  go_enter Tryz.func68, Tryz.ntmps68
  have hsz : (Tryz.prog.info? 3).map (·.size) = some 1 := by
    obtain ⟨i, z, hi, hs, _⟩ := tabOK.lang.info 3 .int shI
    rw [hi]
    exact congrArg some hs
  obtain ⟨W, hW⟩ : ∃ W, W = w.alloc (.cells (List.replicate n (Value.int .i64 0)).toArray 3) := ⟨_, rfl⟩
  have hWg : W.heap[w.heap.size]? = some (.cells (List.replicate n (Value.int .i64 0)).toArray 3 (0, 0)) := by rw [hW]; simp only [World.alloc, Array.getElem?_push, if_true]
  have hWb : Below w.heap.size w W := by rw [hW]; exact (Below.refl _ _).alloc (Nat.le_refl _) _
  have hWx : W.cell? ⟨b, off, none⟩ = some (.int .i64 v) := by
    rw [← hx]
    exact World.cell?_of_block (hWb.block b hlt)
  have hWz : W.heap.size = w.heap.size + 1 := by rw [hW]; simp only [World.alloc, Array.size_push]
  replace hmk := hmk w
  rw [← hW] at hmk
  clear hW
  go_wp2_with (first | (go_at_call 114; refine (mul_one n hn _).mono ?_; rintro e w' ⟨rfl, hw'⟩; rw [hw']; clear hw') | (show wpList _ _ _ (⟨some 33, _, _, _, _, _⟩ :: _) _ _; go_loud (refine wpList_copy_splice rfl _ _ _ _ rfl 3 Tryz.underlying25 hsz _ _ _ _ _ _ rfl rfl w.heap.size 0 (List.replicate n (Value.int .i64 0)) 3 hWg (List.replicate (Nat.min 1 n) (.int .i64 v)) ?c1 ?c2 ?c3 ?c4 w.heap.size w hWb (Nat.le_refl _) ?_)))
  case c1 => simp
  case c2 =>
    intro _ j u hj
    have hj' := (List.getElem?_eq_some_iff.1 hj).1
    rw [List.length_replicate] at hj'
    have hm1 : Nat.min 1 n ≤ 1 := Nat.min_le_left _ _
    obtain rfl : j = 0 := by omega
    have : u = .int .i64 v := by simpa using (List.mem_replicate.1 (List.mem_of_getElem? hj)).2
    rw [this]
    exact hWx
  case c3 =>
    rw [List.length_replicate, List.length_replicate, Nat.zero_add]
    exact Nat.min_le_right _ _
  case c4 =>
    intro u hu
    rw [(List.mem_replicate.1 hu).2]
    rfl
  · intro w1 hc1 hb1
    go_wp2
    go_loopw [8] (fun y wr => ∃ m : Nat, m ≤ n ∧ (m = 0 → n = 0) ∧ y = .int .i64 m ∧ wr.heap[w.heap.size]? = some (.cells (List.replicate m (Value.int .i64 v) ++ List.replicate (n - m) (Value.int .i64 0)).toArray 3 (0, 0)) ∧ Below w.heap.size w wr) (fun y _ => n - (intOf y).toNat)
    case atStart =>
      have hc1' : w1.heap[w.heap.size]? = some (.cells (splice (List.replicate n (Value.int .i64 0)) 0 (List.replicate (Nat.min 1 n) (Value.int .i64 v))).toArray 3 (0, 0)) := hc1
      have hm1 : Nat.min 1 n ≤ 1 := Nat.min_le_left _ _
      have hm2 : Nat.min 1 n ≤ n := Nat.min_le_right _ _
      refine ⟨Nat.min 1 n, hm2, fun h => ?_, rfl, ?_, hb1⟩
      · rcases Nat.eq_zero_or_pos n with h0 | h0
        · exact h0
        · rw [show Nat.min 1 n = 1 from Nat.min_eq_left h0] at h
          omega
      · rw [hc1']
        congr 2
        simp [splice]
    case round =>
      obtain ⟨m, hm, hm0, rfl, hcm, hbm⟩ := hrel
      rcases Nat.lt_or_ge m n with hmn | hmn
      · have hcp := run_copy_row (P := Tryz.prog) wr.drew 25 25 3 3 w.heap.size m (n - m) (n - m) ⟨w.heap.size, 0, none⟩ m n (List.replicate m (Value.int .i64 v) ++ List.replicate (n - m) (Value.int .i64 0)).toArray 3 (List.replicate (Nat.min m (n - m)) (Value.int .i64 v)) Tryz.underlying25 hsz hcm
        obtain ⟨k, hk⟩ : ∃ k, k = Nat.min m (n - m) := ⟨_, rfl⟩
        have hk1 : k ≤ m := by rw [hk]; exact Nat.min_le_left _ _
        have hk2 : k ≤ n - m := by rw [hk]; exact Nat.min_le_right _ _
        have hk0 : 0 < k := by
          rw [hk]
          exact Nat.lt_min.2 ⟨by omega, by omega⟩
        rw [← hk] at hcp
        replace hcp := hcp (by simp) (fun j u hj => by
          have hj' := (List.getElem?_eq_some_iff.1 hj).1
          rw [List.length_replicate] at hj'
          have hu : u = .int .i64 v := (List.mem_replicate.1 (List.mem_of_getElem? hj)).2
          rw [hu]
          rw [Addr.add_lit]
          have hcm' : wr.drew.heap[w.heap.size]? = some (.cells (List.replicate m (Value.int .i64 v) ++ List.replicate (n - m) (Value.int .i64 0)).toArray 3 (0, 0)) := hcm
          simp [World.cell?, hcm', List.getElem?_append_left, show j < m by omega, List.getElem?_replicate]) (by simp; omega) (fun u hu => by rw [(List.mem_replicate.1 hu).2]; rfl)
        obtain ⟨W2, hW2⟩ : ∃ W2, W2 = wr.drew.setRow w.heap.size (((List.replicate m (Value.int .i64 v) ++ List.replicate (n - m) (Value.int .i64 0)).toArray.toList.take m ++ List.replicate k (Value.int .i64 v) ++ (List.replicate m (Value.int .i64 v) ++ List.replicate (n - m) (Value.int .i64 0)).toArray.toList.drop (m + (List.replicate k (Value.int .i64 v)).length)).toArray) := ⟨_, rfl⟩
        rw [← hW2] at hcp
        have hc2 : W2.heap[w.heap.size]? = some (.cells (List.replicate (m + k) (Value.int .i64 v) ++ List.replicate (n - (m + k)) (Value.int .i64 0)).toArray 3 (0, 0)) := by
          rw [hW2, setRow_heap wr.drew w.heap.size _ _ 3 _ hcm]
          congr 3
          rw [List.toList_toArray, List.length_replicate, List.take_append_of_le_length (by simp), List.take_of_length_le (by simp), List.drop_append, List.drop_eq_nil_of_le (by simp), List.length_replicate, List.drop_replicate, List.nil_append, List.replicate_append_replicate]
          congr 2
          omega
        have hb2 : Below w.heap.size w W2 := by rw [hW2]; exact below_setRow hbm.drew (Nat.le_refl _) _
        have hlen : (List.replicate k (Value.int .i64 v)).length = k := List.length_replicate
        rw [hlen] at hcp
        clear hW2 hc1 hk
        have hne : ¬ n = m := by omega
        have wk : IntKind.i64.wrap ((m : Int) + (k : Int)) = ((m + k : Nat) : Int) := by rw [show (m : Int) + (k : Int) = ((m + k : Nat) : Int) by omega]; exact IntWalk.i64_in _ (by omega)
        have hmn' : (m : Int) < (n : Int) := by omega
        have hmn2 : (m : Int) ≤ (n : Int) := by omega
        go_wp2
        go_region
        go_wp2
        go_roundw
        case rel => exact ⟨m + k, by omega, by omega, rfl, hc2, hb2⟩
        case measure =>
          show n - (((m + k : Nat) : Int)).toNat < n - ((m : Int)).toNat
          omega
      · obtain rfl : m = n := by omega
        go_wp2
        simp [bodyPost, results, Tryz.results68, go_sem]
        exact ⟨by simpa using hcm, hbm⟩
structure RepPre (l : List Int) (n : Int) : Prop where
  len : l.length = 1
  num : 0 ≤ n ∧ n ≤ 1000
@[push_cast] def zRZ : Con := ⟨[.dat (.sl .int), .dat .int], fun (x : List Int × Int × Unit) => RepPre x.1 x.2.1, fun (x : List Int × Int × Unit) => { res := [.val (.sl .int) (List.replicate x.2.1.toNat (x.1.getD 0 0))] }⟩
theorem zLv : FnSpec Tryz.prog 68 zRZ := by
  refine ⟨⟨_, Tryz.func68, by kernel_rfl, rfl⟩, fun C γ x vs hpre hen => ?_⟩
  have hargs := hen.args
  have hlt := hen.ownlt
  obtain ⟨(l : List Int), (n : Int), _⟩ := x
  obtain ⟨hl, hn0, hn1⟩ := hpre
  dsimp only at hl hn0 hn1
  obtain ⟨v, rfl⟩ : ∃ v, l = [v] := by
    match l, hl with
    | [v], _ => exact ⟨v, rfl⟩
  obtain ⟨k, rfl⟩ : ∃ k : Nat, n = k := ⟨n.toNat, by omega⟩
  obtain ⟨v0, _, rfl, h0, v1, _, rfl, h1, rfl⟩ := hargs
  obtain ⟨cs, ⟨ad, cap, rfl, hc, hm, hall⟩, hv0⟩ := h0
  obtain ⟨b, off, c, rfl, hz, hbb, hp, hcell⟩ := hall 0 (by simp)
  have hp' : c = [.int .i64 v] := hp
  subst hp'
  have hcl : C.w0.cell? ⟨b, off, none⟩ = some (.int .i64 v) := by simpa using hcell 0 _ rfl
  have e0 : v0 = .slice (some ⟨b, off, none⟩) 1 cap := hv0
  have e1 : v1 = .int .i64 (k : Int) := zAD h1
  subst e0 e1
  show Calls _ _ #[.slice (some ⟨b, off, none⟩) 1 cap, .int .i64 (k : Int)] C.w0 _
  refine (zJ3 v k (by omega) C.w0 b off cap hcl hbb).mono ?_
  rintro e w2 ⟨rfl, hheap, hbel⟩
  refine ⟨_, γ, rfl, ⟨⟨[], [], [_], rfl, ⟨_, [], rfl, ?_, rfl, rfl, rfl⟩, List.nodup_nil, List.nodup_nil⟩, fun p hp => (by cases hp), fun p hp => (by cases hp), fun b l hb => Nat.lt_of_lt_of_le (hlt b l hb) hbel.size⟩, ⟨hbel.os, hbel.tape, hbel.output, hbel.size, fun b hb _ => hbel.block b hb⟩⟩
  have hfm : (List.replicate k v).flatMap (Sh.int).cells = List.replicate k (Value.int .i64 v) := by rw [List.flatMap_replicate]; simp [Sh.cells]
  have hlt2 := (Array.getElem?_eq_some_iff.1 hheap).1
  have hno : γ.own C.w0.heap.size = none := by
    cases ho : γ.own C.w0.heap.size with
    | none => rfl
    | some l => have := hlt _ l ho; omega
  refine ⟨[.slice (some ⟨C.w0.heap.size, 0, none⟩) k k], zAZ (e := 3) (sh := .int) rfl ?_ (fun g hg => ?_), rfl⟩
  · show w2.ownsRow 0 _ 1 _ (List.replicate (Int.toNat (k : Int)) v).length ((List.replicate (Int.toNat (k : Int)) v).flatMap (Sh.int).cells)
    rw [Int.toNat_natCast, hfm, List.length_replicate]
    exact ⟨by simp, .inr ⟨C.w0.heap.size, k, _, rfl, Nat.zero_le _, hheap, Nat.le_refl _, by unfold maxLen; omega, by simp, by simp⟩⟩
  · simp only [Value.ownBlock, Option.some.injEq] at hg
    subst hg
    exact ⟨.inr (.inl (Nat.le_refl _)), hno⟩
end Go.Proofs.YtlgkplnifaoeeaaGreatDoor
