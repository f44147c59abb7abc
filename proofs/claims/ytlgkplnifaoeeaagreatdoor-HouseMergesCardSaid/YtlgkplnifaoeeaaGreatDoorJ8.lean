import Derived.Test.YtlgkplnifaoeeaaGreatDoorJ7
import Derived.Lib.AtoiAllCases
import Derived.Test.YtlgkplnifaoeeaaGreatDoorJ6
import Derived.Test.YtlgkplnifaoeeaaGreatDoorJ5
set_option linter.unusedSimpArgs false
set_option linter.unusedVariables false
namespace Go.Proofs.YtlgkplnifaoeeaaGreatDoor
open Go.RowKit Go.VS
def nlS : ByteArray := ⟨#[10]⟩
def spS : ByteArray := ⟨#[32]⟩
theorem zRJ : ({ data := #[10] } : ByteArray) = nlS := rfl
theorem zJX : ({ data := #[32] } : ByteArray) = spS := rfl
def lastV (b : ByteArray) : Int := atoiV (cut1 ((zAN (trimV b nlS) nlS).getD (((zAN (trimV b nlS) nlS).length : Int) - 1).toNat ByteArray.empty) spS)
@[push_cast] def zOQ : Con := ⟨[.dat .str], fun (x : ByteArray × Unit) => x.1.size ≤ 100000, fun (x : ByteArray × Unit) => { res := [.val .int (lastV x.1)] }⟩
theorem zOR : FnSpec Tryz.prog 128 zOQ := by
  refine FnSpec.of_tri' (E := know [(175, zPY), (122, zIK), (83, zOj), (124, zIe)] [] [] []) (zAn (all_cons zPZ (all_cons zHW (all_cons zLL (all_cons zGt all_nil)))) all_nil all_nil) Tryz.func128 rfl rfl (by kernel_rfl) ?_
  intro C x hE hnl hfit hpre
  simp only [Tryz.ntmps128, Tryz.results128, maxLen, Nat.reduceSub, Nat.reducePow, Nat.reduceAdd, Int.cast_ofNat_Int, push_cast] at hnl hfit hpre ⊢
  obtain ⟨(b : ByteArray), _⟩ := x
  dsimp only at hfit hpre ⊢
  have h1 : 1 ≤ nlS.size := Nat.le_refl _
  have h2 := zNF b nlS
  have h3 := zEu (trimV b nlS) nlS h1
  have h4 := zHV (trimV b nlS) nlS _ (zBd ByteArray.empty (show (((zAN (trimV b nlS) nlS).length : Int) - 1).toNat < (zAN (trimV b nlS) nlS).length by omega))
  have h5 := zOi ((zAN (trimV b nlS) nlS).getD (((zAN (trimV b nlS) nlS).length : Int) - 1).toNat ByteArray.empty) spS
  have h6 := zHU (trimV b nlS) nlS h1
  replace hnl := And.intro hnl (And.intro zRJ zJX)
  cases hA : zCK (cut1 ((zAN (trimV b nlS) nlS).getD (((zAN (trimV b nlS) nlS).length : Int) - 1).toNat ByteArray.empty) spS) with
  | true =>
    replace hnl := And.intro hnl hA
    repeat' (first|(refine goK (by assumption) ?_; iterate 4 (try clear hK K))|(refine zAd fun K hK => ?_)|((first|refine zAb hE rfl ?_|refine zAh ?_|((first|refine zAa hE 1 rfl rfl (by kernel_rfl) ?_|refine zAa hE 2 rfl rfl (by kernel_rfl) ?_|refine zAa hE 3 rfl rfl (by kernel_rfl) ?_|refine zAa hE 4 rfl rfl (by kernel_rfl) ?_); simp only [List.length_cons, List.length_nil, Nat.reduceAdd, Nat.reduceSub, List.take_succ_cons, List.take_zero, List.drop_succ_cons, List.drop_zero])); simp +contextual only [hnl, ↓kN, ↓kP, ↓kG, ↓qN, ↓qP, ↓qG, push_cast, seval, reduceCtorEq, Int.cast_ofNat_Int])|refine zAc ?_|((first|refine zAg ?_|refine zAf ?_); simp only [thenQ, zAk, if_true, if_false, Nat.reduceEqDiff, reduceCtorEq])|(refine zAe (by rfl) (fun hb => ?_) (fun hb => ?_) <;> (try simp only [b1, b2, b3, b4, reduceCtorEq, b5, b6] at hb) <;> (try omega))|refine zAi (by rfl) ?_ ?_|refine andS ?_|(refine ⟨fun hc => ?_, fun hc => ?_⟩)|(intro hc; try omega))
    rfl
  | false =>
    replace hnl := And.intro hnl hA
    repeat' (first|(refine goK (by assumption) ?_; iterate 4 (try clear hK K))|(refine zAd fun K hK => ?_)|((first|refine zAb hE rfl ?_|refine zAh ?_|((first|refine zAa hE 1 rfl rfl (by kernel_rfl) ?_|refine zAa hE 2 rfl rfl (by kernel_rfl) ?_|refine zAa hE 3 rfl rfl (by kernel_rfl) ?_|refine zAa hE 4 rfl rfl (by kernel_rfl) ?_); simp only [List.length_cons, List.length_nil, Nat.reduceAdd, Nat.reduceSub, List.take_succ_cons, List.take_zero, List.drop_succ_cons, List.drop_zero])); simp +contextual only [hnl, ↓kN, ↓kP, ↓kG, ↓qN, ↓qP, ↓qG, push_cast, seval, reduceCtorEq, Int.cast_ofNat_Int])|refine zAc ?_|((first|refine zAg ?_|refine zAf ?_); simp only [thenQ, zAk, if_true, if_false, Nat.reduceEqDiff, reduceCtorEq])|(refine zAe (by rfl) (fun hb => ?_) (fun hb => ?_) <;> (try simp only [b1, b2, b3, b4, reduceCtorEq, b5, b6] at hb) <;> (try omega))|refine zAi (by rfl) ?_ ?_|refine andS ?_|(refine ⟨fun hc => ?_, fun hc => ?_⟩)|(intro hc; try omega))
    rfl
def textV (least : Int) (order : ByteArray) : ByteArray := itoaV least ++ spS ++ order
def zDb (book : ByteArray) (least : Int) (order : ByteArray) : ByteArray := book ++ itoaV (sumV (lastV book) (textV least order)) ++ spS ++ textV least order ++ nlS
structure WrPre (book : ByteArray) (least : Int) (order : ByteArray) : Prop where
  book : book.size ≤ 100000
  least : InR least
  order : order.size ≤ 1000
@[push_cast] def zEB : Con := ⟨[.dat .str, .dat .int, .dat .str], fun (x : ByteArray × Int × ByteArray × Unit) => WrPre x.1 x.2.1 x.2.2.1, fun (x : ByteArray × Int × ByteArray × Unit) => { res := [.val .str (zDb x.1 x.2.1 x.2.2.1)] }⟩
theorem zBc (a b : ByteArray) : (a ++ b).size = a.size + b.size := ByteArray.size_append
theorem zKh : FnSpec Tryz.prog 80 zEB := by
  refine FnSpec.of_tri' (E := know [(125, zGF), (128, zOQ), (19, zFM)] [] [] []) (zAn (all_cons zE8 (all_cons zOR (all_cons zFz all_nil))) all_nil all_nil) Tryz.func80 rfl rfl (by kernel_rfl) ?_
  intro C x hE hnl hfit hpre
  simp only [Tryz.ntmps80, Tryz.results80, maxLen, Nat.reduceSub, Nat.reducePow, Nat.reduceAdd, Int.cast_ofNat_Int, push_cast] at hnl hfit hpre ⊢
  obtain ⟨(book : ByteArray), (least : Int), (order : ByteArray), _⟩ := x
  dsimp only at hfit hpre ⊢
  obtain ⟨hb1, hb2, hb3⟩ := hpre
  have h1 := zCI hb2
  have h2 : nlS.size = 1 := rfl
  have h3 : spS.size = 1 := rfl
  have h4 : (textV least order).size = (itoaV least).size + 1 + order.size := by unfold textV; rw [zBc, zBc]; rfl
  have h5 := zCi (lastV book) (textV least order) (textV least order).size
  have h6 : InR (sumV (lastV book) (textV least order)) := by unfold InR sumV; omega
  have h7 := zCI h6
  have hT : itoaV least ++ spS ++ order = textV least order := rfl
  have h8 : (itoaV least ++ spS).size = (itoaV least).size + 1 := zBc _ _
  have h9 : (book ++ itoaV (sumV (lastV book) (textV least order))).size = book.size + (itoaV (sumV (lastV book) (textV least order))).size := zBc _ _
  have h10 : (book ++ itoaV (sumV (lastV book) (textV least order)) ++ spS).size = book.size + (itoaV (sumV (lastV book) (textV least order))).size + 1 := by rw [zBc, h9]; rfl
  have h11 : (book ++ itoaV (sumV (lastV book) (textV least order)) ++ spS ++ textV least order).size = book.size + (itoaV (sumV (lastV book) (textV least order))).size + 1 + (textV least order).size := by rw [zBc, h10]
  have h12 : book.size ≤ 100000 := hb1
  replace hnl := And.intro hnl (And.intro zRJ (And.intro zJX (And.intro hT (And.intro h2 (And.intro h3 (And.intro h8 (And.intro h9 (And.intro h10 h11))))))))
  repeat' (first|(refine goK (by assumption) ?_; iterate 4 (try clear hK K))|(refine zAd fun K hK => ?_)|((first|refine zAb hE rfl ?_|refine zAh ?_|((first|refine zAa hE 1 rfl rfl (by kernel_rfl) ?_|refine zAa hE 2 rfl rfl (by kernel_rfl) ?_|refine zAa hE 3 rfl rfl (by kernel_rfl) ?_|refine zAa hE 4 rfl rfl (by kernel_rfl) ?_); simp only [List.length_cons, List.length_nil, Nat.reduceAdd, Nat.reduceSub, List.take_succ_cons, List.take_zero, List.drop_succ_cons, List.drop_zero])); simp +contextual only [hnl, ↓kN, ↓kP, ↓kG, ↓qN, ↓qP, ↓qG, push_cast, seval, reduceCtorEq, Int.cast_ofNat_Int])|refine zAc ?_|((first|refine zAg ?_|refine zAf ?_); simp only [thenQ, zAk, if_true, if_false, Nat.reduceEqDiff, reduceCtorEq])|(refine zAe (by rfl) (fun hb => ?_) (fun hb => ?_) <;> (try simp only [b1, b2, b3, b4, reduceCtorEq, b5, b6] at hb) <;> (try omega))|refine zAi (by rfl) ?_ ?_|refine andS ?_|(refine ⟨fun hc => ?_, fun hc => ?_⟩)|(intro hc; try omega))
  all_goals rfl
def numV (s : ByteArray) (most : Int) : Bool := zCK s && (decide (0 ≤ atoiV s) && (decide (atoiV s ≤ most) && decide (itoaV (atoiV s) = s)))
@[push_cast] def zRK : Con := ⟨[.dat .str, .dat .int], fun (x : ByteArray × Int × Unit) => x.1.size ≤ 1000000, fun (x : ByteArray × Int × Unit) => { res := [.val .int (atoiV x.1), .val .bool (numV x.1 x.2.1)] }⟩
theorem zQe (s : ByteArray) : InR (atoiV s) := by
  unfold atoiV InR
  split
  · rename_i v h
    have := Lib.atoiAll_bounds h
    omega
  · have := Lib.atoiSat_bounds s.data.toList
    omega
  · omega
theorem zQR : FnSpec Tryz.prog 84 zRK := by
  refine FnSpec.of_tri' (E := know [(124, zIe), (125, zGF)] [] [] []) (zAn (all_cons zGt (all_cons zE8 all_nil)) all_nil all_nil) Tryz.func84 rfl rfl (by kernel_rfl) ?_
  intro C x hE hnl hfit hpre
  simp only [Tryz.ntmps84, Tryz.results84, maxLen, Nat.reduceSub, Nat.reducePow, Nat.reduceAdd, Int.cast_ofNat_Int, push_cast] at hnl hfit hpre ⊢
  obtain ⟨(s : ByteArray), (most : Int), _⟩ := x
  dsimp only at hfit hpre ⊢
  have hin : InR (atoiV s) := zQe s
  cases hA : zCK s with
  | true =>
    replace hnl := And.intro hnl hA
    repeat' (first|(refine goK (by assumption) ?_; iterate 4 (try clear hK K))|(refine zAd fun K hK => ?_)|((first|refine zAb hE rfl ?_|refine zAh ?_|((first|refine zAa hE 1 rfl rfl (by kernel_rfl) ?_|refine zAa hE 2 rfl rfl (by kernel_rfl) ?_|refine zAa hE 3 rfl rfl (by kernel_rfl) ?_|refine zAa hE 4 rfl rfl (by kernel_rfl) ?_); simp only [List.length_cons, List.length_nil, Nat.reduceAdd, Nat.reduceSub, List.take_succ_cons, List.take_zero, List.drop_succ_cons, List.drop_zero])); simp +contextual only [hnl, ↓kN, ↓kP, ↓kG, ↓qN, ↓qP, ↓qG, push_cast, seval, reduceCtorEq, Int.cast_ofNat_Int])|refine zAc ?_|((first|refine zAg ?_|refine zAf ?_); simp only [thenQ, zAk, if_true, if_false, Nat.reduceEqDiff, reduceCtorEq])|(refine zAe (by rfl) (fun hb => ?_) (fun hb => ?_) <;> (try simp only [b1, b2, b3, b4, reduceCtorEq, b5, b6] at hb) <;> (try omega))|refine zAi (by rfl) ?_ ?_|refine andS ?_|(refine ⟨fun hc => ?_, fun hc => ?_⟩)|(intro hc; try omega))
    all_goals simp [numV, *]
  | false =>
    replace hnl := And.intro hnl hA
    repeat' (first|(refine goK (by assumption) ?_; iterate 4 (try clear hK K))|(refine zAd fun K hK => ?_)|((first|refine zAb hE rfl ?_|refine zAh ?_|((first|refine zAa hE 1 rfl rfl (by kernel_rfl) ?_|refine zAa hE 2 rfl rfl (by kernel_rfl) ?_|refine zAa hE 3 rfl rfl (by kernel_rfl) ?_|refine zAa hE 4 rfl rfl (by kernel_rfl) ?_); simp only [List.length_cons, List.length_nil, Nat.reduceAdd, Nat.reduceSub, List.take_succ_cons, List.take_zero, List.drop_succ_cons, List.drop_zero])); simp +contextual only [hnl, ↓kN, ↓kP, ↓kG, ↓qN, ↓qP, ↓qG, push_cast, seval, reduceCtorEq, Int.cast_ofNat_Int])|refine zAc ?_|((first|refine zAg ?_|refine zAf ?_); simp only [thenQ, zAk, if_true, if_false, Nat.reduceEqDiff, reduceCtorEq])|(refine zAe (by rfl) (fun hb => ?_) (fun hb => ?_) <;> (try simp only [b1, b2, b3, b4, reduceCtorEq, b5, b6] at hb) <;> (try omega))|refine zAi (by rfl) ?_ ?_|refine andS ?_|(refine ⟨fun hc => ?_, fun hc => ?_⟩)|(intro hc; try omega))
    all_goals simp [numV, *]
end Go.Proofs.YtlgkplnifaoeeaaGreatDoor
namespace Go.Proofs.YtlgkplnifaoeeaaGreatDoor
open Go.RowKit Go.VS
theorem zJv : FnSpec Tryz.prog 62 zCY := by
  refine FnSpec.of_tri' (E := know [] [] [] []) (zAn all_nil all_nil all_nil) Tryz.func62 rfl rfl (by kernel_rfl) ?_
  intro C x hE hnl hfit hpre
  simp only [Tryz.ntmps62, Tryz.results62, maxLen, Nat.reduceSub, Nat.reducePow, Nat.reduceAdd, Int.cast_ofNat_Int, push_cast] at hnl hfit hpre ⊢
  obtain ⟨(n : Int), (lo : Int), (hi : Int), _⟩ := x
  dsimp only at hfit hpre ⊢
  repeat' (first|(refine goK (by assumption) ?_; iterate 4 (try clear hK K))|(refine zAd fun K hK => ?_)|((first|refine zAb hE rfl ?_|refine zAh ?_|((first|refine zAa hE 1 rfl rfl (by kernel_rfl) ?_|refine zAa hE 2 rfl rfl (by kernel_rfl) ?_|refine zAa hE 3 rfl rfl (by kernel_rfl) ?_|refine zAa hE 4 rfl rfl (by kernel_rfl) ?_); simp only [List.length_cons, List.length_nil, Nat.reduceAdd, Nat.reduceSub, List.take_succ_cons, List.take_zero, List.drop_succ_cons, List.drop_zero])); simp +contextual only [hnl, ↓kN, ↓kP, ↓kG, ↓qN, ↓qP, ↓qG, push_cast, seval, reduceCtorEq, Int.cast_ofNat_Int])|refine zAc ?_|((first|refine zAg ?_|refine zAf ?_); simp only [thenQ, zAk, if_true, if_false, Nat.reduceEqDiff, reduceCtorEq])|(refine zAe (by rfl) (fun hb => ?_) (fun hb => ?_) <;> (try simp only [b1, b2, b3, b4, reduceCtorEq, b5, b6] at hb) <;> (try omega))|refine zAi (by rfl) ?_ ?_|refine andS ?_|(refine ⟨fun hc => ?_, fun hc => ?_⟩)|(intro hc; try omega))
  all_goals first | omega | (simp only [decide_eq_decide]; omega) | (simp only [hc, decide_true, decide_false, Bool.true_or, Bool.false_or]; done) | (simp; done) | (simp; omega) | (simp [*]; done) | (simp [*]; omega)
end Go.Proofs.YtlgkplnifaoeeaaGreatDoor
namespace Go.Proofs.YtlgkplnifaoeeaaGreatDoor
open Go.RowKit Go.VS
def byteV (s : ByteArray) (k : Nat) : Nat := (s.data.toList.getD k 0).toNat
def decK (s : ByteArray) : Nat → Int
  | 0 => 0
  | k + 1 => 10 * decK s k + ((byteV s k : Int) - 48)
def zKG (s : ByteArray) : Bool := (List.range s.size).all fun k => decide (48 ≤ byteV s k ∧ byteV s k ≤ 57)
def zBG (s : ByteArray) : Bool := decide (1 ≤ s.size ∧ s.size ≤ 6 ∧ ¬ (1 < s.size ∧ byteV s 0 = 48)) && zKG s
def numRV (s : ByteArray) : Int := if zBG s = true then decK s s.size else 0
theorem zCO {s : ByteArray} : zKG s = true ↔ ∀ k, k < s.size → 48 ≤ byteV s k ∧ byteV s k ≤ 57 := by
  simp only [zKG, List.all_eq_true, List.mem_range, decide_eq_true_eq]
theorem zFt {s : ByteArray} (h6 : s.size ≤ 6) : ∀ {k : Nat}, (∀ i, i < k → 48 ≤ byteV s i ∧ byteV s i ≤ 57) → 0 ≤ decK s k ∧ decK s k + 1 ≤ 10 ^ k
  | 0, _ => by simp [decK]
  | k + 1, h => by
    obtain ⟨h1, h2⟩ := zFt h6 (k := k) (fun i hi => h i (by omega))
    have h3 := h k (by omega)
    have e : decK s (k + 1) = 10 * decK s k + ((byteV s k : Int) - 48) := rfl
    rw [e, Int.pow_succ]
    omega
@[push_cast] def zPf : Con := ⟨[.dat .str, .dat .int], fun _ => True, fun (x : ByteArray × Int × Unit) => { res := [.val .int (numRV x.1), .val .bool (zBG x.1 && decide (numRV x.1 ≤ x.2.1))] }⟩
theorem zGR {s : ByteArray} (h : zBG s = false) : numRV s = 0 := by rw [numRV, h]; rfl
theorem zK0 {s : ByteArray} (h : ¬ (1 ≤ s.size ∧ s.size ≤ 6 ∧ ¬ (1 < s.size ∧ byteV s 0 = 48))) : zBG s = false := by rw [zBG, decide_eq_false h]; rfl
theorem zC2 {s : ByteArray} {k : Nat} (hk : k < s.size) (h : ¬ (48 ≤ byteV s k ∧ byteV s k ≤ 57)) : zBG s = false := by
  rw [zBG, Bool.and_eq_false_iff]
  right
  rw [Bool.eq_false_iff]
  exact fun h2 => h (zCO.1 h2 k hk)
theorem zHI {s : ByteArray} (h : 1 ≤ s.size ∧ s.size ≤ 6 ∧ ¬ (1 < s.size ∧ byteV s 0 = 48)) (h2 : ∀ k, k < s.size → 48 ≤ byteV s k ∧ byteV s k ≤ 57) : zBG s = true := by
  rw [zBG, decide_eq_true h, Bool.true_and]
  exact zCO.2 h2
theorem zDQ {s : ByteArray} (h6 : s.size ≤ 6) {k : Nat} (hk : k ≤ 6) (h : ∀ i, i < k → 48 ≤ byteV s i ∧ byteV s i ≤ 57) : 0 ≤ decK s k ∧ decK s k ≤ 999999 := by
  obtain ⟨h1, h2⟩ := zFt h6 h
  have : (10 : Int) ^ k ≤ 10 ^ 6 := by
    rcases k with _ | _ | _ | _ | _ | _ | _ | k <;> first | decide | omega
  have e : (10 : Int) ^ 6 = 1000000 := rfl
  omega
theorem zPh : FnSpec Tryz.prog 133 zPf := by
  refine FnSpec.of_tri' (E := know [] [] [] []) (zAn all_nil all_nil all_nil) Tryz.func133 rfl rfl (by kernel_rfl) ?_
  intro C x hE hnl hfit hpre
  simp only [Tryz.ntmps133, Tryz.results133, maxLen, Nat.reduceSub, Nat.reducePow, Nat.reduceAdd, Int.cast_ofNat_Int, push_cast] at hnl hfit hpre ⊢
  obtain ⟨(s : ByteArray), (most : Int), _⟩ := x
  dsimp only at hfit hpre ⊢
  by_cases hd : 1 ≤ s.size ∧ s.size ≤ 6 ∧ ¬ (1 < s.size ∧ byteV s 0 = 48)
  rotate_left
  · have e1 := zK0 hd
    have e2 := zGR e1
    by_cases h0 : byteV s 0 = 48
    · replace hnl := And.intro hnl (And.intro e1 (And.intro e2 (show decide ((s.data.toList.getD 0 0).toNat = 48) = true from decide_eq_true h0)))
      repeat' (first|(refine goK (by assumption) ?_; iterate 4 (try clear hK K))|(refine zAd fun K hK => ?_)|((first|refine zAb hE rfl ?_|refine zAh ?_|((first|refine zAa hE 1 rfl rfl (by kernel_rfl) ?_|refine zAa hE 2 rfl rfl (by kernel_rfl) ?_|refine zAa hE 3 rfl rfl (by kernel_rfl) ?_|refine zAa hE 4 rfl rfl (by kernel_rfl) ?_); simp only [List.length_cons, List.length_nil, Nat.reduceAdd, Nat.reduceSub, List.take_succ_cons, List.take_zero, List.drop_succ_cons, List.drop_zero])); simp +contextual only [hnl, ↓kN, ↓kP, ↓kG, ↓qN, ↓qP, ↓qG, push_cast, seval, reduceCtorEq, Int.cast_ofNat_Int])|refine zAc ?_|((first|refine zAg ?_|refine zAf ?_); simp only [thenQ, zAk, if_true, if_false, Nat.reduceEqDiff, reduceCtorEq])|(refine zAe (by rfl) (fun hb => ?_) (fun hb => ?_) <;> (try simp only [b1, b2, b3, b4, reduceCtorEq, b5, b6] at hb) <;> (try omega))|refine zAi (by rfl) ?_ ?_|refine andS ?_|(refine ⟨fun hc => ?_, fun hc => ?_⟩)|(intro hc; try omega))
      all_goals omega
    · replace hnl := And.intro hnl (And.intro e1 (And.intro e2 (show decide ((s.data.toList.getD 0 0).toNat = 48) = false from decide_eq_false h0)))
      repeat' (first|(refine goK (by assumption) ?_; iterate 4 (try clear hK K))|(refine zAd fun K hK => ?_)|((first|refine zAb hE rfl ?_|refine zAh ?_|((first|refine zAa hE 1 rfl rfl (by kernel_rfl) ?_|refine zAa hE 2 rfl rfl (by kernel_rfl) ?_|refine zAa hE 3 rfl rfl (by kernel_rfl) ?_|refine zAa hE 4 rfl rfl (by kernel_rfl) ?_); simp only [List.length_cons, List.length_nil, Nat.reduceAdd, Nat.reduceSub, List.take_succ_cons, List.take_zero, List.drop_succ_cons, List.drop_zero])); simp +contextual only [hnl, ↓kN, ↓kP, ↓kG, ↓qN, ↓qP, ↓qG, push_cast, seval, reduceCtorEq, Int.cast_ofNat_Int])|refine zAc ?_|((first|refine zAg ?_|refine zAf ?_); simp only [thenQ, zAk, if_true, if_false, Nat.reduceEqDiff, reduceCtorEq])|(refine zAe (by rfl) (fun hb => ?_) (fun hb => ?_) <;> (try simp only [b1, b2, b3, b4, reduceCtorEq, b5, b6] at hb) <;> (try omega))|refine zAi (by rfl) ?_ ?_|refine andS ?_|(refine ⟨fun hc => ?_, fun hc => ?_⟩)|(intro hc; try omega))
      all_goals omega
  obtain ⟨d1, d2, d3⟩ := hd
  by_cases h0 : 1 < s.size
  · have h00 : ¬ byteV s 0 = 48 := fun h => d3 ⟨h0, h⟩
    replace hnl := And.intro hnl (show decide ((s.data.toList.getD 0 0).toNat = 48) = false from decide_eq_false h00)
    repeat' (first|(refine goK (by assumption) ?_; iterate 4 (try clear hK K))|(refine zAd fun K hK => ?_)|((first|refine zAb hE rfl ?_|refine zAh ?_|((first|refine zAa hE 1 rfl rfl (by kernel_rfl) ?_|refine zAa hE 2 rfl rfl (by kernel_rfl) ?_|refine zAa hE 3 rfl rfl (by kernel_rfl) ?_|refine zAa hE 4 rfl rfl (by kernel_rfl) ?_); simp only [List.length_cons, List.length_nil, Nat.reduceAdd, Nat.reduceSub, List.take_succ_cons, List.take_zero, List.drop_succ_cons, List.drop_zero])); simp +contextual only [hnl, ↓kN, ↓kP, ↓kG, ↓qN, ↓qP, ↓qG, push_cast, seval, reduceCtorEq, Int.cast_ofNat_Int])|refine zAc ?_|((first|refine zAg ?_|refine zAf ?_); simp only [thenQ, zAk, if_true, if_false, Nat.reduceEqDiff, reduceCtorEq])|(refine zAe (by rfl) (fun hb => ?_) (fun hb => ?_) <;> (try simp only [b1, b2, b3, b4, reduceCtorEq, b5, b6] at hb) <;> (try omega))|refine zAi (by rfl) ?_ ?_|refine andS ?_|(refine ⟨fun hc => ?_, fun hc => ?_⟩)|(intro hc; try omega))
    all_goals try omega
    refine zAp (fun k : Nat => AS.of [(0, .one (.val .str s)), (1, .one (.val .int most)), (6, .I (decK s k)), (7, .I k)] [] []) (fun k => k ≤ s.size ∧ ∀ i, i < k → 48 ≤ byteV s i ∧ byteV s i ≤ 57) (fun k => s.size - k) 0 ⟨Nat.zero_le _, by omega⟩ ?_ ?_
    · refine zAj ?_ ?_ ?_ <;> simp only [push_cast, seval, reduceCtorEq, Int.cast_ofNat_Int]
      all_goals first | rfl | exact ⟨rfl, rfl⟩
    intro k ⟨hk, hall⟩ K' hL
    have hb := zDQ d2 (k := k) (by omega) hall
    rcases Nat.lt_or_ge k s.size with hks | hks
    · by_cases h1 : 48 ≤ byteV s k
      · by_cases h2 : byteV s k ≤ 57
        · have hb2 := zDQ d2 (k := k + 1) (by omega) (fun i hi => by rcases Nat.lt_or_ge i k with h3 | h3; exact hall i h3; (obtain rfl : i = k := by omega); exact ⟨h1, h2⟩)
          have he : decK s (k + 1) = 10 * decK s k + ((byteV s k : Int) - 48) := rfl
          have h1' : 48 ≤ (s.data.toList.getD k 0).toNat := h1
          have h2' : (s.data.toList.getD k 0).toNat ≤ 57 := h2
          replace hnl := And.intro hnl (And.intro (show decide ((s.data.toList.getD k 0).toNat < 48) = false from decide_eq_false (by omega)) (show decide (57 < (s.data.toList.getD k 0).toNat) = false from decide_eq_false (by omega)))
          repeat' (first|(refine goK (by assumption) ?_; iterate 4 (try clear hK K))|(refine zAd fun K hK => ?_)|((first|refine zAb hE rfl ?_|refine zAh ?_|((first|refine zAa hE 1 rfl rfl (by kernel_rfl) ?_|refine zAa hE 2 rfl rfl (by kernel_rfl) ?_|refine zAa hE 3 rfl rfl (by kernel_rfl) ?_|refine zAa hE 4 rfl rfl (by kernel_rfl) ?_); simp only [List.length_cons, List.length_nil, Nat.reduceAdd, Nat.reduceSub, List.take_succ_cons, List.take_zero, List.drop_succ_cons, List.drop_zero])); simp +contextual only [hnl, ↓kN, ↓kP, ↓kG, ↓qN, ↓qP, ↓qG, push_cast, seval, reduceCtorEq, Int.cast_ofNat_Int])|refine zAc ?_|((first|refine zAg ?_|refine zAf ?_); simp only [thenQ, zAk, if_true, if_false, Nat.reduceEqDiff, reduceCtorEq])|(refine zAe (by rfl) (fun hb => ?_) (fun hb => ?_) <;> (try simp only [b1, b2, b3, b4, reduceCtorEq, b5, b6] at hb) <;> (try omega))|refine zAi (by rfl) ?_ ?_|refine andS ?_|(refine ⟨fun hc => ?_, fun hc => ?_⟩)|(intro hc; try omega))
          refine hL _ (k + 1) ⟨by omega, fun i hi => ?_⟩ (by omega) ?_
          · rcases Nat.lt_or_ge i k with h3 | h3
            · exact hall i h3
            · obtain rfl : i = k := by omega
              exact ⟨h1, h2⟩
          refine zAj ?_ ?_ ?_ <;> simp only [push_cast, seval, reduceCtorEq, Int.cast_ofNat_Int]
          show 10 * decK s k + ((((s.data.toList.getD k 0).toNat : Int) - 48) % 256).toNat = 10 * decK s k + (((s.data.toList.getD k 0).toNat : Int) - 48)
          omega
        · have e1 := zC2 hks (fun h => h2 h.2)
          have e2 := zGR e1
          have h2' : ¬ (s.data.toList.getD k 0).toNat ≤ 57 := h2
          replace hnl := And.intro hnl (And.intro e1 (And.intro e2 (And.intro (show decide ((s.data.toList.getD k 0).toNat < 48) = false from decide_eq_false (by omega)) (show decide (57 < (s.data.toList.getD k 0).toNat) = true from decide_eq_true (by omega)))))
          exact auB
      · have e1 := zC2 hks (fun h => h1 h.1)
        have e2 := zGR e1
        have h1' : ¬ 48 ≤ (s.data.toList.getD k 0).toNat := h1
        replace hnl := And.intro hnl (And.intro e1 (And.intro e2 (show decide ((s.data.toList.getD k 0).toNat < 48) = true from decide_eq_true (by omega))))
        exact auB
    · obtain rfl : k = s.size := by omega
      have e1 := zHI ⟨d1, d2, d3⟩ hall
      have e2 : numRV s = decK s s.size := by rw [numRV, if_pos e1]
      replace hnl := And.intro hnl (And.intro e1 e2)
      exact auB
  · repeat' (first|(refine goK (by assumption) ?_; iterate 4 (try clear hK K))|(refine zAd fun K hK => ?_)|((first|refine zAb hE rfl ?_|refine zAh ?_|((first|refine zAa hE 1 rfl rfl (by kernel_rfl) ?_|refine zAa hE 2 rfl rfl (by kernel_rfl) ?_|refine zAa hE 3 rfl rfl (by kernel_rfl) ?_|refine zAa hE 4 rfl rfl (by kernel_rfl) ?_); simp only [List.length_cons, List.length_nil, Nat.reduceAdd, Nat.reduceSub, List.take_succ_cons, List.take_zero, List.drop_succ_cons, List.drop_zero])); simp +contextual only [hnl, ↓kN, ↓kP, ↓kG, ↓qN, ↓qP, ↓qG, push_cast, seval, reduceCtorEq, Int.cast_ofNat_Int])|refine zAc ?_|((first|refine zAg ?_|refine zAf ?_); simp only [thenQ, zAk, if_true, if_false, Nat.reduceEqDiff, reduceCtorEq])|(refine zAe (by rfl) (fun hb => ?_) (fun hb => ?_) <;> (try simp only [b1, b2, b3, b4, reduceCtorEq, b5, b6] at hb) <;> (try omega))|refine zAi (by rfl) ?_ ?_|refine andS ?_|(refine ⟨fun hc => ?_, fun hc => ?_⟩)|(intro hc; try omega))
    all_goals try omega
    refine zAp (fun k : Nat => AS.of [(0, .one (.val .str s)), (1, .one (.val .int most)), (6, .I (decK s k)), (7, .I k)] [] []) (fun k => k ≤ s.size ∧ ∀ i, i < k → 48 ≤ byteV s i ∧ byteV s i ≤ 57) (fun k => s.size - k) 0 ⟨Nat.zero_le _, by omega⟩ ?_ ?_
    · refine zAj ?_ ?_ ?_ <;> simp only [push_cast, seval, reduceCtorEq, Int.cast_ofNat_Int]
      all_goals first | rfl | exact ⟨rfl, rfl⟩
    intro k ⟨hk, hall⟩ K' hL
    have hb := zDQ d2 (k := k) (by omega) hall
    rcases Nat.lt_or_ge k s.size with hks | hks
    · by_cases h1 : 48 ≤ byteV s k
      · by_cases h2 : byteV s k ≤ 57
        · have hb2 := zDQ d2 (k := k + 1) (by omega) (fun i hi => by rcases Nat.lt_or_ge i k with h3 | h3; exact hall i h3; (obtain rfl : i = k := by omega); exact ⟨h1, h2⟩)
          have he : decK s (k + 1) = 10 * decK s k + ((byteV s k : Int) - 48) := rfl
          have h1' : 48 ≤ (s.data.toList.getD k 0).toNat := h1
          have h2' : (s.data.toList.getD k 0).toNat ≤ 57 := h2
          replace hnl := And.intro hnl (And.intro (show decide ((s.data.toList.getD k 0).toNat < 48) = false from decide_eq_false (by omega)) (show decide (57 < (s.data.toList.getD k 0).toNat) = false from decide_eq_false (by omega)))
          repeat' (first|(refine goK (by assumption) ?_; iterate 4 (try clear hK K))|(refine zAd fun K hK => ?_)|((first|refine zAb hE rfl ?_|refine zAh ?_|((first|refine zAa hE 1 rfl rfl (by kernel_rfl) ?_|refine zAa hE 2 rfl rfl (by kernel_rfl) ?_|refine zAa hE 3 rfl rfl (by kernel_rfl) ?_|refine zAa hE 4 rfl rfl (by kernel_rfl) ?_); simp only [List.length_cons, List.length_nil, Nat.reduceAdd, Nat.reduceSub, List.take_succ_cons, List.take_zero, List.drop_succ_cons, List.drop_zero])); simp +contextual only [hnl, ↓kN, ↓kP, ↓kG, ↓qN, ↓qP, ↓qG, push_cast, seval, reduceCtorEq, Int.cast_ofNat_Int])|refine zAc ?_|((first|refine zAg ?_|refine zAf ?_); simp only [thenQ, zAk, if_true, if_false, Nat.reduceEqDiff, reduceCtorEq])|(refine zAe (by rfl) (fun hb => ?_) (fun hb => ?_) <;> (try simp only [b1, b2, b3, b4, reduceCtorEq, b5, b6] at hb) <;> (try omega))|refine zAi (by rfl) ?_ ?_|refine andS ?_|(refine ⟨fun hc => ?_, fun hc => ?_⟩)|(intro hc; try omega))
          refine hL _ (k + 1) ⟨by omega, fun i hi => ?_⟩ (by omega) ?_
          · rcases Nat.lt_or_ge i k with h3 | h3
            · exact hall i h3
            · obtain rfl : i = k := by omega
              exact ⟨h1, h2⟩
          refine zAj ?_ ?_ ?_ <;> simp only [push_cast, seval, reduceCtorEq, Int.cast_ofNat_Int]
          show 10 * decK s k + ((((s.data.toList.getD k 0).toNat : Int) - 48) % 256).toNat = 10 * decK s k + (((s.data.toList.getD k 0).toNat : Int) - 48)
          omega
        · have e1 := zC2 hks (fun h => h2 h.2)
          have e2 := zGR e1
          have h2' : ¬ (s.data.toList.getD k 0).toNat ≤ 57 := h2
          replace hnl := And.intro hnl (And.intro e1 (And.intro e2 (And.intro (show decide ((s.data.toList.getD k 0).toNat < 48) = false from decide_eq_false (by omega)) (show decide (57 < (s.data.toList.getD k 0).toNat) = true from decide_eq_true (by omega)))))
          exact auB
      · have e1 := zC2 hks (fun h => h1 h.1)
        have e2 := zGR e1
        have h1' : ¬ 48 ≤ (s.data.toList.getD k 0).toNat := h1
        replace hnl := And.intro hnl (And.intro e1 (And.intro e2 (show decide ((s.data.toList.getD k 0).toNat < 48) = true from decide_eq_true (by omega))))
        exact auB
    · obtain rfl : k = s.size := by omega
      have e1 := zHI ⟨d1, d2, d3⟩ hall
      have e2 : numRV s = decK s s.size := by rw [numRV, if_pos e1]
      replace hnl := And.intro hnl (And.intro e1 e2)
      exact auB
end Go.Proofs.YtlgkplnifaoeeaaGreatDoor
namespace Go.Proofs.YtlgkplnifaoeeaaGreatDoor
open Go.RowKit Go.VS
def pPut : ByteArray := ⟨#[112, 117, 116]⟩
def pTake : ByteArray := ⟨#[116, 97, 107, 101]⟩
def pWant : ByteArray := ⟨#[119, 97, 110, 116]⟩
def pDrop : ByteArray := ⟨#[100, 114, 111, 112]⟩
def pCost : ByteArray := ⟨#[99, 111, 115, 116]⟩
def zTw : ByteArray := ⟨#[119, 97, 115, 116, 101]⟩
def zTv : ByteArray := ⟨#[99, 108, 97, 105, 109]⟩
end Go.Proofs.YtlgkplnifaoeeaaGreatDoor
