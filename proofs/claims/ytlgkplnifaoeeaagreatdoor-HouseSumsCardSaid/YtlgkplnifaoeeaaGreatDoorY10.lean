import Derived.Test.YtlgkplnifaoeeaaGreatDoorY9
import Derived.Lib.AtoiAllCases
import Derived.Test.YtlgkplnifaoeeaaGreatDoorY8
set_option linter.unusedSimpArgs false
set_option linter.unusedVariables false
namespace Go.Proofs.YtlgkplnifaoeeaaGreatDoor
open Go.RowKit Go.VS
def nlS : ByteArray := ⟨#[10]⟩
def spS : ByteArray := ⟨#[32]⟩
theorem zRW : ({ data := #[10] } : ByteArray) = nlS := rfl
theorem zML : ({ data := #[32] } : ByteArray) = spS := rfl
def lastV (b : ByteArray) : Int := atoiV (cut1 ((zAP (trimV b nlS) nlS).getD (((zAP (trimV b nlS) nlS).length : Int) - 1).toNat ByteArray.empty) spS)
@[push_cast] def zPb : Con := ⟨[.dat .str], fun (x : ByteArray × Unit) => x.1.size ≤ 100000, fun (x : ByteArray × Unit) => { res := [.val .int (lastV x.1)] }⟩
theorem zPc : FnSpec Tryz.prog 128 zPb := by
  refine FnSpec.of_tri' (E := know [(175, zQe), (122, zI0), (83, zRK), (124, zKK)] [] [] []) (zAm (all_cons zQf (all_cons zH1 (all_cons zQA (all_cons zJb all_nil)))) all_nil all_nil) Tryz.func128 rfl rfl (by kernel_rfl) ?_
  intro C x hE hnl hfit hpre
  simp only [Tryz.ntmps128, Tryz.results128, maxLen, Nat.reduceSub, Nat.reducePow, Nat.reduceAdd, Int.cast_ofNat_Int, push_cast] at hnl hfit hpre ⊢
  obtain ⟨(b : ByteArray), _⟩ := x
  dsimp only at hfit hpre ⊢
  have h1 : 1 ≤ nlS.size := Nat.le_refl _
  have h2 := zNZ b nlS
  have h3 := zEu (trimV b nlS) nlS h1
  have h4 := zH0 (trimV b nlS) nlS _ (zAw ByteArray.empty (show (((zAP (trimV b nlS) nlS).length : Int) - 1).toNat < (zAP (trimV b nlS) nlS).length by omega))
  have h5 := zOD ((zAP (trimV b nlS) nlS).getD (((zAP (trimV b nlS) nlS).length : Int) - 1).toNat ByteArray.empty) spS
  have h6 := zHZ (trimV b nlS) nlS h1
  replace hnl := And.intro hnl (And.intro zRW zML)
  cases hA : zDJ (cut1 ((zAP (trimV b nlS) nlS).getD (((zAP (trimV b nlS) nlS).length : Int) - 1).toNat ByteArray.empty) spS) with
  | true =>
    replace hnl := And.intro hnl hA
    repeat' (first|(refine goK (by assumption) ?_; iterate 4 (try clear hK K))|(refine zAd fun K hK => ?_)|((first|refine zAb hE rfl ?_|refine zAh ?_|((first|refine zAa hE 1 rfl rfl (by kernel_rfl) ?_|refine zAa hE 2 rfl rfl (by kernel_rfl) ?_|refine zAa hE 3 rfl rfl (by kernel_rfl) ?_|refine zAa hE 4 rfl rfl (by kernel_rfl) ?_); simp only [List.length_cons, List.length_nil, Nat.reduceAdd, Nat.reduceSub, List.take_succ_cons, List.take_zero, List.drop_succ_cons, List.drop_zero])); simp +contextual only [hnl, ↓kN, ↓kP, ↓kG, ↓qN, ↓qP, ↓qG, push_cast, seval, reduceCtorEq, Int.cast_ofNat_Int])|refine zAc ?_|((first|refine zAg ?_|refine zAf ?_); simp only [thenQ, zAk, if_true, if_false, Nat.reduceEqDiff, reduceCtorEq])|(refine zAe (by rfl) (fun hb => ?_) (fun hb => ?_) <;> (try simp only [b1, b2, b3, b4, reduceCtorEq, b5, b6] at hb) <;> (try omega))|refine zAi (by rfl) ?_ ?_|refine andS ?_|(refine ⟨fun hc => ?_, fun hc => ?_⟩)|(intro hc; try omega))
    rfl
  | false =>
    replace hnl := And.intro hnl hA
    repeat' (first|(refine goK (by assumption) ?_; iterate 4 (try clear hK K))|(refine zAd fun K hK => ?_)|((first|refine zAb hE rfl ?_|refine zAh ?_|((first|refine zAa hE 1 rfl rfl (by kernel_rfl) ?_|refine zAa hE 2 rfl rfl (by kernel_rfl) ?_|refine zAa hE 3 rfl rfl (by kernel_rfl) ?_|refine zAa hE 4 rfl rfl (by kernel_rfl) ?_); simp only [List.length_cons, List.length_nil, Nat.reduceAdd, Nat.reduceSub, List.take_succ_cons, List.take_zero, List.drop_succ_cons, List.drop_zero])); simp +contextual only [hnl, ↓kN, ↓kP, ↓kG, ↓qN, ↓qP, ↓qG, push_cast, seval, reduceCtorEq, Int.cast_ofNat_Int])|refine zAc ?_|((first|refine zAg ?_|refine zAf ?_); simp only [thenQ, zAk, if_true, if_false, Nat.reduceEqDiff, reduceCtorEq])|(refine zAe (by rfl) (fun hb => ?_) (fun hb => ?_) <;> (try simp only [b1, b2, b3, b4, reduceCtorEq, b5, b6] at hb) <;> (try omega))|refine zAi (by rfl) ?_ ?_|refine andS ?_|(refine ⟨fun hc => ?_, fun hc => ?_⟩)|(intro hc; try omega))
    rfl
def textV (least : Int) (order : ByteArray) : ByteArray := itoaV least ++ spS ++ order
def zC9 (book : ByteArray) (least : Int) (order : ByteArray) : ByteArray := book ++ itoaV (sumV (lastV book) (textV least order)) ++ spS ++ textV least order ++ nlS
structure WrPre (book : ByteArray) (least : Int) (order : ByteArray) : Prop where
  book : book.size ≤ 100000
  least : InR least
  order : order.size ≤ 1000
@[push_cast] def zEB : Con := ⟨[.dat .str, .dat .int, .dat .str], fun (x : ByteArray × Int × ByteArray × Unit) => WrPre x.1 x.2.1 x.2.2.1, fun (x : ByteArray × Int × ByteArray × Unit) => { res := [.val .str (zC9 x.1 x.2.1 x.2.2.1)] }⟩
theorem zBt (a b : ByteArray) : (a ++ b).size = a.size + b.size := ByteArray.size_append
theorem zKB : FnSpec Tryz.prog 80 zEB := by
  refine FnSpec.of_tri' (E := know [(125, zLb), (128, zPb), (19, zFO)] [] [] []) (zAm (all_cons zJv (all_cons zPc (all_cons zFB all_nil))) all_nil all_nil) Tryz.func80 rfl rfl (by kernel_rfl) ?_
  intro C x hE hnl hfit hpre
  simp only [Tryz.ntmps80, Tryz.results80, maxLen, Nat.reduceSub, Nat.reducePow, Nat.reduceAdd, Int.cast_ofNat_Int, push_cast] at hnl hfit hpre ⊢
  obtain ⟨(book : ByteArray), (least : Int), (order : ByteArray), _⟩ := x
  dsimp only at hfit hpre ⊢
  obtain ⟨hb1, hb2, hb3⟩ := hpre
  have h1 := zEg hb2
  have h2 : nlS.size = 1 := rfl
  have h3 : spS.size = 1 := rfl
  have h4 : (textV least order).size = (itoaV least).size + 1 + order.size := by unfold textV; rw [zBt, zBt]; rfl
  have h5 := zCG (lastV book) (textV least order) (textV least order).size
  have h6 : InR (sumV (lastV book) (textV least order)) := by unfold InR sumV; omega
  have h7 := zEg h6
  have hT : itoaV least ++ spS ++ order = textV least order := rfl
  have h8 : (itoaV least ++ spS).size = (itoaV least).size + 1 := zBt _ _
  have h9 : (book ++ itoaV (sumV (lastV book) (textV least order))).size = book.size + (itoaV (sumV (lastV book) (textV least order))).size := zBt _ _
  have h10 : (book ++ itoaV (sumV (lastV book) (textV least order)) ++ spS).size = book.size + (itoaV (sumV (lastV book) (textV least order))).size + 1 := by rw [zBt, h9]; rfl
  have h11 : (book ++ itoaV (sumV (lastV book) (textV least order)) ++ spS ++ textV least order).size = book.size + (itoaV (sumV (lastV book) (textV least order))).size + 1 + (textV least order).size := by rw [zBt, h10]
  have h12 : book.size ≤ 100000 := hb1
  replace hnl := And.intro hnl (And.intro zRW (And.intro zML (And.intro hT (And.intro h2 (And.intro h3 (And.intro h8 (And.intro h9 (And.intro h10 h11))))))))
  repeat' (first|(refine goK (by assumption) ?_; iterate 4 (try clear hK K))|(refine zAd fun K hK => ?_)|((first|refine zAb hE rfl ?_|refine zAh ?_|((first|refine zAa hE 1 rfl rfl (by kernel_rfl) ?_|refine zAa hE 2 rfl rfl (by kernel_rfl) ?_|refine zAa hE 3 rfl rfl (by kernel_rfl) ?_|refine zAa hE 4 rfl rfl (by kernel_rfl) ?_); simp only [List.length_cons, List.length_nil, Nat.reduceAdd, Nat.reduceSub, List.take_succ_cons, List.take_zero, List.drop_succ_cons, List.drop_zero])); simp +contextual only [hnl, ↓kN, ↓kP, ↓kG, ↓qN, ↓qP, ↓qG, push_cast, seval, reduceCtorEq, Int.cast_ofNat_Int])|refine zAc ?_|((first|refine zAg ?_|refine zAf ?_); simp only [thenQ, zAk, if_true, if_false, Nat.reduceEqDiff, reduceCtorEq])|(refine zAe (by rfl) (fun hb => ?_) (fun hb => ?_) <;> (try simp only [b1, b2, b3, b4, reduceCtorEq, b5, b6] at hb) <;> (try omega))|refine zAi (by rfl) ?_ ?_|refine andS ?_|(refine ⟨fun hc => ?_, fun hc => ?_⟩)|(intro hc; try omega))
  all_goals rfl
end Go.Proofs.YtlgkplnifaoeeaaGreatDoor
namespace Go.Proofs.YtlgkplnifaoeeaaGreatDoor
open Go.RowKit Go.VS
theorem zF2 : FnSpec Tryz.prog 62 zBc := by
  refine FnSpec.of_tri' (E := know [] [] [] []) (zAm all_nil all_nil all_nil) Tryz.func62 rfl rfl (by kernel_rfl) ?_
  intro C x hE hnl hfit hpre
  simp only [Tryz.ntmps62, Tryz.results62, maxLen, Nat.reduceSub, Nat.reducePow, Nat.reduceAdd, Int.cast_ofNat_Int, push_cast] at hnl hfit hpre ⊢
  obtain ⟨(n : Int), (lo : Int), (hi : Int), _⟩ := x
  dsimp only at hfit hpre ⊢
  repeat' (first|(refine goK (by assumption) ?_; iterate 4 (try clear hK K))|(refine zAd fun K hK => ?_)|((first|refine zAb hE rfl ?_|refine zAh ?_|((first|refine zAa hE 1 rfl rfl (by kernel_rfl) ?_|refine zAa hE 2 rfl rfl (by kernel_rfl) ?_|refine zAa hE 3 rfl rfl (by kernel_rfl) ?_|refine zAa hE 4 rfl rfl (by kernel_rfl) ?_); simp only [List.length_cons, List.length_nil, Nat.reduceAdd, Nat.reduceSub, List.take_succ_cons, List.take_zero, List.drop_succ_cons, List.drop_zero])); simp +contextual only [hnl, ↓kN, ↓kP, ↓kG, ↓qN, ↓qP, ↓qG, push_cast, seval, reduceCtorEq, Int.cast_ofNat_Int])|refine zAc ?_|((first|refine zAg ?_|refine zAf ?_); simp only [thenQ, zAk, if_true, if_false, Nat.reduceEqDiff, reduceCtorEq])|(refine zAe (by rfl) (fun hb => ?_) (fun hb => ?_) <;> (try simp only [b1, b2, b3, b4, reduceCtorEq, b5, b6] at hb) <;> (try omega))|refine zAi (by rfl) ?_ ?_|refine andS ?_|(refine ⟨fun hc => ?_, fun hc => ?_⟩)|(intro hc; try omega))
  all_goals first | omega | (simp only [decide_eq_decide]; omega) | (simp only [hc, decide_true, decide_false, Bool.true_or, Bool.false_or]; done) | (simp; done) | (simp; omega) | (simp [*]; done) | (simp [*]; omega)
def rPic (l : List Int) (n : Int) : Bool := decide (1 ≤ l.length ∧ l.length ≤ 40) && l.all fun c => decide (0 ≤ c ∧ c < n)
theorem zIN {l : List Int} {n : Int} : rPic l n = true ↔ (1 ≤ l.length ∧ l.length ≤ 40) ∧ ∀ c ∈ l, 0 ≤ c ∧ c < n := by
  simp only [rPic, Bool.and_eq_true, decide_eq_true_eq, List.all_eq_true]
theorem zGY {l : List Int} {n : Int} (h : n ≤ 5) : rPic l n = okPic l n := by
  rw [Bool.eq_iff_iff, zIN, zBp]
  exact ⟨fun ⟨a, b⟩ => ⟨a, fun c hc => by have := b c hc; omega⟩, fun ⟨a, b⟩ => ⟨a, fun c hc => by have := b c hc; omega⟩⟩
theorem zPU {l : List Int} {n : Int} (h : ¬ ((1 ≤ l.length ∧ l.length ≤ 40) ∧ ∀ c ∈ l, 0 ≤ c ∧ c < n)) : rPic l n = false := by
  rw [Bool.eq_false_iff]
  exact fun h2 => h (zIN.1 h2)
@[push_cast] def zIM : Con := ⟨[.dat (.sl .int), .dat .int], fun (x : List Int × Int × Unit) => -1000000 ≤ x.2.1 ∧ x.2.1 ≤ 1000000, fun (x : List Int × Int × Unit) => { res := [.val .bool (rPic x.1 x.2.1)] }⟩
theorem zGZ : FnSpec Tryz.prog 63 zIM := by
  refine FnSpec.of_tri' (E := know [(62, zBc)] [] [] []) (zAm (all_cons zF2 all_nil) all_nil all_nil) Tryz.func63 rfl rfl (by kernel_rfl) ?_
  intro C x hE hnl hfit hpre
  simp only [Tryz.ntmps63, Tryz.results63, maxLen, Nat.reduceSub, Nat.reducePow, Nat.reduceAdd, Int.cast_ofNat_Int, push_cast] at hnl hfit hpre ⊢
  obtain ⟨(l : List Int), (n : Int), _⟩ := x
  dsimp only at hfit hpre ⊢
  by_cases h1 : 1 ≤ l.length ∧ l.length ≤ 40
  rotate_left
  · have e := zPU (l := l) (n := n) (fun h => h1 h.1)
    replace hnl := And.intro hnl e
    exact auB
  repeat' (first|(refine goK (by assumption) ?_; iterate 4 (try clear hK K))|(refine zAd fun K hK => ?_)|((first|refine zAb hE rfl ?_|refine zAh ?_|((first|refine zAa hE 1 rfl rfl (by kernel_rfl) ?_|refine zAa hE 2 rfl rfl (by kernel_rfl) ?_|refine zAa hE 3 rfl rfl (by kernel_rfl) ?_|refine zAa hE 4 rfl rfl (by kernel_rfl) ?_); simp only [List.length_cons, List.length_nil, Nat.reduceAdd, Nat.reduceSub, List.take_succ_cons, List.take_zero, List.drop_succ_cons, List.drop_zero])); simp +contextual only [hnl, ↓kN, ↓kP, ↓kG, ↓qN, ↓qP, ↓qG, push_cast, seval, reduceCtorEq, Int.cast_ofNat_Int])|refine zAc ?_|((first|refine zAg ?_|refine zAf ?_); simp only [thenQ, zAk, if_true, if_false, Nat.reduceEqDiff, reduceCtorEq])|(refine zAe (by rfl) (fun hb => ?_) (fun hb => ?_) <;> (try simp only [b1, b2, b3, b4, reduceCtorEq, b5, b6] at hb) <;> (try omega))|refine zAi (by rfl) ?_ ?_|refine andS ?_|(refine ⟨fun hc => ?_, fun hc => ?_⟩)|(intro hc; try omega))
  refine zAl (fun k : Nat => AS.of [(0, .one (.val (.sl .int) l)), (1, .one (.val .int n)), (5, .I k)] [] []) (fun k => k ≤ l.length ∧ ∀ i, i < k → 0 ≤ l.getD i 0 ∧ l.getD i 0 < n) (fun k => l.length - k) 0 ⟨Nat.zero_le _, by omega⟩ ?_ ?_
  · refine zAj ?_ ?_ ?_ <;> simp only [push_cast, seval, reduceCtorEq, Int.cast_ofNat_Int]
  intro k ⟨hk, hall⟩ K' hL
  rcases Nat.lt_or_ge k l.length with hkl | hkl
  · by_cases h2 : 0 ≤ l.getD k 0 ∧ l.getD k 0 < n
    · repeat' (first|(refine goK (by assumption) ?_; iterate 4 (try clear hK K))|(refine zAd fun K hK => ?_)|((first|refine zAb hE rfl ?_|refine zAh ?_|((first|refine zAa hE 1 rfl rfl (by kernel_rfl) ?_|refine zAa hE 2 rfl rfl (by kernel_rfl) ?_|refine zAa hE 3 rfl rfl (by kernel_rfl) ?_|refine zAa hE 4 rfl rfl (by kernel_rfl) ?_); simp only [List.length_cons, List.length_nil, Nat.reduceAdd, Nat.reduceSub, List.take_succ_cons, List.take_zero, List.drop_succ_cons, List.drop_zero])); simp +contextual only [hnl, ↓kN, ↓kP, ↓kG, ↓qN, ↓qP, ↓qG, push_cast, seval, reduceCtorEq, Int.cast_ofNat_Int])|refine zAc ?_|((first|refine zAg ?_|refine zAf ?_); simp only [thenQ, zAk, if_true, if_false, Nat.reduceEqDiff, reduceCtorEq])|(refine zAe (by rfl) (fun hb => ?_) (fun hb => ?_) <;> (try simp only [b1, b2, b3, b4, reduceCtorEq, b5, b6] at hb) <;> (try omega))|refine zAi (by rfl) ?_ ?_|refine andS ?_|(refine ⟨fun hc => ?_, fun hc => ?_⟩)|(intro hc; try omega))
      refine hL _ (k + 1) ⟨by omega, fun i hi => ?_⟩ (by omega) ?_
      · rcases Nat.lt_or_ge i k with h3 | h3
        · exact hall i h3
        · obtain rfl : i = k := by omega
          exact h2
      refine zAj ?_ ?_ ?_ <;> simp only [push_cast, seval, reduceCtorEq, Int.cast_ofNat_Int]
    · have e := zPU (l := l) (n := n) (fun h => h2 (h.2 _ (zAw 0 hkl)))
      replace hnl := And.intro hnl e
      exact auB
  · obtain rfl : k = l.length := by omega
    have e : rPic l n = true := zIN.2 ⟨h1, fun c hc => by
      obtain ⟨i, hi, rfl⟩ := List.getElem_of_mem hc
      have := hall i hi
      rwa [List.getD_eq_getElem?_getD, List.getElem?_eq_getElem hi] at this⟩
    replace hnl := And.intro hnl e
    exact auB
theorem zFV : FnSpec Tryz.prog 64 zHR := by
  refine FnSpec.of_tri' (E := know [] [] [] []) (zAm all_nil all_nil all_nil) Tryz.func64 rfl rfl (by kernel_rfl) ?_
  intro C x hE hnl hfit hpre
  simp only [Tryz.ntmps64, Tryz.results64, maxLen, Nat.reduceSub, Nat.reducePow, Nat.reduceAdd, Int.cast_ofNat_Int, push_cast] at hnl hfit hpre ⊢
  obtain ⟨(l : List Int), (n : Int), _⟩ := x
  dsimp only at hfit hpre ⊢
  obtain ⟨⟨hn0, hn1⟩, hl, hat⟩ := hpre
  obtain ⟨m, rfl⟩ : ∃ m : Nat, n = m := ⟨n.toNat, by omega⟩
  repeat' (first|(refine goK (by assumption) ?_; iterate 4 (try clear hK K))|(refine zAd fun K hK => ?_)|((first|refine zAb hE rfl ?_|refine zAh ?_|((first|refine zAa hE 1 rfl rfl (by kernel_rfl) ?_|refine zAa hE 2 rfl rfl (by kernel_rfl) ?_|refine zAa hE 3 rfl rfl (by kernel_rfl) ?_|refine zAa hE 4 rfl rfl (by kernel_rfl) ?_); simp only [List.length_cons, List.length_nil, Nat.reduceAdd, Nat.reduceSub, List.take_succ_cons, List.take_zero, List.drop_succ_cons, List.drop_zero])); simp +contextual only [hnl, ↓kN, ↓kP, ↓kG, ↓qN, ↓qP, ↓qG, push_cast, seval, reduceCtorEq, Int.cast_ofNat_Int])|refine zAc ?_|((first|refine zAg ?_|refine zAf ?_); simp only [thenQ, zAk, if_true, if_false, Nat.reduceEqDiff, reduceCtorEq])|(refine zAe (by rfl) (fun hb => ?_) (fun hb => ?_) <;> (try simp only [b1, b2, b3, b4, reduceCtorEq, b5, b6] at hb) <;> (try omega))|refine zAi (by rfl) ?_ ?_|refine andS ?_|(refine ⟨fun hc => ?_, fun hc => ?_⟩)|(intro hc; try omega))
  refine zAl (fun k : Nat => AS.of [(0, .one (.val (.sl .int) l)), (5, .one (.ref 8)), (6, .I k)] [(8, .flat 3 .int (palV (l.take k) m))] []) (fun k => k ≤ l.length) (fun k => l.length - k) 0 (Nat.zero_le _) ?_ ?_
  · refine zAj ?_ ?_ ?_ <;> simp only [push_cast, seval, reduceCtorEq, Int.cast_ofNat_Int]
    simp [palV, cntV, zDk]
  intro k hk K' hL
  by_cases hkl : k < l.length
  · have h1 := hat _ (zAw 0 hkl)
    have h2 : (l.getD k 0).toNat < m := by omega
    have h3 : (palV (l.take k) m).getD (l.getD k 0).toNat 0 = cntV (l.getD k 0) (l.take k) := by
      unfold palV
      rw [zCa _ _ h2, Int.toNat_of_nonneg h1.1]
    have h4 := zCJ (l.getD k 0) (l.take k)
    have h5 : (l.take k).length ≤ 1000 := by rw [List.length_take]; omega
    have h6 := zJR (n := m) hkl h1.1
    have h7 : (palV (l.take k) m).length = m := zBK _ _
    replace hnl := And.intro hnl h7
    repeat' (first|(refine goK (by assumption) ?_; iterate 4 (try clear hK K))|(refine zAd fun K hK => ?_)|((first|refine zAb hE rfl ?_|refine zAh ?_|((first|refine zAa hE 1 rfl rfl (by kernel_rfl) ?_|refine zAa hE 2 rfl rfl (by kernel_rfl) ?_|refine zAa hE 3 rfl rfl (by kernel_rfl) ?_|refine zAa hE 4 rfl rfl (by kernel_rfl) ?_); simp only [List.length_cons, List.length_nil, Nat.reduceAdd, Nat.reduceSub, List.take_succ_cons, List.take_zero, List.drop_succ_cons, List.drop_zero])); simp +contextual only [hnl, ↓kN, ↓kP, ↓kG, ↓qN, ↓qP, ↓qG, push_cast, seval, reduceCtorEq, Int.cast_ofNat_Int])|refine zAc ?_|((first|refine zAg ?_|refine zAf ?_); simp only [thenQ, zAk, if_true, if_false, Nat.reduceEqDiff, reduceCtorEq])|(refine zAe (by rfl) (fun hb => ?_) (fun hb => ?_) <;> (try simp only [b1, b2, b3, b4, reduceCtorEq, b5, b6] at hb) <;> (try omega))|refine zAi (by rfl) ?_ ?_|refine andS ?_|(refine ⟨fun hc => ?_, fun hc => ?_⟩)|(intro hc; try omega))
    refine hL _ (k + 1) (by omega) (by omega) ?_
    refine zAj ?_ ?_ ?_ <;> simp only [push_cast, seval, reduceCtorEq, Int.cast_ofNat_Int]
    exact .inl (congrArg _ h6)
  · obtain rfl : k = l.length := by omega
    rw [List.take_length]
    exact auB
theorem zSt {l : List Int} {i : Nat} (hi : i < l.length) {m : Int} (h : m < l.getD i 0) : m < maxV l := by
  have := zPq (l := l) (k := l.length - 1) (i := i) (by omega)
  unfold maxV
  omega
theorem zSu {l : List Int} {m : Int} (hp : 0 < l.length) (h : ∀ i, i < l.length → l.getD i 0 ≤ m) : ¬ m < maxV l := by
  intro h2
  obtain ⟨i, h3, h4⟩ := zPr h2
  have := h i (by omega)
  omega
theorem zIL : FnSpec Tryz.prog 22 zI7 := by
  refine FnSpec.of_tri' (E := know [(62, zBc), (63, zIM), (64, zHR)] [] [] []) (zAm (all_cons zF2 (all_cons zGZ (all_cons zFV all_nil))) all_nil all_nil) Tryz.func22 rfl rfl (by kernel_rfl) ?_
  intro C x hE hnl hfit hpre
  simp only [Tryz.ntmps22, Tryz.results22, maxLen, Nat.reduceSub, Nat.reducePow, Nat.reduceAdd, Int.cast_ofNat_Int, push_cast] at hnl hfit hpre ⊢
  obtain ⟨(l : List Int), (n : Int), _⟩ := x
  dsimp only at hfit hpre ⊢
  by_cases h : 1 ≤ n ∧ n ≤ 5 ∧ okPic l n = true
  rotate_left
  · have he := zL8 h
    by_cases h1 : 1 ≤ n ∧ n ≤ 5
    · have e2 : rPic l n = false := by
        rw [zGY h1.2, Bool.eq_false_iff]
        exact fun h2 => h ⟨h1.1, h1.2, h2⟩
      replace hnl := And.intro hnl (And.intro he e2)
      exact auB
    · replace hnl := And.intro hnl he
      exact auB
  obtain ⟨h1, h2, h3⟩ := h
  obtain ⟨⟨g1, g2⟩, g3⟩ := zBp.1 h3
  have hp : PalPre l n := ⟨by omega, by omega, fun c hc => by have := g3 c hc; omega⟩
  have h4 : rPic l n = true := by rw [zGY h2]; exact h3
  obtain ⟨m, rfl⟩ : ∃ m : Nat, n = m := ⟨n.toNat, by omega⟩
  have h5 : (palV l m).length = m := zGt _ _
  replace hnl := And.intro hnl (And.intro h4 (And.intro (eq_true hp) h5))
  repeat' (first|(refine goK (by assumption) ?_; iterate 4 (try clear hK K))|(refine zAd fun K hK => ?_)|((first|refine zAb hE rfl ?_|refine zAh ?_|((first|refine zAa hE 1 rfl rfl (by kernel_rfl) ?_|refine zAa hE 2 rfl rfl (by kernel_rfl) ?_|refine zAa hE 3 rfl rfl (by kernel_rfl) ?_|refine zAa hE 4 rfl rfl (by kernel_rfl) ?_); simp only [List.length_cons, List.length_nil, Nat.reduceAdd, Nat.reduceSub, List.take_succ_cons, List.take_zero, List.drop_succ_cons, List.drop_zero])); simp +contextual only [hnl, ↓kN, ↓kP, ↓kG, ↓qN, ↓qP, ↓qG, push_cast, seval, reduceCtorEq, Int.cast_ofNat_Int])|refine zAc ?_|((first|refine zAg ?_|refine zAf ?_); simp only [thenQ, zAk, if_true, if_false, Nat.reduceEqDiff, reduceCtorEq])|(refine zAe (by rfl) (fun hb => ?_) (fun hb => ?_) <;> (try simp only [b1, b2, b3, b4, reduceCtorEq, b5, b6] at hb) <;> (try omega))|refine zAi (by rfl) ?_ ?_|refine andS ?_|(refine ⟨fun hc => ?_, fun hc => ?_⟩)|(intro hc; try omega))
  refine zAl (fun k : Nat => AS.of [(1, .one (.val .int (m : Int))), (6, .one (.ref 19)), (7, .I k)] [(19, .flat 3 .int (palV l m))] []) (fun k => k ≤ m ∧ ∀ i, i < k → (palV l m).getD i 0 ≤ 30) (fun k => m - k) 0 ⟨Nat.zero_le _, by omega⟩ ?_ ?_
  · refine zAj ?_ ?_ ?_ <;> simp only [push_cast, seval, reduceCtorEq, Int.cast_ofNat_Int]
  intro k ⟨hk, hall⟩ K' hL
  rcases Nat.lt_or_ge k m with hkm | hkm
  · by_cases h6 : 30 < (palV l m).getD k 0
    · have he := zL9 (l := l) (n := (m : Int)) ⟨h1, h2, h3⟩ (by rw [Int.toNat_natCast]; exact zSt (by omega) h6)
      replace hnl := And.intro hnl he
      exact auB
    · repeat' (first|(refine goK (by assumption) ?_; iterate 4 (try clear hK K))|(refine zAd fun K hK => ?_)|((first|refine zAb hE rfl ?_|refine zAh ?_|((first|refine zAa hE 1 rfl rfl (by kernel_rfl) ?_|refine zAa hE 2 rfl rfl (by kernel_rfl) ?_|refine zAa hE 3 rfl rfl (by kernel_rfl) ?_|refine zAa hE 4 rfl rfl (by kernel_rfl) ?_); simp only [List.length_cons, List.length_nil, Nat.reduceAdd, Nat.reduceSub, List.take_succ_cons, List.take_zero, List.drop_succ_cons, List.drop_zero])); simp +contextual only [hnl, ↓kN, ↓kP, ↓kG, ↓qN, ↓qP, ↓qG, push_cast, seval, reduceCtorEq, Int.cast_ofNat_Int])|refine zAc ?_|((first|refine zAg ?_|refine zAf ?_); simp only [thenQ, zAk, if_true, if_false, Nat.reduceEqDiff, reduceCtorEq])|(refine zAe (by rfl) (fun hb => ?_) (fun hb => ?_) <;> (try simp only [b1, b2, b3, b4, reduceCtorEq, b5, b6] at hb) <;> (try omega))|refine zAi (by rfl) ?_ ?_|refine andS ?_|(refine ⟨fun hc => ?_, fun hc => ?_⟩)|(intro hc; try omega))
      refine hL _ (k + 1) ⟨by omega, fun i hi => ?_⟩ (by omega) ?_
      · rcases Nat.lt_or_ge i k with h7 | h7
        · exact hall i h7
        · obtain rfl : i = k := by omega
          omega
      refine zAj ?_ ?_ ?_ <;> simp only [push_cast, seval, reduceCtorEq, Int.cast_ofNat_Int]
  · obtain rfl : k = m := by omega
    have he := zL7 (l := l) (n := (k : Int)) ⟨h1, h2, h3⟩ (by rw [Int.toNat_natCast]; exact zSu (by omega) (fun i hi => hall i (by omega)))
    replace hnl := And.intro hnl he
    exact auB
end Go.Proofs.YtlgkplnifaoeeaaGreatDoor
