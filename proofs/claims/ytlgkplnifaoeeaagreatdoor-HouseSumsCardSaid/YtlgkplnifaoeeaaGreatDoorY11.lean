import Derived.Test.YtlgkplnifaoeeaaGreatDoorY10
import Derived.Test.YtlgkplnifaoeeaaGreatDoorY8
import Derived.Test.YtlgkplnifaoeeaaGreatDoorY7
set_option linter.unusedSimpArgs false
set_option linter.unusedVariables false
namespace Go.Proofs.YtlgkplnifaoeeaaGreatDoor
open Go.RowKit Go.VS
theorem zSH {l : List Int} {p : List (List Int)} (h : ∀ i, i < p.length → lsum (p.getD i []) = (palV l p.length).getD i 0) : rowsP p = palV l p.length := by
  refine zFw 0 (by rw [zGt, rowsP, List.length_map]) fun i hi => ?_
  rw [rowsP, List.length_map] at hi
  rw [← h i hi, rowsP, List.getD_eq_getElem?_getD, List.getElem?_map, List.getElem?_eq_getElem hi, List.getD_eq_getElem?_getD, List.getElem?_eq_getElem hi]
  rfl
theorem zSI {l : List Int} {p : List (List Int)} {i : Nat} (hi : i < p.length) (h : ¬ lsum (p.getD i []) = (palV l p.length).getD i 0) : ¬ rowsP p = palV l p.length := by
  intro h2
  refine h ?_
  rw [zFJ h2 hi]
  unfold palV
  exact (zCa (fun c => cntV (c : Int) l) 0 hi).symm
set_option maxRecDepth 10000 in
theorem zLr : FnSpec Tryz.prog 26 zFg := by
  refine FnSpec.of_tri' (E := know [(69, zGX), (63, zIM), (64, zHR), (70, zGw), (71, zOC)] [] [] []) (zAm (all_cons zNL (all_cons zGZ (all_cons zFV (all_cons zLq (all_cons zNG all_nil))))) all_nil all_nil) Tryz.func26 rfl rfl (by kernel_rfl) ?_
  intro C x hE hnl hfit hpre
  simp only [Tryz.ntmps26, Tryz.results26, maxLen, Nat.reduceSub, Nat.reducePow, Nat.reduceAdd, Int.cast_ofNat_Int, push_cast] at hnl hfit hpre ⊢
  obtain ⟨(l : List Int), (p : List (List Int)), _⟩ := x
  dsimp only at hfit hpre ⊢
  rcases zFy p with he | he
  rotate_left
  · replace hnl := And.intro hnl (And.intro he (zHx (l := l) he))
    exact auB
  have hin := zEd he
  have hrows := hin.rows
  have hcols := hin.cols
  have hro := zGY (l := l) (n := (p.length : Int)) (by omega)
  cases hpi : okPic l p.length with
  | false =>
    replace hnl := And.intro hnl (And.intro he (And.intro (hro.trans hpi) (zHy he hpi)))
    repeat' (first|(refine goK (by assumption) ?_; iterate 4 (try clear hK K))|(refine zAd fun K hK => ?_)|((first|refine zAb hE rfl ?_|refine zAh ?_|((first|refine zAa hE 1 rfl rfl (by kernel_rfl) ?_|refine zAa hE 2 rfl rfl (by kernel_rfl) ?_|refine zAa hE 3 rfl rfl (by kernel_rfl) ?_|refine zAa hE 4 rfl rfl (by kernel_rfl) ?_); simp only [List.length_cons, List.length_nil, Nat.reduceAdd, Nat.reduceSub, List.take_succ_cons, List.take_zero, List.drop_succ_cons, List.drop_zero])); simp +contextual only [hnl, ↓kN, ↓kP, ↓kG, ↓qN, ↓qP, ↓qG, push_cast, seval, reduceCtorEq, Int.cast_ofNat_Int])|refine zAc ?_|((first|refine zAg ?_|refine zAf ?_); simp only [thenQ, zAk, if_true, if_false, Nat.reduceEqDiff, reduceCtorEq])|(refine zAe (by rfl) (fun hb => ?_) (fun hb => ?_) <;> (try simp only [b1, b2, b3, b4, reduceCtorEq, b5, b6] at hb) <;> (try omega))|refine zAi (by rfl) ?_ ?_|refine andS ?_|(refine ⟨fun hc => ?_, fun hc => ?_⟩)|(intro hc; try omega))
  | true =>
  obtain ⟨⟨g1, g2⟩, g3⟩ := zBp.1 hpi
  have hp : PalPre l p.length := ⟨by omega, by omega, fun c hc => by have := g3 c hc; omega⟩
  have hsm := hin.small
  have hpl : (palV l p.length).length = p.length := zGt _ _
  replace hnl := And.intro hnl (And.intro he (And.intro (hro.trans hpi) (And.intro (eq_true hp) (And.intro (eq_true hsm) hpl))))
  repeat' (first|(refine goK (by assumption) ?_; iterate 4 (try clear hK K))|(refine zAd fun K hK => ?_)|((first|refine zAb hE rfl ?_|refine zAh ?_|((first|refine zAa hE 1 rfl rfl (by kernel_rfl) ?_|refine zAa hE 2 rfl rfl (by kernel_rfl) ?_|refine zAa hE 3 rfl rfl (by kernel_rfl) ?_|refine zAa hE 4 rfl rfl (by kernel_rfl) ?_); simp only [List.length_cons, List.length_nil, Nat.reduceAdd, Nat.reduceSub, List.take_succ_cons, List.take_zero, List.drop_succ_cons, List.drop_zero])); simp +contextual only [hnl, ↓kN, ↓kP, ↓kG, ↓qN, ↓qP, ↓qG, push_cast, seval, reduceCtorEq, Int.cast_ofNat_Int])|refine zAc ?_|((first|refine zAg ?_|refine zAf ?_); simp only [thenQ, zAk, if_true, if_false, Nat.reduceEqDiff, reduceCtorEq])|(refine zAe (by rfl) (fun hb => ?_) (fun hb => ?_) <;> (try simp only [b1, b2, b3, b4, reduceCtorEq, b5, b6] at hb) <;> (try omega))|refine zAi (by rfl) ?_ ?_|refine andS ?_|(refine ⟨fun hc => ?_, fun hc => ?_⟩)|(intro hc; try omega))
  refine zAl (fun i : Nat => AS.of [(0, .one (.val (.sl .int) l)), (1, .one (.val (.sl (.sl .int)) p)), (7, .one (.ref 26)), (8, .I i)] [(26, .flat 3 .int (palV l p.length))] []) (fun i => i ≤ p.length ∧ ∀ i', i' < i → lsum (p.getD i' []) = (palV l p.length).getD i' 0) (fun i => p.length - i) 0 ⟨Nat.zero_le _, by omega⟩ ?_ ?_
  · refine zAj ?_ ?_ ?_ <;> simp only [push_cast, seval, reduceCtorEq, Int.cast_ofNat_Int]
  intro i ⟨hi, hall⟩ K' hL
  rcases Nat.lt_or_ge i p.length with hil | hil
  · have hT : ∀ k, InR (lsum ((p.getD i []).take k)) := fun k => by have := hin.sumR hil k; unfold InR; omega
    by_cases h1 : lsum (p.getD i []) = (palV l p.length).getD i 0
    · replace hnl := And.intro hnl (eq_true hT)
      repeat' (first|(refine goK (by assumption) ?_; iterate 4 (try clear hK K))|(refine zAd fun K hK => ?_)|((first|refine zAb hE rfl ?_|refine zAh ?_|((first|refine zAa hE 1 rfl rfl (by kernel_rfl) ?_|refine zAa hE 2 rfl rfl (by kernel_rfl) ?_|refine zAa hE 3 rfl rfl (by kernel_rfl) ?_|refine zAa hE 4 rfl rfl (by kernel_rfl) ?_); simp only [List.length_cons, List.length_nil, Nat.reduceAdd, Nat.reduceSub, List.take_succ_cons, List.take_zero, List.drop_succ_cons, List.drop_zero])); simp +contextual only [hnl, ↓kN, ↓kP, ↓kG, ↓qN, ↓qP, ↓qG, push_cast, seval, reduceCtorEq, Int.cast_ofNat_Int])|refine zAc ?_|((first|refine zAg ?_|refine zAf ?_); simp only [thenQ, zAk, if_true, if_false, Nat.reduceEqDiff, reduceCtorEq])|(refine zAe (by rfl) (fun hb => ?_) (fun hb => ?_) <;> (try simp only [b1, b2, b3, b4, reduceCtorEq, b5, b6] at hb) <;> (try omega))|refine zAi (by rfl) ?_ ?_|refine andS ?_|(refine ⟨fun hc => ?_, fun hc => ?_⟩)|(intro hc; try omega))
      refine hL _ (i + 1) ⟨by omega, fun i' hi' => ?_⟩ (by omega) ?_
      · rcases Nat.lt_or_ge i' i with h3 | h3
        · exact hall i' h3
        · obtain rfl : i' = i := by omega
          exact h1
      refine zAj ?_ ?_ ?_ <;> simp only [push_cast, seval, reduceCtorEq, Int.cast_ofNat_Int]
    · have e5 := zHz he hpi (zSI hil h1)
      replace hnl := And.intro hnl (And.intro e5 (eq_true hT))
      exact auB
  obtain rfl : i = p.length := by omega
  have hrw := zSH hall
  have hz := zHw he hpi hrw
  have hnn : ∀ c, c < p.length → ∀ x ∈ p.getD c [], 0 ≤ x := by
    intro c hc x hx
    obtain ⟨j, hj, rfl⟩ := List.getElem_of_mem hx
    have := hin.at hc (show j < wid p by rw [← hin.row hc]; exact hj)
    rw [List.getD_eq_getElem?_getD (l := p.getD c []), List.getElem?_eq_getElem hj] at this
    exact this.1
  replace hnl := And.intro hnl hz
  repeat' (first|(refine goK (by assumption) ?_; iterate 4 (try clear hK K))|(refine zAd fun K hK => ?_)|((first|refine zAb hE rfl ?_|refine zAh ?_|((first|refine zAa hE 1 rfl rfl (by kernel_rfl) ?_|refine zAa hE 2 rfl rfl (by kernel_rfl) ?_|refine zAa hE 3 rfl rfl (by kernel_rfl) ?_|refine zAa hE 4 rfl rfl (by kernel_rfl) ?_); simp only [List.length_cons, List.length_nil, Nat.reduceAdd, Nat.reduceSub, List.take_succ_cons, List.take_zero, List.drop_succ_cons, List.drop_zero])); simp +contextual only [hnl, ↓kN, ↓kP, ↓kG, ↓qN, ↓qP, ↓qG, push_cast, seval, reduceCtorEq, Int.cast_ofNat_Int])|refine zAc ?_|((first|refine zAg ?_|refine zAf ?_); simp only [thenQ, zAk, if_true, if_false, Nat.reduceEqDiff, reduceCtorEq])|(refine zAe (by rfl) (fun hb => ?_) (fun hb => ?_) <;> (try simp only [b1, b2, b3, b4, reduceCtorEq, b5, b6] at hb) <;> (try omega))|refine zAi (by rfl) ?_ ?_|refine andS ?_|(refine ⟨fun hc => ?_, fun hc => ?_⟩)|(intro hc; try omega))
  refine zAl (fun k : Nat => AS.of [(0, .one (.val (.sl .int) l)), (9, .one (.ref 44)), (10, .one (.ref 79)), (11, .I k)] [(44, .deep 25 3 .int (remV l p k)), (79, .flat 3 .int (tbl k (pixV l p)))] []) (fun k => k ≤ l.length) (fun k => l.length - k) 0 (Nat.zero_le _) ?_ ?_
  · refine zAj ?_ ?_ ?_ <;> simp only [push_cast, seval, reduceCtorEq, Int.cast_ofNat_Int]
    exact ⟨.inl (by rw [zJ1 hnn]), by omega, rfl⟩
  intro k hk K' hL
  rcases Nat.lt_or_ge k l.length with hkl | hkl
  · have h1 := g3 _ (zAw 0 hkl)
    have h2 : (l.getD k 0).toNat < p.length := by omega
    have h3 := zIR (l := l) (p := p) (k := k) h2
    rw [Int.toNat_of_nonneg h1.1] at h3
    have h6 : ((spr (p.getD (l.getD k 0).toNat [])).length : Int) = lsum (p.getD (l.getD k 0).toNat []) := zG9 hin h2
    have h10 := zCJ (l.getD k 0) (l.take k)
    have h7 : cntV (l.getD k 0) (l.take k) + 1 ≤ lsum (p.getD (l.getD k 0).toNat []) := by
      rw [zFJ hrw h2, Int.toNat_of_nonneg h1.1]
      have e1 := zCK (l.getD k 0) hkl
      rw [if_pos rfl] at e1
      have e2 := zCX (l.getD k 0) l (k + 1)
      omega
    have ht : (cntV (l.getD k 0) (l.take k)).toNat < (spr (p.getD (l.getD k 0).toNat [])).length := by omega
    obtain ⟨x, hx1, hx2, hx3⟩ := zLC (zAw 0 ht)
    have hx4 : pixV l p k = (x : Int) := hx2
    have hrl := zIQ (p.getD (l.getD k 0).toNat []) (cntV (l.getD k 0) (l.take k)).toNat
    have hset := zME hkl h1.1 h2 ht hx4 hx1
    have hvl : (remV l p k).length = p.length := zIS
    have hw := hin.row h2
    replace hnl := And.intro hnl (And.intro h3 (And.intro hrl hvl))
    repeat' (first|(refine goK (by assumption) ?_; iterate 4 (try clear hK K))|(refine zAd fun K hK => ?_)|((first|refine zAb hE rfl ?_|refine zAh ?_|((first|refine zAa hE 1 rfl rfl (by kernel_rfl) ?_|refine zAa hE 2 rfl rfl (by kernel_rfl) ?_|refine zAa hE 3 rfl rfl (by kernel_rfl) ?_|refine zAa hE 4 rfl rfl (by kernel_rfl) ?_); simp only [List.length_cons, List.length_nil, Nat.reduceAdd, Nat.reduceSub, List.take_succ_cons, List.take_zero, List.drop_succ_cons, List.drop_zero])); simp +contextual only [hnl, ↓kN, ↓kP, ↓kG, ↓qN, ↓qP, ↓qG, push_cast, seval, reduceCtorEq, Int.cast_ofNat_Int])|refine zAc ?_|((first|refine zAg ?_|refine zAf ?_); simp only [thenQ, zAk, if_true, if_false, Nat.reduceEqDiff, reduceCtorEq])|(refine zAe (by rfl) (fun hb => ?_) (fun hb => ?_) <;> (try simp only [b1, b2, b3, b4, reduceCtorEq, b5, b6] at hb) <;> (try omega))|refine zAi (by rfl) ?_ ?_|refine andS ?_|(refine ⟨fun hc => ?_, fun hc => ?_⟩)|(intro hc; try omega))
    refine zAl (fun j : Nat => AS.of [(0, .one (.val (.sl .int) l)), (9, .one (.ref 44)), (10, .one (.ref 79)), (11, .I k), (12, .I j)] [(44, .deep 25 3 .int (remV l p k)), (79, .flat 3 .int (tbl k (pixV l p)))] []) (fun j => j ≤ x) (fun j => x - j) 0 (Nat.zero_le _) ?_ ?_
    · refine zAj ?_ ?_ ?_ <;> simp only [push_cast, seval, reduceCtorEq, Int.cast_ofNat_Int]
    intro j hj K2 hL2
    have hjr : j < (p.getD (l.getD k 0).toNat []).length := by omega
    have hra := zLt (t := (cntV (l.getD k 0) (l.take k)).toNat) hjr
    rcases Nat.lt_or_ge j x with hjx | hjx
    · have h0 : (remR (p.getD (l.getD k 0).toNat []) (cntV (l.getD k 0) (l.take k)).toNat).getD j 0 = 0 := by rw [hra]; exact zSE ht (by rw [hx2]; omega)
      replace hnl := And.intro hnl h0
      repeat' (first|(refine goK (by assumption) ?_; iterate 4 (try clear hK K))|(refine zAd fun K hK => ?_)|((first|refine zAb hE rfl ?_|refine zAh ?_|((first|refine zAa hE 1 rfl rfl (by kernel_rfl) ?_|refine zAa hE 2 rfl rfl (by kernel_rfl) ?_|refine zAa hE 3 rfl rfl (by kernel_rfl) ?_|refine zAa hE 4 rfl rfl (by kernel_rfl) ?_); simp only [List.length_cons, List.length_nil, Nat.reduceAdd, Nat.reduceSub, List.take_succ_cons, List.take_zero, List.drop_succ_cons, List.drop_zero])); simp +contextual only [hnl, ↓kN, ↓kP, ↓kG, ↓qN, ↓qP, ↓qG, push_cast, seval, reduceCtorEq, Int.cast_ofNat_Int])|refine zAc ?_|((first|refine zAg ?_|refine zAf ?_); simp only [thenQ, zAk, if_true, if_false, Nat.reduceEqDiff, reduceCtorEq])|(refine zAe (by rfl) (fun hb => ?_) (fun hb => ?_) <;> (try simp only [b1, b2, b3, b4, reduceCtorEq, b5, b6] at hb) <;> (try omega))|refine zAi (by rfl) ?_ ?_|refine andS ?_|(refine ⟨fun hc => ?_, fun hc => ?_⟩)|(intro hc; try omega))
      refine hL2 _ (j + 1) (by omega) (by omega) ?_
      refine zAj ?_ ?_ ?_ <;> simp only [push_cast, seval, reduceCtorEq, Int.cast_ofNat_Int]
    · obtain rfl : j = x := by omega
      have h0 : ¬ (remR (p.getD (l.getD k 0).toNat []) (cntV (l.getD k 0) (l.take k)).toNat).getD j 0 = 0 := by rw [hra]; have := zSF ht hx2; omega
      have h00 : (remR (p.getD (l.getD k 0).toNat []) (cntV (l.getD k 0) (l.take k)).toNat).getD j 0 ≤ 1000000 := by
        rw [hra]
        have e1 := (zCJ (j : Int) ((spr (p.getD (l.getD k 0).toNat [])).drop (cntV (l.getD k 0) (l.take k)).toNat)).2
        have e2 := hin.sumR h2 (p.getD (l.getD k 0).toNat []).length
        rw [List.take_length] at e2
        rw [List.length_drop] at e1
        omega
      have h01 : 0 ≤ (remR (p.getD (l.getD k 0).toNat []) (cntV (l.getD k 0) (l.take k)).toNat).getD j 0 := by rw [hra]; exact (zCJ _ _).1
      have h11 : (tbl k (pixV l p)).length = k := zBK _ _
      replace hnl := And.intro hnl (And.intro (eq_false h0) h11)
      repeat' (first|(refine goK (by assumption) ?_; iterate 4 (try clear hK K))|(refine zAd fun K hK => ?_)|((first|refine zAb hE rfl ?_|refine zAh ?_|((first|refine zAa hE 1 rfl rfl (by kernel_rfl) ?_|refine zAa hE 2 rfl rfl (by kernel_rfl) ?_|refine zAa hE 3 rfl rfl (by kernel_rfl) ?_|refine zAa hE 4 rfl rfl (by kernel_rfl) ?_); simp only [List.length_cons, List.length_nil, Nat.reduceAdd, Nat.reduceSub, List.take_succ_cons, List.take_zero, List.drop_succ_cons, List.drop_zero])); simp +contextual only [hnl, ↓kN, ↓kP, ↓kG, ↓qN, ↓qP, ↓qG, push_cast, seval, reduceCtorEq, Int.cast_ofNat_Int])|refine zAc ?_|((first|refine zAg ?_|refine zAf ?_); simp only [thenQ, zAk, if_true, if_false, Nat.reduceEqDiff, reduceCtorEq])|(refine zAe (by rfl) (fun hb => ?_) (fun hb => ?_) <;> (try simp only [b1, b2, b3, b4, reduceCtorEq, b5, b6] at hb) <;> (try omega))|refine zAi (by rfl) ?_ ?_|refine andS ?_|(refine ⟨fun hc => ?_, fun hc => ?_⟩)|(intro hc; try omega))
      rw [h3] at hset
      refine hL _ (k + 1) (by omega) (by omega) ?_
      refine zAj ?_ ?_ ?_ <;> simp only [push_cast, seval, reduceCtorEq, Int.cast_ofNat_Int]
      exact ⟨.inl (by rw [hset]), .inl (by rw [zFr, hx4])⟩
  · obtain rfl : k = l.length := by omega
    repeat' (first|(refine goK (by assumption) ?_; iterate 4 (try clear hK K))|(refine zAd fun K hK => ?_)|((first|refine zAb hE rfl ?_|refine zAh ?_|((first|refine zAa hE 1 rfl rfl (by kernel_rfl) ?_|refine zAa hE 2 rfl rfl (by kernel_rfl) ?_|refine zAa hE 3 rfl rfl (by kernel_rfl) ?_|refine zAa hE 4 rfl rfl (by kernel_rfl) ?_); simp only [List.length_cons, List.length_nil, Nat.reduceAdd, Nat.reduceSub, List.take_succ_cons, List.take_zero, List.drop_succ_cons, List.drop_zero])); simp +contextual only [hnl, ↓kN, ↓kP, ↓kG, ↓qN, ↓qP, ↓qG, push_cast, seval, reduceCtorEq, Int.cast_ofNat_Int])|refine zAc ?_|((first|refine zAg ?_|refine zAf ?_); simp only [thenQ, zAk, if_true, if_false, Nat.reduceEqDiff, reduceCtorEq])|(refine zAe (by rfl) (fun hb => ?_) (fun hb => ?_) <;> (try simp only [b1, b2, b3, b4, reduceCtorEq, b5, b6] at hb) <;> (try omega))|refine zAi (by rfl) ?_ ?_|refine andS ?_|(refine ⟨fun hc => ?_, fun hc => ?_⟩)|(intro hc; try omega))
    rfl
theorem zRk : FnSpec Tryz.prog 43 cpCon := by
  refine FnSpec.of_tri' (E := know [(72, zDP), (63, zIM), (92, prCon)] [] [] []) (zAm (all_cons zHU (all_cons zGZ (all_cons zRj all_nil))) all_nil all_nil) Tryz.func43 rfl rfl (by kernel_rfl) ?_
  intro C x hE hnl hfit hpre
  simp only [Tryz.ntmps43, Tryz.results43, maxLen, Nat.reduceSub, Nat.reducePow, Nat.reduceAdd, Int.cast_ofNat_Int, push_cast] at hnl hfit hpre ⊢
  obtain ⟨(l : List Int), (d : List Int), (c : List (List Int)), ⟨(u : List Int), (v : List Int)⟩, _⟩ := x
  dsimp only at hfit hpre ⊢
  by_cases hc : InTab 0 99 c
  rotate_left
  · have h1 := zBY hc
    have e : errCP l d c (u, v) = 1 := zOO hc
    replace hnl := And.intro hnl (And.intro h1 e)
    exact auB
  have h1 := zCM hc
  have hw : (c.getD 0 []).length = wid c := rfl
  have hrs := hc.rows
  have hcs := hc.cols
  have ro1 := zGY (l := l) (n := (c.length : Int)) (by omega)
  have ro2 := zGY (l := d) (n := (wid c : Int)) (by omega)
  cases hl : okPic l c.length with
  | false =>
    have e : errCP l d c (u, v) = 1 := zIo hc (fun h => by rw [hl] at h; cases h.1)
    replace hnl := And.intro hnl (And.intro h1 (And.intro (ro1.trans hl) e))
    repeat' (first|(refine goK (by assumption) ?_; iterate 4 (try clear hK K))|(refine zAd fun K hK => ?_)|((first|refine zAb hE rfl ?_|refine zAh ?_|((first|refine zAa hE 1 rfl rfl (by kernel_rfl) ?_|refine zAa hE 2 rfl rfl (by kernel_rfl) ?_|refine zAa hE 3 rfl rfl (by kernel_rfl) ?_|refine zAa hE 4 rfl rfl (by kernel_rfl) ?_); simp only [List.length_cons, List.length_nil, Nat.reduceAdd, Nat.reduceSub, List.take_succ_cons, List.take_zero, List.drop_succ_cons, List.drop_zero])); simp +contextual only [hnl, ↓kN, ↓kP, ↓kG, ↓qN, ↓qP, ↓qG, push_cast, seval, reduceCtorEq, Int.cast_ofNat_Int])|refine zAc ?_|((first|refine zAg ?_|refine zAf ?_); simp only [thenQ, zAk, if_true, if_false, Nat.reduceEqDiff, reduceCtorEq])|(refine zAe (by rfl) (fun hb => ?_) (fun hb => ?_) <;> (try simp only [b1, b2, b3, b4, reduceCtorEq, b5, b6] at hb) <;> (try omega))|refine zAi (by rfl) ?_ ?_|refine andS ?_|(refine ⟨fun hc => ?_, fun hc => ?_⟩)|(intro hc; try omega))
  | true =>
  cases hd : okPic d (wid c) with
  | false =>
    have e : errCP l d c (u, v) = 1 := zIo hc (fun h => by rw [hd] at h; cases h.2)
    replace hnl := And.intro hnl (And.intro h1 (And.intro (ro1.trans hl) (And.intro hw (And.intro (ro2.trans hd) e))))
    repeat' (first|(refine goK (by assumption) ?_; iterate 4 (try clear hK K))|(refine zAd fun K hK => ?_)|((first|refine zAb hE rfl ?_|refine zAh ?_|((first|refine zAa hE 1 rfl rfl (by kernel_rfl) ?_|refine zAa hE 2 rfl rfl (by kernel_rfl) ?_|refine zAa hE 3 rfl rfl (by kernel_rfl) ?_|refine zAa hE 4 rfl rfl (by kernel_rfl) ?_); simp only [List.length_cons, List.length_nil, Nat.reduceAdd, Nat.reduceSub, List.take_succ_cons, List.take_zero, List.drop_succ_cons, List.drop_zero])); simp +contextual only [hnl, ↓kN, ↓kP, ↓kG, ↓qN, ↓qP, ↓qG, push_cast, seval, reduceCtorEq, Int.cast_ofNat_Int])|refine zAc ?_|((first|refine zAg ?_|refine zAf ?_); simp only [thenQ, zAk, if_true, if_false, Nat.reduceEqDiff, reduceCtorEq])|(refine zAe (by rfl) (fun hb => ?_) (fun hb => ?_) <;> (try simp only [b1, b2, b3, b4, reduceCtorEq, b5, b6] at hb) <;> (try omega))|refine zAi (by rfl) ?_ ?_|refine andS ?_|(refine ⟨fun hc => ?_, fun hc => ?_⟩)|(intro hc; try omega))
  | true =>
  by_cases hle : l.length = d.length
  rotate_left
  · have e : errCP l d c (u, v) = 5 := zOP hc ⟨hl, hd⟩ hle
    replace hnl := And.intro hnl (And.intro h1 (And.intro (ro1.trans hl) (And.intro hw (And.intro (ro2.trans hd) e))))
    exact auB
  by_cases hp : errPr c (u, v) = 0
  rotate_left
  · have e := zOR hc ⟨hl, hd⟩ hle hp
    replace hnl := And.intro hnl (And.intro h1 (And.intro (ro1.trans hl) (And.intro hw (And.intro (ro2.trans hd) e))))
    exact auB
  obtain ⟨_, ha, hh⟩ := zMa hp
  obtain ⟨hul, hua⟩ := ha.row
  obtain ⟨hvl, hva⟩ := ha.col
  dsimp only at hul hua hvl hva
  obtain ⟨⟨g1, g2⟩, g3⟩ := zBp.1 hl
  obtain ⟨⟨g4, g5⟩, g6⟩ := zBp.1 hd
  replace hnl := And.intro hnl (And.intro h1 (And.intro (ro1.trans hl) (And.intro hw (And.intro (ro2.trans hd) hp))))
  repeat' (first|(refine goK (by assumption) ?_; iterate 4 (try clear hK K))|(refine zAd fun K hK => ?_)|((first|refine zAb hE rfl ?_|refine zAh ?_|((first|refine zAa hE 1 rfl rfl (by kernel_rfl) ?_|refine zAa hE 2 rfl rfl (by kernel_rfl) ?_|refine zAa hE 3 rfl rfl (by kernel_rfl) ?_|refine zAa hE 4 rfl rfl (by kernel_rfl) ?_); simp only [List.length_cons, List.length_nil, Nat.reduceAdd, Nat.reduceSub, List.take_succ_cons, List.take_zero, List.drop_succ_cons, List.drop_zero])); simp +contextual only [hnl, ↓kN, ↓kP, ↓kG, ↓qN, ↓qP, ↓qG, push_cast, seval, reduceCtorEq, Int.cast_ofNat_Int])|refine zAc ?_|((first|refine zAg ?_|refine zAf ?_); simp only [thenQ, zAk, if_true, if_false, Nat.reduceEqDiff, reduceCtorEq])|(refine zAe (by rfl) (fun hb => ?_) (fun hb => ?_) <;> (try simp only [b1, b2, b3, b4, reduceCtorEq, b5, b6] at hb) <;> (try omega))|refine zAi (by rfl) ?_ ?_|refine andS ?_|(refine ⟨fun hc => ?_, fun hc => ?_⟩)|(intro hc; try omega))
  refine zAl (fun k : Nat => AS.of [(0, .one (.val (.sl .int) l)), (1, .one (.val (.sl .int) d)), (2, .one (.val (.sl (.sl .int)) c)), (7, .one (.box 7)), (10, .I k)] [] [(7, .one (.val (.prod (.sl .int) (.sl .int)) (u, v)))]) (fun k => k ≤ l.length ∧ ∀ i, i < k → u.getD (l.getD i 0).toNat 0 + v.getD (d.getD i 0).toNat 0 = (c.getD (l.getD i 0).toNat []).getD (d.getD i 0).toNat 0) (fun k => l.length - k) 0 ⟨Nat.zero_le _, by omega⟩ ?_ ?_
  · refine zAj ?_ ?_ ?_ <;> simp only [push_cast, seval, reduceCtorEq, Int.cast_ofNat_Int]
  intro k ⟨hk, hall⟩ K' hL
  by_cases hkl : k < l.length
  · have k1 := g3 _ (zAw 0 hkl)
    have k2 := g6 _ (zAw 0 (show k < d.length by omega))
    have k3 : (l.getD k 0).toNat < c.length := by omega
    have k4 : (d.getD k 0).toNat < wid c := by omega
    have k5 := hua (l.getD k 0).toNat (by omega)
    have k6 := hva (d.getD k 0).toNat (by omega)
    have k7 := hc.len k3
    replace hnl := And.intro hnl k7
    repeat' (first|(refine goK (by assumption) ?_; iterate 4 (try clear hK K))|(refine zAd fun K hK => ?_)|((first|refine zAb hE rfl ?_|refine zAh ?_|((first|refine zAa hE 1 rfl rfl (by kernel_rfl) ?_|refine zAa hE 2 rfl rfl (by kernel_rfl) ?_|refine zAa hE 3 rfl rfl (by kernel_rfl) ?_|refine zAa hE 4 rfl rfl (by kernel_rfl) ?_); simp only [List.length_cons, List.length_nil, Nat.reduceAdd, Nat.reduceSub, List.take_succ_cons, List.take_zero, List.drop_succ_cons, List.drop_zero])); simp +contextual only [hnl, ↓kN, ↓kP, ↓kG, ↓qN, ↓qP, ↓qG, push_cast, seval, reduceCtorEq, Int.cast_ofNat_Int])|refine zAc ?_|((first|refine zAg ?_|refine zAf ?_); simp only [thenQ, zAk, if_true, if_false, Nat.reduceEqDiff, reduceCtorEq])|(refine zAe (by rfl) (fun hb => ?_) (fun hb => ?_) <;> (try simp only [b1, b2, b3, b4, reduceCtorEq, b5, b6] at hb) <;> (try omega))|refine zAi (by rfl) ?_ ?_|refine andS ?_|(refine ⟨fun hc => ?_, fun hc => ?_⟩)|(intro hc; try omega))
    · exact (zOQ hc ⟨hl, hd⟩ hle hp fun h => hb (h k hkl)).symm
    · refine hL _ (k + 1) ⟨by omega, fun i hi => ?_⟩ (by omega) ?_
      · rcases Nat.lt_or_ge i k with h3 | h3
        · exact hall i h3
        · obtain rfl : i = k := by omega
          exact hb
      refine zAj ?_ ?_ ?_ <;> simp only [push_cast, seval, reduceCtorEq, Int.cast_ofNat_Int]
  · obtain rfl : k = l.length := by omega
    repeat' (first|(refine goK (by assumption) ?_; iterate 4 (try clear hK K))|(refine zAd fun K hK => ?_)|((first|refine zAb hE rfl ?_|refine zAh ?_|((first|refine zAa hE 1 rfl rfl (by kernel_rfl) ?_|refine zAa hE 2 rfl rfl (by kernel_rfl) ?_|refine zAa hE 3 rfl rfl (by kernel_rfl) ?_|refine zAa hE 4 rfl rfl (by kernel_rfl) ?_); simp only [List.length_cons, List.length_nil, Nat.reduceAdd, Nat.reduceSub, List.take_succ_cons, List.take_zero, List.drop_succ_cons, List.drop_zero])); simp +contextual only [hnl, ↓kN, ↓kP, ↓kG, ↓qN, ↓qP, ↓qG, push_cast, seval, reduceCtorEq, Int.cast_ofNat_Int])|refine zAc ?_|((first|refine zAg ?_|refine zAf ?_); simp only [thenQ, zAk, if_true, if_false, Nat.reduceEqDiff, reduceCtorEq])|(refine zAe (by rfl) (fun hb => ?_) (fun hb => ?_) <;> (try simp only [b1, b2, b3, b4, reduceCtorEq, b5, b6] at hb) <;> (try omega))|refine zAi (by rfl) ?_ ?_|refine andS ?_|(refine ⟨fun hc => ?_, fun hc => ?_⟩)|(intro hc; try omega))
    exact (zON hc ⟨hl, hd⟩ hle hp fun i hi => hall i hi).symm
end Go.Proofs.YtlgkplnifaoeeaaGreatDoor
namespace Go.Proofs.YtlgkplnifaoeeaaGreatDoor
open Go.RowKit Go.VS
def pPut : ByteArray := ⟨#[112, 117, 116]⟩
def pTake : ByteArray := ⟨#[116, 97, 107, 101]⟩
def pWant : ByteArray := ⟨#[119, 97, 110, 116]⟩
def pDrop : ByteArray := ⟨#[100, 114, 111, 112]⟩
def pCost : ByteArray := ⟨#[99, 111, 115, 116]⟩
def zTO : ByteArray := ⟨#[119, 97, 115, 116, 101]⟩
def zTN : ByteArray := ⟨#[99, 108, 97, 105, 109]⟩
end Go.Proofs.YtlgkplnifaoeeaaGreatDoor
