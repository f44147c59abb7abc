import Derived.Test.YtlgkplnifaoeeaaGreatDoorY7
import Derived.Test.YtlgkplnifaoeeaaGreatDoorY4
import Derived.Test.YtlgkplnifaoeeaaGreatDoorY6
set_option linter.unusedSimpArgs false
set_option linter.unusedVariables false
namespace Go.Proofs.YtlgkplnifaoeeaaGreatDoor
open Go.RowKit Go.VS
def sprK (r : List Int) (k : Nat) : List Int := (List.range k).flatMap fun j => List.replicate (r.getD j 0).toNat (j : Int)
def spr (r : List Int) : List Int := sprK r r.length
theorem zKg (r : List Int) : sprK r 0 = [] := rfl
theorem zFm (r : List Int) (k : Nat) : sprK r (k + 1) = sprK r k ++ List.replicate (r.getD k 0).toNat (k : Int) := by
  simp [sprK, List.range_succ]
theorem zI1 {r : List Int} (h : ∀ x ∈ r, 0 ≤ x) : ∀ {k : Nat}, k ≤ r.length → ((sprK r k).length : Int) = lsum (r.take k)
  | 0, _ => by simp [zKg, lsum]
  | k + 1, hk => by
    rw [zFm, zB0 r k (by omega), List.length_append, List.length_replicate, ← zI1 h (k := k) (by omega)]
    have := h _ (zAw 0 (show k < r.length by omega))
    omega
def pixV (l : List Int) (p : List (List Int)) (k : Nat) : Int := (spr (p.getD (l.getD k 0).toNat [])).getD (cntV (l.getD k 0) (l.take k)).toNat 0
def zCQ (l : List Int) (p : List (List Int)) : List Int := tbl l.length (pixV l p)
def restV (l : List Int) (p : List (List Int)) (k : Nat) : List (List Int) := tbl p.length fun c => (spr (p.getD c [])).drop (cntV (c : Int) (l.take k)).toNat
def colV (p : List (List Int)) (i j : Nat) : List (List Int) := tbl p.length fun c => if c < i then spr (p.getD c []) else if c = i then sprK (p.getD i []) j else []
def zBk (l : List Int) (p : List (List Int)) : Int := if zA5 p = 0 then if okPic l p.length = true then if rowsP p = palV l p.length then 0 else 5 else 1 else 1
@[push_cast] def zFg : Con := ⟨[.dat (.sl .int), .dat (.sl (.sl .int))], fun _ => True, fun (x : List Int × List (List Int) × Unit) =>
  { res := [.own (.flat 3 .int (if zBk x.1 x.2.1 = 0 then zCQ x.1 x.2.1 else [])), .val .int (zBk x.1 x.2.1)] }⟩
section
variable {l : List Int} {p : List (List Int)} {i j k : Nat}
theorem zHx (h : zA5 p = 1) : zBk l p = 1 := by simp [zBk, h]
theorem zHy (h : zA5 p = 0) (h2 : okPic l p.length = false) : zBk l p = 1 := by simp [zBk, h, h2]
theorem zHz (h : zA5 p = 0) (h2 : okPic l p.length = true) (h3 : ¬ rowsP p = palV l p.length) : zBk l p = 5 := by simp [zBk, h, h2, h3]
theorem zHw (h : zA5 p = 0) (h2 : okPic l p.length = true) (h3 : rowsP p = palV l p.length) : zBk l p = 0 := by simp [zBk, h, h2, h3]
theorem zQx : (colV p i j).length = p.length := zBK _ _
theorem zSa (hi : i < p.length) : (colV p i j).getD i [] = sprK (p.getD i []) j := by
  unfold colV
  rw [zCa _ _ hi, if_neg (Nat.lt_irrefl _), if_pos rfl]
theorem zOB : colV p 0 0 = List.replicate p.length [] := by
  unfold colV
  rw [← zDk]
  refine zAB fun c hc => ?_
  rw [if_neg (Nat.not_lt_zero _)]
  split <;> rfl
theorem zQy (hi : i < p.length) : (colV p i j).set i (sprK (p.getD i []) j ++ List.replicate ((p.getD i []).getD j 0).toNat (j : Int)) = colV p i (j + 1) := by
  unfold colV
  rw [zD7]
  refine zAB fun c hc => ?_
  by_cases h : c = i
  · subst h
    rw [if_pos rfl, if_neg (Nat.lt_irrefl _), if_pos rfl, zFm]
  · rw [if_neg h, if_neg h, if_neg h]
theorem zOA (hi : i < p.length) : colV p i (p.getD i []).length = colV p (i + 1) 0 := by
  unfold colV
  refine zAB fun c hc => ?_
  by_cases h : c = i
  · subst h
    rw [if_neg (Nat.lt_irrefl _), if_pos rfl, if_pos (Nat.lt_succ_self _)]; rfl
  · by_cases h2 : c < i
    · rw [if_pos h2, if_pos (by omega)]
    · rw [if_neg h2, if_neg h, if_neg (by omega)]
      split <;> rfl
theorem zNK : colV p p.length 0 = restV l p 0 := by
  unfold colV restV
  refine zAB fun c hc => ?_
  rw [if_pos hc]
  rfl
theorem zPZ : (restV l p k).length = p.length := zBK _ _
theorem zRq (h : (l.getD k 0).toNat < p.length) (h0 : 0 ≤ l.getD k 0) : (restV l p k).getD (l.getD k 0).toNat [] = (spr (p.getD (l.getD k 0).toNat [])).drop (cntV (l.getD k 0) (l.take k)).toNat := by
  unfold restV
  rw [zCa _ _ h, Int.toNat_of_nonneg h0]
theorem zP0 (hk : k < l.length) (h0 : 0 ≤ l.getD k 0) : (restV l p k).set (l.getD k 0).toNat (((spr (p.getD (l.getD k 0).toNat [])).drop (cntV (l.getD k 0) (l.take k)).toNat).drop 1) = restV l p (k + 1) := by
  unfold restV
  rw [zD7]
  refine zAB fun c hc => ?_
  rw [zCK _ hk]
  have := zCJ (l.getD k 0) (l.take k)
  split
  · rename_i e
    rw [e, if_pos (by omega), List.drop_drop, Int.toNat_of_nonneg h0]
    congr 1
  · rename_i e
    rw [if_neg (by omega), Int.add_zero]
end
theorem zCX (c : Int) (l : List Int) (k : Nat) : cntV c (l.take k) ≤ cntV c l := by
  unfold cntV
  have : (l.take k).count c ≤ l.count c := List.Sublist.count_le _ (List.take_sublist k l)
  omega
theorem zG9 {p : List (List Int)} (hin : InPlan p) {i : Nat} (hi : i < p.length) : ((spr (p.getD i [])).length : Int) = lsum (p.getD i []) := by
  have h := zI1 (r := p.getD i []) (fun x hx => by
    obtain ⟨k, hk, rfl⟩ := List.getElem_of_mem hx
    have := hin.at hi (show k < wid p by rw [← hin.row hi]; exact hk)
    rw [List.getD_eq_getElem?_getD (l := p.getD i []), List.getElem?_eq_getElem hk] at this
    exact this.1) (Nat.le_refl _)
  rw [List.take_length] at h
  exact h
theorem zFJ {l : List Int} {p : List (List Int)} (h : rowsP p = palV l p.length) {i : Nat} (hi : i < p.length) : lsum (p.getD i []) = cntV (i : Int) l := by
  have h1 := congrArg (fun x => x.getD i 0) h
  simp only [palV, zCa _ _ hi] at h1
  rw [← h1, rowsP, List.getD_eq_getElem?_getD, List.getD_eq_getElem?_getD, List.getElem?_map, List.getElem?_eq_getElem hi]
  rfl
set_option maxRecDepth 10000 in
theorem zHQ : FnSpec Tryz.prog 25 zFg := by
  refine FnSpec.of_tri' (E := know [(65, zGX), (59, zMz), (66, zRO), (60, zHR), (67, zL6), (68, zRZ)] [] [] []) (zAm (all_cons zJU (all_cons zIG (all_cons zOb (all_cons zF3 (all_cons zM9 (all_cons zLv all_nil)))))) all_nil all_nil) Tryz.func25 rfl rfl (by kernel_rfl) ?_
  intro C x hE hnl hfit hpre
  simp only [Tryz.ntmps25, Tryz.results25, maxLen, Nat.reduceSub, Nat.reducePow, Nat.reduceAdd, Int.cast_ofNat_Int, push_cast] at hnl hfit hpre ⊢
  obtain ⟨(l : List Int), (p : List (List Int)), _⟩ := x
  dsimp only at hfit hpre ⊢
  rcases zFy p with he | he
  rotate_left
  · replace hnl := And.intro hnl (And.intro he (zHx (l := l) he))
    exact auB
  have hin := zEd he
  cases hpi : okPic l p.length with
  | false =>
    replace hnl := And.intro hnl (And.intro he (And.intro hpi (zHy he hpi)))
    repeat' (first|(refine goK (by assumption) ?_; iterate 4 (try clear hK K))|(refine zAd fun K hK => ?_)|((first|refine zAb hE rfl ?_|refine zAh ?_|((first|refine zAa hE 1 rfl rfl (by kernel_rfl) ?_|refine zAa hE 2 rfl rfl (by kernel_rfl) ?_|refine zAa hE 3 rfl rfl (by kernel_rfl) ?_|refine zAa hE 4 rfl rfl (by kernel_rfl) ?_); simp only [List.length_cons, List.length_nil, Nat.reduceAdd, Nat.reduceSub, List.take_succ_cons, List.take_zero, List.drop_succ_cons, List.drop_zero])); simp +contextual only [hnl, ↓kN, ↓kP, ↓kG, ↓qN, ↓qP, ↓qG, push_cast, seval, reduceCtorEq, Int.cast_ofNat_Int])|refine zAc ?_|((first|refine zAg ?_|refine zAf ?_); simp only [thenQ, zAk, if_true, if_false, Nat.reduceEqDiff, reduceCtorEq])|(refine zAe (by rfl) (fun hb => ?_) (fun hb => ?_) <;> (try simp only [b1, b2, b3, b4, reduceCtorEq, b5, b6] at hb) <;> (try omega))|refine zAi (by rfl) ?_ ?_|refine andS ?_|(refine ⟨fun hc => ?_, fun hc => ?_⟩)|(intro hc; try omega))
  | true =>
  obtain ⟨⟨g1, g2⟩, g3⟩ := zBp.1 hpi
  have hp : PalPre l p.length := ⟨by have := hin.rows; omega, by omega, fun c hc => by have := g3 c hc; omega⟩
  by_cases hrw : rowsP p = palV l p.length
  rotate_left
  · replace hnl := And.intro hnl (And.intro he (And.intro hpi (And.intro (zHz he hpi hrw) (And.intro (eq_true hp) (eq_false hrw)))))
    exact auB
  have hz := zHw he hpi hrw
  have hrows := hin.rows
  have hcols := hin.cols
  replace hnl := And.intro hnl (And.intro he (And.intro hpi (And.intro hz (And.intro (eq_true hp) (eq_true hrw)))))
  repeat' (first|(refine goK (by assumption) ?_; iterate 4 (try clear hK K))|(refine zAd fun K hK => ?_)|((first|refine zAb hE rfl ?_|refine zAh ?_|((first|refine zAa hE 1 rfl rfl (by kernel_rfl) ?_|refine zAa hE 2 rfl rfl (by kernel_rfl) ?_|refine zAa hE 3 rfl rfl (by kernel_rfl) ?_|refine zAa hE 4 rfl rfl (by kernel_rfl) ?_); simp only [List.length_cons, List.length_nil, Nat.reduceAdd, Nat.reduceSub, List.take_succ_cons, List.take_zero, List.drop_succ_cons, List.drop_zero])); simp +contextual only [hnl, ↓kN, ↓kP, ↓kG, ↓qN, ↓qP, ↓qG, push_cast, seval, reduceCtorEq, Int.cast_ofNat_Int])|refine zAc ?_|((first|refine zAg ?_|refine zAf ?_); simp only [thenQ, zAk, if_true, if_false, Nat.reduceEqDiff, reduceCtorEq])|(refine zAe (by rfl) (fun hb => ?_) (fun hb => ?_) <;> (try simp only [b1, b2, b3, b4, reduceCtorEq, b5, b6] at hb) <;> (try omega))|refine zAi (by rfl) ?_ ?_|refine andS ?_|(refine ⟨fun hc => ?_, fun hc => ?_⟩)|(intro hc; try omega))
  refine zAl (fun i : Nat => AS.of [(0, .one (.val (.sl .int) l)), (10, .one (.ref 43)), (44, .one (.val (.sl (.sl .int)) p)), (45, .I p.length), (46, .I i)] [(43, .deep 25 3 .int (colV p i 0))] []) (fun i => i ≤ p.length) (fun i => p.length - i) 0 (Nat.zero_le _) ?_ ?_
  · refine zAj ?_ ?_ ?_ <;> simp only [push_cast, seval, reduceCtorEq, Int.cast_ofNat_Int]
    exact .inl (by rw [zOB])
  intro i hi K' hL
  by_cases hil : i < p.length
  · have hw := hin.row hil
    have hat := fun j (hj : j < (p.getD i []).length) => hin.at hil (show j < wid p by omega)
    repeat' (first|(refine goK (by assumption) ?_; iterate 4 (try clear hK K))|(refine zAd fun K hK => ?_)|((first|refine zAb hE rfl ?_|refine zAh ?_|((first|refine zAa hE 1 rfl rfl (by kernel_rfl) ?_|refine zAa hE 2 rfl rfl (by kernel_rfl) ?_|refine zAa hE 3 rfl rfl (by kernel_rfl) ?_|refine zAa hE 4 rfl rfl (by kernel_rfl) ?_); simp only [List.length_cons, List.length_nil, Nat.reduceAdd, Nat.reduceSub, List.take_succ_cons, List.take_zero, List.drop_succ_cons, List.drop_zero])); simp +contextual only [hnl, ↓kN, ↓kP, ↓kG, ↓qN, ↓qP, ↓qG, push_cast, seval, reduceCtorEq, Int.cast_ofNat_Int])|refine zAc ?_|((first|refine zAg ?_|refine zAf ?_); simp only [thenQ, zAk, if_true, if_false, Nat.reduceEqDiff, reduceCtorEq])|(refine zAe (by rfl) (fun hb => ?_) (fun hb => ?_) <;> (try simp only [b1, b2, b3, b4, reduceCtorEq, b5, b6] at hb) <;> (try omega))|refine zAi (by rfl) ?_ ?_|refine andS ?_|(refine ⟨fun hc => ?_, fun hc => ?_⟩)|(intro hc; try omega))
    refine zAl (fun j : Nat => AS.of [(0, .one (.val (.sl .int) l)), (10, .one (.ref 43)), (11, .I i), (44, .one (.val (.sl (.sl .int)) p)), (45, .I p.length), (46, .I i), (51, .one (.val (.sl .int) (p.getD i []))), (52, .I (p.getD i []).length), (53, .I j)] [(43, .deep 25 3 .int (colV p i j))] []) (fun j => j ≤ (p.getD i []).length) (fun j => (p.getD i []).length - j) 0 (Nat.zero_le _) ?_ ?_
    · refine zAj ?_ ?_ ?_ <;> simp only [push_cast, seval, reduceCtorEq, Int.cast_ofNat_Int]
    intro j hj K'' hL2
    by_cases hjl : j < (p.getD i []).length
    · have h1 := hat j hjl
      have hr : RepPre [(j : Int)] ((p.getD i []).getD j 0) := ⟨rfl, by omega⟩
      have h2 : (colV p i j).length = p.length := zQx
      have h3 := zSa (p := p) (j := j) hil
      replace hnl := And.intro hnl (And.intro h2 (And.intro h3 (eq_true hr)))
      have h4 := hin.sumR hil j
      have h5 : ((sprK (p.getD i []) j).length : Int) = lsum ((p.getD i []).take j) := zI1 (fun x hx => by obtain ⟨k, hk, rfl⟩ := List.getElem_of_mem hx; have := hat k hk; rw [List.getD_eq_getElem?_getD, List.getElem?_eq_getElem hk] at this; exact this.1) hj
      have h6 := zQy (p := p) (j := j) hil
      repeat' (first|(refine zDz hE 3 [0, 1] rfl (by decide +kernel) ?_; simp only [List.length_cons, List.length_nil, Nat.reduceAdd, Nat.reduceSub, List.take_succ_cons, List.take_zero, List.drop_succ_cons, List.drop_zero, pickM, headM, List.filterMap_cons, List.filterMap_nil, List.getElem?_cons_zero, List.getElem?_cons_succ, List.contains_cons, List.contains_nil, Nat.reduceBEq, Bool.or_false, Bool.false_or, Bool.true_or, Bool.or_true, if_true, Bool.false_eq_true, if_false, List.cons_append, List.nil_append]; simp +contextual only [hnl, ↓kN, ↓kP, ↓kG, ↓qN, ↓qP, ↓qG, push_cast, seval, reduceCtorEq, Int.cast_ofNat_Int])|(first|(refine goK (by assumption) ?_; iterate 4 (try clear hK K))|(refine zAd fun K hK => ?_)|((first|refine zAb hE rfl ?_|refine zAh ?_|((first|refine zAa hE 1 rfl rfl (by kernel_rfl) ?_|refine zAa hE 2 rfl rfl (by kernel_rfl) ?_|refine zAa hE 3 rfl rfl (by kernel_rfl) ?_|refine zAa hE 4 rfl rfl (by kernel_rfl) ?_); simp only [List.length_cons, List.length_nil, Nat.reduceAdd, Nat.reduceSub, List.take_succ_cons, List.take_zero, List.drop_succ_cons, List.drop_zero])); simp +contextual only [hnl, ↓kN, ↓kP, ↓kG, ↓qN, ↓qP, ↓qG, push_cast, seval, reduceCtorEq, Int.cast_ofNat_Int])|refine zAc ?_|((first|refine zAg ?_|refine zAf ?_); simp only [thenQ, zAk, if_true, if_false, Nat.reduceEqDiff, reduceCtorEq])|(refine zAe (by rfl) (fun hb => ?_) (fun hb => ?_) <;> (try simp only [b1, b2, b3, b4, reduceCtorEq, b5, b6] at hb) <;> (try omega))|refine zAi (by rfl) ?_ ?_|refine andS ?_|(refine ⟨fun hc => ?_, fun hc => ?_⟩)|(intro hc; try omega)))
      refine ⟨⟨hil, by omega, by rw [List.length_replicate]; omega⟩, ?_⟩
      repeat' (first|(refine goK (by assumption) ?_; iterate 4 (try clear hK K))|(refine zAd fun K hK => ?_)|((first|refine zAb hE rfl ?_|refine zAh ?_|((first|refine zAa hE 1 rfl rfl (by kernel_rfl) ?_|refine zAa hE 2 rfl rfl (by kernel_rfl) ?_|refine zAa hE 3 rfl rfl (by kernel_rfl) ?_|refine zAa hE 4 rfl rfl (by kernel_rfl) ?_); simp only [List.length_cons, List.length_nil, Nat.reduceAdd, Nat.reduceSub, List.take_succ_cons, List.take_zero, List.drop_succ_cons, List.drop_zero])); simp +contextual only [hnl, ↓kN, ↓kP, ↓kG, ↓qN, ↓qP, ↓qG, push_cast, seval, reduceCtorEq, Int.cast_ofNat_Int])|refine zAc ?_|((first|refine zAg ?_|refine zAf ?_); simp only [thenQ, zAk, if_true, if_false, Nat.reduceEqDiff, reduceCtorEq])|(refine zAe (by rfl) (fun hb => ?_) (fun hb => ?_) <;> (try simp only [b1, b2, b3, b4, reduceCtorEq, b5, b6] at hb) <;> (try omega))|refine zAi (by rfl) ?_ ?_|refine andS ?_|(refine ⟨fun hc => ?_, fun hc => ?_⟩)|(intro hc; try omega))
      refine hL2 _ (j + 1) (by omega) (by omega) ?_
      refine zAj ?_ ?_ ?_ <;> simp only [push_cast, seval, reduceCtorEq, Int.cast_ofNat_Int]
      exact .inl (by rw [h6])
    · obtain rfl : j = (p.getD i []).length := by omega
      rw [zOA hil]
      repeat' (first|(refine goK (by assumption) ?_; iterate 4 (try clear hK K))|(refine zAd fun K hK => ?_)|((first|refine zAb hE rfl ?_|refine zAh ?_|((first|refine zAa hE 1 rfl rfl (by kernel_rfl) ?_|refine zAa hE 2 rfl rfl (by kernel_rfl) ?_|refine zAa hE 3 rfl rfl (by kernel_rfl) ?_|refine zAa hE 4 rfl rfl (by kernel_rfl) ?_); simp only [List.length_cons, List.length_nil, Nat.reduceAdd, Nat.reduceSub, List.take_succ_cons, List.take_zero, List.drop_succ_cons, List.drop_zero])); simp +contextual only [hnl, ↓kN, ↓kP, ↓kG, ↓qN, ↓qP, ↓qG, push_cast, seval, reduceCtorEq, Int.cast_ofNat_Int])|refine zAc ?_|((first|refine zAg ?_|refine zAf ?_); simp only [thenQ, zAk, if_true, if_false, Nat.reduceEqDiff, reduceCtorEq])|(refine zAe (by rfl) (fun hb => ?_) (fun hb => ?_) <;> (try simp only [b1, b2, b3, b4, reduceCtorEq, b5, b6] at hb) <;> (try omega))|refine zAi (by rfl) ?_ ?_|refine andS ?_|(refine ⟨fun hc => ?_, fun hc => ?_⟩)|(intro hc; try omega))
      refine hL _ (i + 1) (by omega) (by omega) ?_
      refine zAj ?_ ?_ ?_ <;> simp only [push_cast, seval, reduceCtorEq, Int.cast_ofNat_Int]
  · obtain rfl : i = p.length := by omega
    rw [zNK (l := l)]
    repeat' (first|(refine goK (by assumption) ?_; iterate 4 (try clear hK K))|(refine zAd fun K hK => ?_)|((first|refine zAb hE rfl ?_|refine zAh ?_|((first|refine zAa hE 1 rfl rfl (by kernel_rfl) ?_|refine zAa hE 2 rfl rfl (by kernel_rfl) ?_|refine zAa hE 3 rfl rfl (by kernel_rfl) ?_|refine zAa hE 4 rfl rfl (by kernel_rfl) ?_); simp only [List.length_cons, List.length_nil, Nat.reduceAdd, Nat.reduceSub, List.take_succ_cons, List.take_zero, List.drop_succ_cons, List.drop_zero])); simp +contextual only [hnl, ↓kN, ↓kP, ↓kG, ↓qN, ↓qP, ↓qG, push_cast, seval, reduceCtorEq, Int.cast_ofNat_Int])|refine zAc ?_|((first|refine zAg ?_|refine zAf ?_); simp only [thenQ, zAk, if_true, if_false, Nat.reduceEqDiff, reduceCtorEq])|(refine zAe (by rfl) (fun hb => ?_) (fun hb => ?_) <;> (try simp only [b1, b2, b3, b4, reduceCtorEq, b5, b6] at hb) <;> (try omega))|refine zAi (by rfl) ?_ ?_|refine andS ?_|(refine ⟨fun hc => ?_, fun hc => ?_⟩)|(intro hc; try omega))
    refine zSM (r := 43) (by simp only [push_cast, seval, reduceCtorEq, Int.cast_ofNat_Int]; rfl) ?_
    refine zAl (fun k : Nat => AS.of [(10, .one (.ref 43)), (15, .one (.ref 86)), (72, .one (.val (.sl .int) l)), (73, .I l.length), (74, .I k)] [(43, .rags 25 .int (restV l p k)), (86, .flat 3 .int (tbl k (pixV l p)))] []) (fun k => k ≤ l.length) (fun k => l.length - k) 0 (Nat.zero_le _) ?_ ?_
    · refine zAj ?_ ?_ ?_ <;> simp only [push_cast, seval, reduceCtorEq, Int.cast_ofNat_Int]
      exact ⟨by omega, rfl⟩
    intro k hk K' hL
    by_cases hkl : k < l.length
    · have h1 := g3 _ (zAw 0 hkl)
      have h2 : (l.getD k 0).toNat < p.length := by omega
      have h3 := zRq (l := l) (p := p) h2 h1.1
      have h4 := zP0 (l := l) (p := p) hkl h1.1
      have h5 : (restV l p k).length = p.length := zPZ
      have h6 : ((spr (p.getD (l.getD k 0).toNat [])).length : Int) = lsum (p.getD (l.getD k 0).toNat []) := zG9 hin h2
      have h7 : cntV (l.getD k 0) (l.take k) + 1 ≤ lsum (p.getD (l.getD k 0).toNat []) := by
        rw [zFJ hrw h2, Int.toNat_of_nonneg h1.1]
        have e1 := zCK (l.getD k 0) hkl
        rw [if_pos rfl] at e1
        have e2 := zCX (l.getD k 0) l (k + 1)
        omega
      have h8 : ((spr (p.getD (l.getD k 0).toNat [])).drop (cntV (l.getD k 0) (l.take k)).toNat).getD 0 0 = pixV l p k := by
        unfold pixV
        rw [List.getD_eq_getElem?_getD, List.getElem?_drop, Nat.add_zero, ← List.getD_eq_getElem?_getD]
      have h9 : ((spr (p.getD (l.getD k 0).toNat [])).drop (cntV (l.getD k 0) (l.take k)).toNat).length = (spr (p.getD (l.getD k 0).toNat [])).length - (cntV (l.getD k 0) (l.take k)).toNat := List.length_drop
      have h10 := zCJ (l.getD k 0) (l.take k)
      have h11 : (tbl k (pixV l p)).length = k := zBK _ _
      replace hnl := And.intro hnl (And.intro h3 (And.intro h5 (And.intro h8 (And.intro h9 h11))))
      repeat' (first|(refine goK (by assumption) ?_; iterate 4 (try clear hK K))|(refine zAd fun K hK => ?_)|((first|refine zAb hE rfl ?_|refine zAh ?_|((first|refine zAa hE 1 rfl rfl (by kernel_rfl) ?_|refine zAa hE 2 rfl rfl (by kernel_rfl) ?_|refine zAa hE 3 rfl rfl (by kernel_rfl) ?_|refine zAa hE 4 rfl rfl (by kernel_rfl) ?_); simp only [List.length_cons, List.length_nil, Nat.reduceAdd, Nat.reduceSub, List.take_succ_cons, List.take_zero, List.drop_succ_cons, List.drop_zero])); simp +contextual only [hnl, ↓kN, ↓kP, ↓kG, ↓qN, ↓qP, ↓qG, push_cast, seval, reduceCtorEq, Int.cast_ofNat_Int])|refine zAc ?_|((first|refine zAg ?_|refine zAf ?_); simp only [thenQ, zAk, if_true, if_false, Nat.reduceEqDiff, reduceCtorEq])|(refine zAe (by rfl) (fun hb => ?_) (fun hb => ?_) <;> (try simp only [b1, b2, b3, b4, reduceCtorEq, b5, b6] at hb) <;> (try omega))|refine zAi (by rfl) ?_ ?_|refine andS ?_|(refine ⟨fun hc => ?_, fun hc => ?_⟩)|(intro hc; try omega))
      refine hL _ (k + 1) (by omega) (by omega) ?_
      refine zAj ?_ ?_ ?_ <;> simp only [push_cast, seval, reduceCtorEq, Int.cast_ofNat_Int]
      exact ⟨.inl (by rw [h4]), .inl (by rw [zFr])⟩
    · obtain rfl : k = l.length := by omega
      repeat' (first|(refine goK (by assumption) ?_; iterate 4 (try clear hK K))|(refine zAd fun K hK => ?_)|((first|refine zAb hE rfl ?_|refine zAh ?_|((first|refine zAa hE 1 rfl rfl (by kernel_rfl) ?_|refine zAa hE 2 rfl rfl (by kernel_rfl) ?_|refine zAa hE 3 rfl rfl (by kernel_rfl) ?_|refine zAa hE 4 rfl rfl (by kernel_rfl) ?_); simp only [List.length_cons, List.length_nil, Nat.reduceAdd, Nat.reduceSub, List.take_succ_cons, List.take_zero, List.drop_succ_cons, List.drop_zero])); simp +contextual only [hnl, ↓kN, ↓kP, ↓kG, ↓qN, ↓qP, ↓qG, push_cast, seval, reduceCtorEq, Int.cast_ofNat_Int])|refine zAc ?_|((first|refine zAg ?_|refine zAf ?_); simp only [thenQ, zAk, if_true, if_false, Nat.reduceEqDiff, reduceCtorEq])|(refine zAe (by rfl) (fun hb => ?_) (fun hb => ?_) <;> (try simp only [b1, b2, b3, b4, reduceCtorEq, b5, b6] at hb) <;> (try omega))|refine zAi (by rfl) ?_ ?_|refine andS ?_|(refine ⟨fun hc => ?_, fun hc => ?_⟩)|(intro hc; try omega))
      rfl
end Go.Proofs.YtlgkplnifaoeeaaGreatDoor
namespace Go.Proofs.YtlgkplnifaoeeaaGreatDoor
open Go.RowKit Go.VS
theorem zGE (c : Int) (l m : List Int) : cntV c (l ++ m) = cntV c l + cntV c m := by
  unfold cntV
  rw [List.count_append]; omega
theorem zQv (c v : Int) (n : Nat) : cntV c (List.replicate n v) = if v = c then (n : Int) else 0 := by
  unfold cntV
  rw [List.count_replicate]
  simp only [beq_iff_eq]
  split <;> rfl
theorem zMM {r : List Int} (h : ∀ x ∈ r, 0 ≤ x) (j : Nat) : ∀ {k : Nat}, k ≤ r.length → cntV (j : Int) (sprK r k) = if j < k then r.getD j 0 else 0
  | 0, _ => by simp [zKg, cntV]
  | k + 1, hk => by
    have h0 := h _ (zAw 0 (show k < r.length by omega))
    rw [zFm, zGE, zMM h j (by omega), zQv]
    by_cases h1 : j < k
    · rw [if_pos h1, if_neg (by omega), if_pos (by omega), Int.add_zero]
    · rw [if_neg h1]
      by_cases h2 : j = k
      · subst h2
        rw [if_pos rfl, if_pos (by omega)]; omega
      · rw [if_neg (by omega), if_neg (by omega)]; rfl
theorem zSK {r : List Int} (h : ∀ x ∈ r, 0 ≤ x) {j : Nat} (hj : j < r.length) : cntV (j : Int) (spr r) = r.getD j 0 := by
  unfold spr
  rw [zMM h j (Nat.le_refl _), if_pos hj]
theorem zLC {r : List Int} {x : Int} (h : x ∈ spr r) : ∃ j, j < r.length ∧ x = (j : Int) ∧ 0 < r.getD j 0 := by
  unfold spr sprK at h
  obtain ⟨j, h1, h2⟩ := List.mem_flatMap.1 h
  obtain ⟨h3, h4⟩ := List.mem_replicate.1 h2
  exact ⟨j, List.mem_range.1 h1, h4, by omega⟩
theorem zSJ {r : List Int} {k : Nat} {x : Int} (h : x ∈ sprK r k) : x < (k : Int) := by
  obtain ⟨j, h1, h2⟩ := List.mem_flatMap.1 h
  have := List.mem_range.1 h1
  have := (List.mem_replicate.1 h2).2
  omega
theorem zG8 (r : List Int) : ∀ k, (sprK r k).Pairwise (· ≤ ·)
  | 0 => List.Pairwise.nil
  | k + 1 => by
    rw [zFm, List.pairwise_append]
    refine ⟨zG8 r k, List.pairwise_replicate.2 (.inr (Int.le_refl _)), fun a ha b hb => ?_⟩
    have := zSJ ha
    have := (List.mem_replicate.1 hb).2
    omega
def remR (r : List Int) (t : Nat) : List Int := tbl r.length fun j => cntV (j : Int) ((spr r).drop t)
def remV (l : List Int) (p : List (List Int)) (k : Nat) : List (List Int) := tbl p.length fun c => remR (p.getD c []) (cntV (c : Int) (l.take k)).toNat
theorem zPX {r : List Int} (h : ∀ x ∈ r, 0 ≤ x) : remR r 0 = r := by
  conv => rhs; rw [zGo r 0]
  unfold remR
  refine zAB fun j hj => ?_
  rw [List.drop_zero, zSK h hj]
theorem zIQ (r : List Int) (t : Nat) : (remR r t).length = r.length := zBK _ _
section
variable {r : List Int} {t : Nat}
theorem zMF (ht : t < (spr r).length) : (spr r).drop t = (spr r).getD t 0 :: (spr r).drop (t + 1) := zGI 0 ht
theorem zSE (ht : t < (spr r).length) {j : Nat} (hj : (j : Int) < (spr r).getD t 0) : cntV (j : Int) ((spr r).drop t) = 0 := by
  have hs : ((spr r).drop t).Pairwise (· ≤ ·) := List.Pairwise.sublist (List.drop_sublist t _) (zG8 r _)
  rw [zMF ht] at hs ⊢
  have h1 := (List.pairwise_cons.1 hs).1
  unfold cntV
  have : ((spr r).getD t 0 :: (spr r).drop (t + 1)).count (j : Int) = 0 := by
    rw [List.count_eq_zero]
    intro hm
    rcases List.mem_cons.1 hm with h | h
    · omega
    · have := h1 _ h; omega
  omega
theorem zIT (ht : t < (spr r).length) (j : Nat) : cntV (j : Int) ((spr r).drop t) = cntV (j : Int) ((spr r).drop (t + 1)) + if (spr r).getD t 0 = (j : Int) then 1 else 0 := by
  rw [zMF ht]
  unfold cntV
  rw [List.count_cons]
  simp only [beq_iff_eq]
  split <;> simp
theorem zSF (ht : t < (spr r).length) {j : Nat} (hj : (spr r).getD t 0 = (j : Int)) : 0 < cntV (j : Int) ((spr r).drop t) := by
  rw [zIT ht, if_pos hj]
  have := (zCJ (j : Int) ((spr r).drop (t + 1))).1
  omega
theorem zLt {j : Nat} (hj : j < r.length) : (remR r t).getD j 0 = cntV (j : Int) ((spr r).drop t) := zCa _ _ hj
theorem zRp (ht : t < (spr r).length) {j : Nat} (hj : (spr r).getD t 0 = (j : Int)) (hl : j < r.length) : (remR r t).set j ((remR r t).getD j 0 - 1) = remR r (t + 1) := by
  rw [zLt hl]
  unfold remR
  rw [zD7]
  refine zAB fun i hi => ?_
  rw [zIT ht i]
  split
  · rename_i e
    subst e
    rw [zIT ht, if_pos hj]; omega
  · rename_i e
    rw [if_neg (by omega), Int.add_zero]
end
section
variable {l : List Int} {p : List (List Int)} {k : Nat}
theorem zIS : (remV l p k).length = p.length := zBK _ _
theorem zIR {c : Nat} (hc : c < p.length) : (remV l p k).getD c [] = remR (p.getD c []) (cntV (c : Int) (l.take k)).toNat := zCa _ _ hc
theorem zJ1 (h : ∀ c, c < p.length → ∀ x ∈ p.getD c [], 0 ≤ x) : remV l p 0 = p := by
  conv => rhs; rw [zGo p []]
  unfold remV
  refine zAB fun c hc => ?_
  exact zPX (h c hc)
theorem zME (hk : k < l.length) (h0 : 0 ≤ l.getD k 0) (hc : (l.getD k 0).toNat < p.length) (ht : (cntV (l.getD k 0) (l.take k)).toNat < (spr (p.getD (l.getD k 0).toNat [])).length) {j : Nat} (hj : pixV l p k = (j : Int)) (hl : j < (p.getD (l.getD k 0).toNat []).length) :
    (remV l p k).set (l.getD k 0).toNat (((remV l p k).getD (l.getD k 0).toNat []).set j ((((remV l p k).getD (l.getD k 0).toNat []).getD j 0) - 1)) = remV l p (k + 1) := by
  rw [zIR hc, Int.toNat_of_nonneg h0, zRp ht hj hl]
  unfold remV
  rw [zD7]
  refine zAB fun c hc' => ?_
  rw [zCK _ hk]
  have := zCJ (l.getD k 0) (l.take k)
  split
  · rename_i e
    subst e
    rw [if_pos (by omega), Int.toNat_of_nonneg h0]
    congr 1
  · rename_i e
    rw [if_neg (by omega), Int.add_zero]
end
end Go.Proofs.YtlgkplnifaoeeaaGreatDoor
namespace Go.Proofs.YtlgkplnifaoeeaaGreatDoor
open Go.RowKit Go.VS
def PixT (l d : List Int) (c : List (List Int)) (p : zCs) : Prop := ∀ k, k < l.length → p.1.getD (l.getD k 0).toNat 0 + p.2.getD (d.getD k 0).toNat 0 = (c.getD (l.getD k 0).toNat []).getD (d.getD k 0).toNat 0
instance (l d : List Int) (c : List (List Int)) (p : zCs) : Decidable (PixT l d c p) := by unfold PixT; infer_instance
def errCP (l d : List Int) (c : List (List Int)) (p : zCs) : Int :=
  if InTab 0 99 c then if okPic l c.length = true ∧ okPic d (wid c) = true then if l.length = d.length then if errPr c p = 0 then if PixT l d c p then 0 else 7 else errPr c p else 5 else 1 else 1
@[push_cast] def cpCon : Con := ⟨[.dat (.sl .int), .dat (.sl .int), .dat (.sl (.sl .int)), .dat (.prod (.sl .int) (.sl .int))], fun _ => True, fun (x : List Int × List Int × List (List Int) × zCs × Unit) => { res := [.val .int (errCP x.1 x.2.1 x.2.2.1 x.2.2.2.1)] }⟩
section
variable {l d : List Int} {c : List (List Int)} {p : zCs}
theorem zOO (h : ¬ InTab 0 99 c) : errCP l d c p = 1 := if_neg h
theorem zIo (h : InTab 0 99 c) (h2 : ¬ (okPic l c.length = true ∧ okPic d (wid c) = true)) : errCP l d c p = 1 := by rw [errCP, if_pos h, if_neg h2]
theorem zOP (h : InTab 0 99 c) (h2 : okPic l c.length = true ∧ okPic d (wid c) = true) (h3 : ¬ l.length = d.length) : errCP l d c p = 5 := by rw [errCP, if_pos h, if_pos h2, if_neg h3]
theorem zOR (h : InTab 0 99 c) (h2 : okPic l c.length = true ∧ okPic d (wid c) = true) (h3 : l.length = d.length) (h4 : ¬ errPr c p = 0) : errCP l d c p = errPr c p := by rw [errCP, if_pos h, if_pos h2, if_pos h3, if_neg h4]
theorem zOQ (h : InTab 0 99 c) (h2 : okPic l c.length = true ∧ okPic d (wid c) = true) (h3 : l.length = d.length) (h4 : errPr c p = 0) (h5 : ¬ PixT l d c p) : errCP l d c p = 7 := by rw [errCP, if_pos h, if_pos h2, if_pos h3, if_pos h4, if_neg h5]
theorem zON (h : InTab 0 99 c) (h2 : okPic l c.length = true ∧ okPic d (wid c) = true) (h3 : l.length = d.length) (h4 : errPr c p = 0) (h5 : PixT l d c p) : errCP l d c p = 0 := by rw [errCP, if_pos h, if_pos h2, if_pos h3, if_pos h4, if_pos h5]
end
theorem zSb : FnSpec Tryz.prog 42 cpCon := by
  refine FnSpec.of_tri' (E := know [(73, zDP), (59, zMz), (91, prCon)] [] [] []) (zAm (all_cons zEm (all_cons zIG (all_cons zRc all_nil))) all_nil all_nil) Tryz.func42 rfl rfl (by kernel_rfl) ?_
  intro C x hE hnl hfit hpre
  simp only [Tryz.ntmps42, Tryz.results42, maxLen, Nat.reduceSub, Nat.reducePow, Nat.reduceAdd, Int.cast_ofNat_Int, push_cast] at hnl hfit hpre ⊢
  obtain ⟨(l : List Int), (d : List Int), (c : List (List Int)), ⟨(u : List Int), (v : List Int)⟩, _⟩ := x
  dsimp only at hfit hpre ⊢
  by_cases hc : InTab 0 99 c
  rotate_left
  · have h1 := zBY hc
    have e : errCP l d c (u, v) = 1 := zOO hc
    replace hnl := And.intro hnl (And.intro h1 e)
    exact auB
  have h1 := zCM hc
  have hw : (c.getD 0 []).length = wid c := rfl
  have hrs := hc.rows
  cases hl : okPic l c.length with
  | false =>
    have e : errCP l d c (u, v) = 1 := zIo hc (fun h => by rw [hl] at h; cases h.1)
    replace hnl := And.intro hnl (And.intro h1 (And.intro hl e))
    repeat' (first|(refine goK (by assumption) ?_; iterate 4 (try clear hK K))|(refine zAd fun K hK => ?_)|((first|refine zAb hE rfl ?_|refine zAh ?_|((first|refine zAa hE 1 rfl rfl (by kernel_rfl) ?_|refine zAa hE 2 rfl rfl (by kernel_rfl) ?_|refine zAa hE 3 rfl rfl (by kernel_rfl) ?_|refine zAa hE 4 rfl rfl (by kernel_rfl) ?_); simp only [List.length_cons, List.length_nil, Nat.reduceAdd, Nat.reduceSub, List.take_succ_cons, List.take_zero, List.drop_succ_cons, List.drop_zero])); simp +contextual only [hnl, ↓kN, ↓kP, ↓kG, ↓qN, ↓qP, ↓qG, push_cast, seval, reduceCtorEq, Int.cast_ofNat_Int])|refine zAc ?_|((first|refine zAg ?_|refine zAf ?_); simp only [thenQ, zAk, if_true, if_false, Nat.reduceEqDiff, reduceCtorEq])|(refine zAe (by rfl) (fun hb => ?_) (fun hb => ?_) <;> (try simp only [b1, b2, b3, b4, reduceCtorEq, b5, b6] at hb) <;> (try omega))|refine zAi (by rfl) ?_ ?_|refine andS ?_|(refine ⟨fun hc => ?_, fun hc => ?_⟩)|(intro hc; try omega))
  | true =>
  cases hd : okPic d (wid c) with
  | false =>
    have e : errCP l d c (u, v) = 1 := zIo hc (fun h => by rw [hd] at h; cases h.2)
    replace hnl := And.intro hnl (And.intro h1 (And.intro hl (And.intro hw (And.intro hd e))))
    repeat' (first|(refine goK (by assumption) ?_; iterate 4 (try clear hK K))|(refine zAd fun K hK => ?_)|((first|refine zAb hE rfl ?_|refine zAh ?_|((first|refine zAa hE 1 rfl rfl (by kernel_rfl) ?_|refine zAa hE 2 rfl rfl (by kernel_rfl) ?_|refine zAa hE 3 rfl rfl (by kernel_rfl) ?_|refine zAa hE 4 rfl rfl (by kernel_rfl) ?_); simp only [List.length_cons, List.length_nil, Nat.reduceAdd, Nat.reduceSub, List.take_succ_cons, List.take_zero, List.drop_succ_cons, List.drop_zero])); simp +contextual only [hnl, ↓kN, ↓kP, ↓kG, ↓qN, ↓qP, ↓qG, push_cast, seval, reduceCtorEq, Int.cast_ofNat_Int])|refine zAc ?_|((first|refine zAg ?_|refine zAf ?_); simp only [thenQ, zAk, if_true, if_false, Nat.reduceEqDiff, reduceCtorEq])|(refine zAe (by rfl) (fun hb => ?_) (fun hb => ?_) <;> (try simp only [b1, b2, b3, b4, reduceCtorEq, b5, b6] at hb) <;> (try omega))|refine zAi (by rfl) ?_ ?_|refine andS ?_|(refine ⟨fun hc => ?_, fun hc => ?_⟩)|(intro hc; try omega))
  | true =>
  by_cases hle : l.length = d.length
  rotate_left
  · have e : errCP l d c (u, v) = 5 := zOP hc ⟨hl, hd⟩ hle
    replace hnl := And.intro hnl (And.intro h1 (And.intro hl (And.intro hw (And.intro hd e))))
    exact auB
  by_cases hp : errPr c (u, v) = 0
  rotate_left
  · have e := zOR hc ⟨hl, hd⟩ hle hp
    replace hnl := And.intro hnl (And.intro h1 (And.intro hl (And.intro hw (And.intro hd e))))
    exact auB
  obtain ⟨_, ha, hh⟩ := zMa hp
  obtain ⟨hul, hua⟩ := ha.row
  obtain ⟨hvl, hva⟩ := ha.col
  dsimp only at hul hua hvl hva
  obtain ⟨⟨g1, g2⟩, g3⟩ := zBp.1 hl
  obtain ⟨⟨g4, g5⟩, g6⟩ := zBp.1 hd
  replace hnl := And.intro hnl (And.intro h1 (And.intro hl (And.intro hw (And.intro hd hp))))
  repeat' (first|(refine goK (by assumption) ?_; iterate 4 (try clear hK K))|(refine zAd fun K hK => ?_)|((first|refine zAb hE rfl ?_|refine zAh ?_|((first|refine zAa hE 1 rfl rfl (by kernel_rfl) ?_|refine zAa hE 2 rfl rfl (by kernel_rfl) ?_|refine zAa hE 3 rfl rfl (by kernel_rfl) ?_|refine zAa hE 4 rfl rfl (by kernel_rfl) ?_); simp only [List.length_cons, List.length_nil, Nat.reduceAdd, Nat.reduceSub, List.take_succ_cons, List.take_zero, List.drop_succ_cons, List.drop_zero])); simp +contextual only [hnl, ↓kN, ↓kP, ↓kG, ↓qN, ↓qP, ↓qG, push_cast, seval, reduceCtorEq, Int.cast_ofNat_Int])|refine zAc ?_|((first|refine zAg ?_|refine zAf ?_); simp only [thenQ, zAk, if_true, if_false, Nat.reduceEqDiff, reduceCtorEq])|(refine zAe (by rfl) (fun hb => ?_) (fun hb => ?_) <;> (try simp only [b1, b2, b3, b4, reduceCtorEq, b5, b6] at hb) <;> (try omega))|refine zAi (by rfl) ?_ ?_|refine andS ?_|(refine ⟨fun hc => ?_, fun hc => ?_⟩)|(intro hc; try omega))
  refine zAl (fun k : Nat => AS.of [(1, .one (.val (.sl .int) d)), (2, .one (.val (.sl (.sl .int)) c)), (7, .one (.box 7)), (44, .one (.val (.sl .int) l)), (45, .I l.length), (46, .I k)] [] [(7, .one (.val (.prod (.sl .int) (.sl .int)) (u, v)))]) (fun k => k ≤ l.length ∧ ∀ i, i < k → u.getD (l.getD i 0).toNat 0 + v.getD (d.getD i 0).toNat 0 = (c.getD (l.getD i 0).toNat []).getD (d.getD i 0).toNat 0) (fun k => l.length - k) 0 ⟨Nat.zero_le _, by omega⟩ ?_ ?_
  · refine zAj ?_ ?_ ?_ <;> simp only [push_cast, seval, reduceCtorEq, Int.cast_ofNat_Int]
  intro k ⟨hk, hall⟩ K' hL
  by_cases hkl : k < l.length
  · have k1 := g3 _ (zAw 0 hkl)
    have k2 := g6 _ (zAw 0 (show k < d.length by omega))
    have k3 : (l.getD k 0).toNat < c.length := by omega
    have k4 : (d.getD k 0).toNat < wid c := by omega
    have k5 := hua (l.getD k 0).toNat (by omega)
    have k6 := hva (d.getD k 0).toNat (by omega)
    have k7 := hc.len k3
    replace hnl := And.intro hnl k7
    repeat' (first|(refine goK (by assumption) ?_; iterate 4 (try clear hK K))|(refine zAd fun K hK => ?_)|((first|refine zAb hE rfl ?_|refine zAh ?_|((first|refine zAa hE 1 rfl rfl (by kernel_rfl) ?_|refine zAa hE 2 rfl rfl (by kernel_rfl) ?_|refine zAa hE 3 rfl rfl (by kernel_rfl) ?_|refine zAa hE 4 rfl rfl (by kernel_rfl) ?_); simp only [List.length_cons, List.length_nil, Nat.reduceAdd, Nat.reduceSub, List.take_succ_cons, List.take_zero, List.drop_succ_cons, List.drop_zero])); simp +contextual only [hnl, ↓kN, ↓kP, ↓kG, ↓qN, ↓qP, ↓qG, push_cast, seval, reduceCtorEq, Int.cast_ofNat_Int])|refine zAc ?_|((first|refine zAg ?_|refine zAf ?_); simp only [thenQ, zAk, if_true, if_false, Nat.reduceEqDiff, reduceCtorEq])|(refine zAe (by rfl) (fun hb => ?_) (fun hb => ?_) <;> (try simp only [b1, b2, b3, b4, reduceCtorEq, b5, b6] at hb) <;> (try omega))|refine zAi (by rfl) ?_ ?_|refine andS ?_|(refine ⟨fun hc => ?_, fun hc => ?_⟩)|(intro hc; try omega))
    · exact (zOQ hc ⟨hl, hd⟩ hle hp fun h => hb (h k hkl)).symm
    · refine hL _ (k + 1) ⟨by omega, fun i hi => ?_⟩ (by omega) ?_
      · rcases Nat.lt_or_ge i k with h3 | h3
        · exact hall i h3
        · obtain rfl : i = k := by omega
          exact hb
      refine zAj ?_ ?_ ?_ <;> simp only [push_cast, seval, reduceCtorEq, Int.cast_ofNat_Int]
  · obtain rfl : k = l.length := by omega
    repeat' (first|(refine goK (by assumption) ?_; iterate 4 (try clear hK K))|(refine zAd fun K hK => ?_)|((first|refine zAb hE rfl ?_|refine zAh ?_|((first|refine zAa hE 1 rfl rfl (by kernel_rfl) ?_|refine zAa hE 2 rfl rfl (by kernel_rfl) ?_|refine zAa hE 3 rfl rfl (by kernel_rfl) ?_|refine zAa hE 4 rfl rfl (by kernel_rfl) ?_); simp only [List.length_cons, List.length_nil, Nat.reduceAdd, Nat.reduceSub, List.take_succ_cons, List.take_zero, List.drop_succ_cons, List.drop_zero])); simp +contextual only [hnl, ↓kN, ↓kP, ↓kG, ↓qN, ↓qP, ↓qG, push_cast, seval, reduceCtorEq, Int.cast_ofNat_Int])|refine zAc ?_|((first|refine zAg ?_|refine zAf ?_); simp only [thenQ, zAk, if_true, if_false, Nat.reduceEqDiff, reduceCtorEq])|(refine zAe (by rfl) (fun hb => ?_) (fun hb => ?_) <;> (try simp only [b1, b2, b3, b4, reduceCtorEq, b5, b6] at hb) <;> (try omega))|refine zAi (by rfl) ?_ ?_|refine andS ?_|(refine ⟨fun hc => ?_, fun hc => ?_⟩)|(intro hc; try omega))
    exact (zON hc ⟨hl, hd⟩ hle hp fun i hi => hall i hi).symm
end Go.Proofs.YtlgkplnifaoeeaaGreatDoor
