import Derived.Test.YtlgkplnifaoeeaaGreatDoorY20
import Derived.Test.YtlgkplnifaoeeaaGreatDoorY11
set_option linter.unusedSimpArgs false
set_option linter.unusedVariables false
namespace Go.Proofs.YtlgkplnifaoeeaaGreatDoor
open Go.RowKit Go.VS
theorem zJJ : ∀ (l : List Int) (k : Nat) (y : Int), k < l.length → lsum (l.set k y) = lsum l - l.getD k 0 + y
  | [], _, _, h => by simp at h
  | x :: l, 0, y, _ => by simp only [List.set_cons_zero, lsum, List.getD_cons_zero]; omega
  | x :: l, k + 1, y, h => by
    have := zJJ l k y (by simpa using h)
    simp only [List.set_cons_succ, lsum, List.getD_cons_succ, this]; omega
theorem zQw {p : List (List Int)} {c : Nat} (hc : c < p.length) (r : List Int) (j : Nat) : colP (p.set c r) j = colP p j - (p.getD c []).getD j 0 + r.getD j 0 := by
  unfold colP
  rw [List.map_set, zJJ _ _ _ (by simpa using hc)]
  congr 2
  simp [List.getD_eq_getElem?_getD, hc]
theorem zOy {p : List (List Int)} {j : Nat} (h : ∀ r ∈ p, r.getD j 0 = 0) : colP p j = 0 := by
  unfold colP
  have : ∀ q : List (List Int), (∀ r ∈ q, r.getD j 0 = 0) → lsum (q.map fun r => r.getD j 0) = 0 := by
    intro q
    induction q with
    | nil => intro _; rfl
    | cons r q ih => intro hq; simp only [List.map_cons, lsum, hq r (by simp), ih fun x hx => hq x (by simp [hx])]; rfl
  exact this p h
section
variable {l : List Int} {p : List (List Int)}
theorem zHP (hin : InPlan p) (hok : okPic l p.length = true) (hr : rowsP p = palV l p.length) {j : Nat} (hj : j < wid p) :
    ∀ k, k ≤ l.length → cntV (j : Int) (tbl k (pixV l p)) + colP (remV l p k) j = colP p j
  | 0, _ => by
    have hnn : ∀ c, c < p.length → ∀ x ∈ p.getD c [], 0 ≤ x := by
      intro c hc x hx
      obtain ⟨i, hi, rfl⟩ := List.getElem_of_mem hx
      have := hin.at hc (show i < wid p by rw [← hin.row hc]; exact hi)
      rw [List.getD_eq_getElem?_getD (l := p.getD c []), List.getElem?_eq_getElem hi] at this
      exact this.1
    rw [zJ1 hnn, zMQ]
    show cntV (j : Int) [] + _ = _
    have : cntV (j : Int) [] = 0 := rfl
    omega
  | k + 1, hk => by
    have ih := zHP hin hok hr hj k (by omega)
    obtain ⟨_, g3⟩ := zBp.1 hok
    have hkl : k < l.length := hk
    have h1 := g3 _ (zAw 0 hkl)
    have h2 : (l.getD k 0).toNat < p.length := by omega
    have h3 := zIR (l := l) (p := p) (k := k) h2
    rw [Int.toNat_of_nonneg h1.1] at h3
    have h6 : ((spr (p.getD (l.getD k 0).toNat [])).length : Int) = lsum (p.getD (l.getD k 0).toNat []) := zG9 hin h2
    have h10 := zCJ (l.getD k 0) (l.take k)
    have h7 : cntV (l.getD k 0) (l.take k) + 1 ≤ lsum (p.getD (l.getD k 0).toNat []) := by
      rw [zFJ hr h2, Int.toNat_of_nonneg h1.1]
      have e1 := zCK (l.getD k 0) hkl
      rw [if_pos rfl] at e1
      have e2 := zCX (l.getD k 0) l (k + 1)
      omega
    have ht : (cntV (l.getD k 0) (l.take k)).toNat < (spr (p.getD (l.getD k 0).toNat [])).length := by omega
    obtain ⟨x, hx1, hx2, hx3⟩ := zLC (zAw 0 ht)
    have hx4 : pixV l p k = (x : Int) := hx2
    have hset := zME hkl h1.1 h2 ht hx4 hx1
    have hl0 : (remV l p k).length = p.length := zIS
    have hrl : ((remV l p k).getD (l.getD k 0).toNat []).length = (p.getD (l.getD k 0).toNat []).length := by rw [h3]; exact zIQ _ _
    rw [← hset, zQw (by omega), zFr, zGE, hx4]
    have e1 : cntV (j : Int) [(x : Int)] = if x = j then 1 else 0 := by
      unfold cntV
      rw [List.count_singleton]
      by_cases h : x = j
      · subst h; simp
      · rw [if_neg h]; simp; omega
    have e2 : (((remV l p k).getD (l.getD k 0).toNat []).set x (((remV l p k).getD (l.getD k 0).toNat []).getD x 0 - 1)).getD j 0 = ((remV l p k).getD (l.getD k 0).toNat []).getD j 0 - if x = j then 1 else 0 := by
      rw [List.getD_eq_getElem?_getD, List.getElem?_set]
      by_cases h : x = j
      · subst h; rw [if_pos rfl, if_pos (by omega), if_pos rfl]; rfl
      · rw [if_neg h, if_neg h, ← List.getD_eq_getElem?_getD]; omega
    rw [e1, e2]
    omega
theorem zPJ (hin : InPlan p) (hok : okPic l p.length = true) (hr : rowsP p = palV l p.length) : palV (zCQ l p) (wid p) = tbl (wid p) fun c => colP (p.take p.length) c := by
  rw [List.take_length]
  refine zAB fun j hj => ?_
  have h := zHP hin hok hr hj l.length (Nat.le_refl _)
  have hz : colP (remV l p l.length) j = 0 := by
    refine zOy fun r hr' => ?_
    obtain ⟨c, hc, rfl⟩ := List.getElem_of_mem hr'
    have hc' : c < p.length := by rw [← zIS (l := l) (p := p) (k := l.length)]; exact hc
    have e : (remV l p l.length)[c] = (remV l p l.length).getD c [] := by rw [List.getD_eq_getElem?_getD, List.getElem?_eq_getElem hc]; rfl
    rw [e, zIR hc', List.take_length]
    by_cases hjl : j < (p.getD c []).length
    · rw [zLt hjl, List.drop_of_length_le]
      · rfl
      · have := zG9 hin hc'
        rw [zFJ hr hc'] at this
        omega
    · rw [List.getD_eq_getElem?_getD, List.getElem?_eq_none (by rw [zIQ]; omega)]; rfl
  show cntV (j : Int) (tbl l.length (pixV l p)) = _
  omega
theorem zRa (hin : InPlan p) (hok : okPic l p.length = true) (hr : rowsP p = palV l p.length) : okPic (zCQ l p) (wid p : Nat) = true := by
  obtain ⟨g1, g3⟩ := zBp.1 hok
  have hc := hin.cols
  refine zBp.2 ⟨by rw [zCQ, zBK]; exact g1, fun c hc' => ?_⟩
  obtain ⟨k, hk, rfl⟩ := List.mem_map.1 hc'
  have hkl : k < l.length := List.mem_range.1 hk
  have h1 := g3 _ (zAw 0 hkl)
  have h2 : (l.getD k 0).toNat < p.length := by omega
  have h6 : ((spr (p.getD (l.getD k 0).toNat [])).length : Int) = lsum (p.getD (l.getD k 0).toNat []) := zG9 hin h2
  have h10 := zCJ (l.getD k 0) (l.take k)
  have h7 : cntV (l.getD k 0) (l.take k) + 1 ≤ lsum (p.getD (l.getD k 0).toNat []) := by
    rw [zFJ hr h2, Int.toNat_of_nonneg h1.1]
    have e1 := zCK (l.getD k 0) hkl
    rw [if_pos rfl] at e1
    have e2 := zCX (l.getD k 0) l (k + 1)
    omega
  have ht : (cntV (l.getD k 0) (l.take k)).toNat < (spr (p.getD (l.getD k 0).toNat [])).length := by omega
  obtain ⟨x, hx1, hx2, hx3⟩ := zLC (zAw 0 ht)
  have hx4 : pixV l p k = (x : Int) := hx2
  have := hin.row h2
  rw [hx4]
  omega
end
@[push_cast] def zNx : Con := ⟨[.dat (.sl .int), .dat (.sl (.sl .int))], fun _ => True, fun _ => { res := [.val .bool true] }⟩
set_option maxHeartbeats 4000000 in
theorem zJQ : FnSpec Tryz.prog 5 zNx := by
  refine FnSpec.of_tri' (E := know [(18, zDU), (24, zLR), (25, zFg), (26, zFg), (23, zIX), (21, zI7)] [] [] []) (zAm (all_cons zDw (all_cons zKy (all_cons zHQ (all_cons zLr (all_cons zFH (all_cons zFT all_nil)))))) all_nil all_nil) Tryz.func5 rfl rfl (by kernel_rfl) ?_
  intro C x hE hnl hfit hpre
  simp only [Tryz.ntmps5, Tryz.results5, maxLen, Nat.reduceSub, Nat.reducePow, Nat.reduceAdd, Int.cast_ofNat_Int, push_cast] at hnl hfit hpre ⊢
  obtain ⟨(l : List Int), (p : List (List Int)), _⟩ := x
  dsimp only at hfit hpre ⊢
  by_cases hz : zBk l p = 0
  rotate_left
  · replace hnl := And.intro hnl (eq_false hz)
    exact auB
  have he : zA5 p = 0 := by
    by_cases he : zA5 p = 0
    · exact he
    · exact absurd hz (by unfold zBk; rw [if_neg he]; omega)
  have hin := zEd he
  have hok : okPic l p.length = true := by
    by_cases hok : okPic l p.length = true
    · exact hok
    · exact absurd hz (by unfold zBk; rw [if_pos he, if_neg hok]; omega)
  have hrw : rowsP p = palV l p.length := by
    by_cases hrw : rowsP p = palV l p.length
    · exact hrw
    · exact absurd hz (by unfold zBk; rw [if_pos he, if_pos hok, if_neg hrw]; omega)
  have hpp := zPJ hin hok hrw
  have hr := hin.rows
  have hc := hin.cols
  have hw : (p.getD 0 []).length = wid p := rfl
  have hnl0 := hnl
  replace hnl := And.intro hnl hz
  repeat' (first | (refine zAK (t := AS.of [(0, .one (.val (.sl .int) l)), (1, .one (.val (.sl (.sl .int)) p)), (5, .one (.val (.sl .int) (zCQ l p))), (6, .one (.val .int 0)), (7, .one (.val (.sl .int) (zCQ l p))), (8, .one (.val .int 0))] [] []) ?_ (Stop.h ?_); · (refine zAj ?_ ?_ ?_ <;> simp only [push_cast, seval, reduceCtorEq, Int.cast_ofNat_Int])) | (first|(refine goK (by assumption) ?_; iterate 4 (try clear hK K))|(refine zAd fun K hK => ?_)|((first|refine zAb hE rfl ?_|refine zAh ?_|((first|refine zAa hE 1 rfl rfl (by kernel_rfl) ?_|refine zAa hE 2 rfl rfl (by kernel_rfl) ?_|refine zAa hE 3 rfl rfl (by kernel_rfl) ?_|refine zAa hE 4 rfl rfl (by kernel_rfl) ?_); simp only [List.length_cons, List.length_nil, Nat.reduceAdd, Nat.reduceSub, List.take_succ_cons, List.take_zero, List.drop_succ_cons, List.drop_zero])); simp +contextual only [hnl, ↓kN, ↓kP, ↓kG, ↓qN, ↓qP, ↓qG, push_cast, seval, reduceCtorEq, Int.cast_ofNat_Int])|refine zAc ?_|((first|refine zAg ?_|refine zAf ?_); simp only [thenQ, zAk, if_true, if_false, Nat.reduceEqDiff, reduceCtorEq])|(refine zAe (by rfl) (fun hb => ?_) (fun hb => ?_) <;> (try simp only [b1, b2, b3, b4, reduceCtorEq, b5, b6] at hb) <;> (try omega))|refine zAi (by rfl) ?_ ?_|refine andS ?_|(refine ⟨fun hc => ?_, fun hc => ?_⟩)|(intro hc; try omega)))
  refine ⟨?_⟩
  by_cases h3 : zED (zCQ l p) ((wid p : Nat) : Int) = 3
  · replace hnl := And.intro hnl0 (And.intro hw h3)
    exact auB
  have h4 : zED (zCQ l p) ((wid p : Nat) : Int) = 0 := by
    unfold zED at h3 ⊢
    rw [if_pos ⟨by omega, by omega, zRa hin hok hrw⟩] at h3 ⊢
    split at h3
    · omega
    · rename_i h; rw [if_neg h]
  replace hnl := And.intro hnl0 (And.intro hw h4)
  repeat' (first|(refine goK (by assumption) ?_; iterate 4 (try clear hK K))|(refine zAd fun K hK => ?_)|((first|refine zAb hE rfl ?_|refine zAh ?_|((first|refine zAa hE 1 rfl rfl (by kernel_rfl) ?_|refine zAa hE 2 rfl rfl (by kernel_rfl) ?_|refine zAa hE 3 rfl rfl (by kernel_rfl) ?_|refine zAa hE 4 rfl rfl (by kernel_rfl) ?_); simp only [List.length_cons, List.length_nil, Nat.reduceAdd, Nat.reduceSub, List.take_succ_cons, List.take_zero, List.drop_succ_cons, List.drop_zero])); simp +contextual only [hnl, ↓kN, ↓kP, ↓kG, ↓qN, ↓qP, ↓qG, push_cast, seval, reduceCtorEq, Int.cast_ofNat_Int])|refine zAc ?_|((first|refine zAg ?_|refine zAf ?_); simp only [thenQ, zAk, if_true, if_false, Nat.reduceEqDiff, reduceCtorEq])|(refine zAe (by rfl) (fun hb => ?_) (fun hb => ?_) <;> (try simp only [b1, b2, b3, b4, reduceCtorEq, b5, b6] at hb) <;> (try omega))|refine zAi (by rfl) ?_ ?_|refine andS ?_|(refine ⟨fun hc => ?_, fun hc => ?_⟩)|(intro hc; try omega))
  refine zAl (fun i : Nat => AS.of [(1, .one (.val (.sl (.sl .int)) p)), (9, .one (.val (.sl .int) (palV (zCQ l p) (wid p)))), (10, .one (.val .int 0)), (11, .one (.ref 62)), (12, .I i)]
    [(62, .flat 3 .int (tbl (wid p) fun c => colP (p.take i) c))] []) (fun i => i ≤ p.length) (fun i => p.length - i) 0 (Nat.zero_le _) ?_ ?_
  · refine zAj ?_ ?_ ?_ <;> simp only [push_cast, seval, reduceCtorEq, Int.cast_ofNat_Int]
    refine .inl (congrArg _ ?_)
    rw [← zDk]
    exact zAB fun c _ => by simp [colP, lsum]
  intro i hi K' hL
  repeat' (first|(refine goK (by assumption) ?_; iterate 4 (try clear hK K))|(refine zAd fun K hK => ?_)|((first|refine zAb hE rfl ?_|refine zAh ?_|((first|refine zAa hE 1 rfl rfl (by kernel_rfl) ?_|refine zAa hE 2 rfl rfl (by kernel_rfl) ?_|refine zAa hE 3 rfl rfl (by kernel_rfl) ?_|refine zAa hE 4 rfl rfl (by kernel_rfl) ?_); simp only [List.length_cons, List.length_nil, Nat.reduceAdd, Nat.reduceSub, List.take_succ_cons, List.take_zero, List.drop_succ_cons, List.drop_zero])); simp +contextual only [hnl, ↓kN, ↓kP, ↓kG, ↓qN, ↓qP, ↓qG, push_cast, seval, reduceCtorEq, Int.cast_ofNat_Int])|refine zAc ?_|((first|refine zAg ?_|refine zAf ?_); simp only [thenQ, zAk, if_true, if_false, Nat.reduceEqDiff, reduceCtorEq])|(refine zAe (by rfl) (fun hb => ?_) (fun hb => ?_) <;> (try simp only [b1, b2, b3, b4, reduceCtorEq, b5, b6] at hb) <;> (try omega))|refine zAi (by rfl) ?_ ?_|refine andS ?_|(refine ⟨fun hc => ?_, fun hc => ?_⟩)|(intro hc; try omega))
  · have hi' : i < p.length := by omega
    have hwi := hin.row hi'
    refine zAl (fun j : Nat => AS.of [(1, .one (.val (.sl (.sl .int)) p)), (9, .one (.val (.sl .int) (palV (zCQ l p) (wid p)))), (10, .one (.val .int 0)), (11, .one (.ref 62)), (12, .I i), (13, .I j)]
      [(62, .flat 3 .int (tbl (wid p) fun c => colP (p.take i) c + if c < j then (p.getD i []).getD c 0 else 0))] [])
      (fun j => j ≤ wid p) (fun j => wid p - j) 0 (Nat.zero_le _) ?_ ?_
    · refine zAj ?_ ?_ ?_ <;> simp only [push_cast, seval, reduceCtorEq, Int.cast_ofNat_Int]
      refine .inl (congrArg _ (zAB fun c _ => ?_))
      rw [if_neg (Nat.not_lt_zero c), Int.add_zero]
    intro j hj K2 hL2
    have e2 : j < wid p → (tbl (wid p) fun c => colP (p.take i) c + if c < j then (p.getD i []).getD c 0 else 0).getD j 0 = colP (p.take i) j := fun hj' => by
      rw [zCa _ _ hj', if_neg (Nat.lt_irrefl _), Int.add_zero]
    have et := zBK (wid p) fun c => colP (p.take i) c + if c < j then (p.getD i []).getD c 0 else 0
    rcases Nat.lt_or_ge j (wid p) with hj' | hj'
    · have s2 := hin.at hi' hj'
      have s3 := hin.sumC hj' i
      have s4 : InR (colP (p.take i) j + (p.getD i []).getD j 0) := by
        unfold InR
        omega
      replace hnl := And.intro hnl (And.intro (e2 hj') (And.intro et (eq_true s4)))
      repeat' (first|(refine goK (by assumption) ?_; iterate 4 (try clear hK K))|(refine zAd fun K hK => ?_)|((first|refine zAb hE rfl ?_|refine zAh ?_|((first|refine zAa hE 1 rfl rfl (by kernel_rfl) ?_|refine zAa hE 2 rfl rfl (by kernel_rfl) ?_|refine zAa hE 3 rfl rfl (by kernel_rfl) ?_|refine zAa hE 4 rfl rfl (by kernel_rfl) ?_); simp only [List.length_cons, List.length_nil, Nat.reduceAdd, Nat.reduceSub, List.take_succ_cons, List.take_zero, List.drop_succ_cons, List.drop_zero])); simp +contextual only [hnl, ↓kN, ↓kP, ↓kG, ↓qN, ↓qP, ↓qG, push_cast, seval, reduceCtorEq, Int.cast_ofNat_Int])|refine zAc ?_|((first|refine zAg ?_|refine zAf ?_); simp only [thenQ, zAk, if_true, if_false, Nat.reduceEqDiff, reduceCtorEq])|(refine zAe (by rfl) (fun hb => ?_) (fun hb => ?_) <;> (try simp only [b1, b2, b3, b4, reduceCtorEq, b5, b6] at hb) <;> (try omega))|refine zAi (by rfl) ?_ ?_|refine andS ?_|(refine ⟨fun hc => ?_, fun hc => ?_⟩)|(intro hc; try omega))
      refine hL2 _ (j + 1) (by omega) (by omega) ?_
      refine zAj ?_ ?_ ?_ <;> simp only [push_cast, seval, reduceCtorEq, Int.cast_ofNat_Int]
      rw [zD7]
      refine .inl (congrArg _ (zAB fun c _ => ?_))
      by_cases h : c = j
      · subst h
        rw [if_pos rfl, if_pos (Nat.lt_succ_self _)]
      · rw [if_neg h]
        by_cases h2 : c < j
        · rw [if_pos h2, if_pos (by omega)]
        · rw [if_neg h2, if_neg (by omega)]
    · have hjw : j = wid p := by omega
      replace hnl := And.intro hnl et
      repeat' (first|(refine goK (by assumption) ?_; iterate 4 (try clear hK K))|(refine zAd fun K hK => ?_)|((first|refine zAb hE rfl ?_|refine zAh ?_|((first|refine zAa hE 1 rfl rfl (by kernel_rfl) ?_|refine zAa hE 2 rfl rfl (by kernel_rfl) ?_|refine zAa hE 3 rfl rfl (by kernel_rfl) ?_|refine zAa hE 4 rfl rfl (by kernel_rfl) ?_); simp only [List.length_cons, List.length_nil, Nat.reduceAdd, Nat.reduceSub, List.take_succ_cons, List.take_zero, List.drop_succ_cons, List.drop_zero])); simp +contextual only [hnl, ↓kN, ↓kP, ↓kG, ↓qN, ↓qP, ↓qG, push_cast, seval, reduceCtorEq, Int.cast_ofNat_Int])|refine zAc ?_|((first|refine zAg ?_|refine zAf ?_); simp only [thenQ, zAk, if_true, if_false, Nat.reduceEqDiff, reduceCtorEq])|(refine zAe (by rfl) (fun hb => ?_) (fun hb => ?_) <;> (try simp only [b1, b2, b3, b4, reduceCtorEq, b5, b6] at hb) <;> (try omega))|refine zAi (by rfl) ?_ ?_|refine andS ?_|(refine ⟨fun hc => ?_, fun hc => ?_⟩)|(intro hc; try omega))
      refine hL _ (i + 1) (by omega) (by omega) ?_
      refine zAj ?_ ?_ ?_ <;> simp only [push_cast, seval, reduceCtorEq, Int.cast_ofNat_Int]
      refine .inl (congrArg _ (zAB fun c hc => ?_))
      rw [zJi hi', if_pos (by omega)]
  · obtain rfl : i = p.length := by omega
    replace hnl := And.intro hnl hpp
    repeat' (first|(refine goK (by assumption) ?_; iterate 4 (try clear hK K))|(refine zAd fun K hK => ?_)|((first|refine zAb hE rfl ?_|refine zAh ?_|((first|refine zAa hE 1 rfl rfl (by kernel_rfl) ?_|refine zAa hE 2 rfl rfl (by kernel_rfl) ?_|refine zAa hE 3 rfl rfl (by kernel_rfl) ?_|refine zAa hE 4 rfl rfl (by kernel_rfl) ?_); simp only [List.length_cons, List.length_nil, Nat.reduceAdd, Nat.reduceSub, List.take_succ_cons, List.take_zero, List.drop_succ_cons, List.drop_zero])); simp +contextual only [hnl, ↓kN, ↓kP, ↓kG, ↓qN, ↓qP, ↓qG, push_cast, seval, reduceCtorEq, Int.cast_ofNat_Int])|refine zAc ?_|((first|refine zAg ?_|refine zAf ?_); simp only [thenQ, zAk, if_true, if_false, Nat.reduceEqDiff, reduceCtorEq])|(refine zAe (by rfl) (fun hb => ?_) (fun hb => ?_) <;> (try simp only [b1, b2, b3, b4, reduceCtorEq, b5, b6] at hb) <;> (try omega))|refine zAi (by rfl) ?_ ?_|refine andS ?_|(refine ⟨fun hc => ?_, fun hc => ?_⟩)|(intro hc; try omega))
    exact hc hpp
end Go.Proofs.YtlgkplnifaoeeaaGreatDoor
