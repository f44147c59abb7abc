import Derived.Test.YtlgkplnifaoeeaaGreatDoorJ4
import Derived.Test.YtlgkplnifaoeeaaGreatDoorJ3
set_option linter.unusedSimpArgs false
set_option linter.unusedVariables false
namespace Go.Proofs.YtlgkplnifaoeeaaGreatDoor
open Go.RowKit Go.VS
def tbl {α : Type} (n : Nat) (f : Nat → α) : List α := (List.range n).map f
theorem zD9 {α : Type} (n : Nat) (f : Nat → α) : (tbl n f).length = n := by simp [tbl]
theorem zD8 {α : Type} {n i : Nat} (f : Nat → α) (d : α) (h : i < n) : (tbl n f).getD i d = f i := by simp [tbl, List.getD_eq_getElem?_getD, h]
theorem zA5 {α : Type} {n : Nat} {f g : Nat → α} (h : ∀ i, i < n → f i = g i) : tbl n f = tbl n g := List.map_congr_left fun i hi => h i (List.mem_range.1 hi)
theorem zMr {α : Type} (n : Nat) (f : Nat → α) : tbl (n + 1) f = tbl n f ++ [f n] := by simp [tbl, List.range_succ]
theorem zG7 {α : Type} {n i : Nat} (f : Nat → α) (v : α) : (tbl n f).set i v = tbl n (fun j => if j = i then v else f j) := by
  apply List.ext_getElem?
  intro j
  rw [List.getElem?_set]
  simp only [tbl, List.length_map, List.length_range, List.getElem?_map]
  by_cases hj : j < n
  · by_cases h : i = j
    · subst h; simp [hj]
    · have h' : ¬ j = i := fun e => h e.symm
      simp [h, h', hj]
  · have : (List.range n)[j]? = none := by simp; omega
    by_cases h : i = j
    · subst h; simp [hj]
    · simp [h, hj]
theorem zFo {α : Type} (n : Nat) (v : α) : tbl n (fun _ => v) = List.replicate n v := by simp [tbl, List.map_const']
theorem zQI {α : Type} (l : List α) (d : α) : l = tbl l.length (fun i => l.getD i d) := by
  apply List.ext_getElem (by simp [tbl])
  intro i h1 h2
  simp [tbl, List.getD_eq_getElem?_getD, h1]
theorem zSe {α β : Type} (l : List α) (d : α) (g : α → β) : l.map g = tbl l.length (fun i => g (l.getD i d)) := by
  conv => lhs; rw [zQI l d]
  simp [tbl]
def rowsP (p : List (List Int)) : List Int := p.map lsum
def colP (p : List (List Int)) (c : Nat) : Int := lsum (p.map fun r => r.getD c 0)
def colsP (p : List (List Int)) : List Int := tbl (wid p) (colP p)
theorem zOe {p : List (List Int)} {i : Nat} (h : i < p.length) (c : Nat) : colP (p.take (i + 1)) c = colP (p.take i) c + (p.getD i []).getD c 0 := by
  unfold colP
  rw [List.map_take, List.map_take, zCS _ _ (by simpa using h)]
  congr 1
  simp [List.getD_eq_getElem?_getD, h]
theorem InPlan.sumR {p : List (List Int)} (h : InPlan p) {i : Nat} (hi : i < p.length) (j : Nat) : 0 ≤ lsum ((p.getD i []).take j) ∧ lsum ((p.getD i []).take j) ≤ 750 := by
  have h1 := zEi 150 (by omega) ((p.getD i []).take j) (fun x hx => h.mem _ (zBd [] hi) x (List.mem_of_mem_take hx))
  have h2 := h.row hi
  have h3 := h.cols
  have h4 : ((p.getD i []).take j).length ≤ 5 := by rw [List.length_take]; omega
  omega
theorem InPlan.sumC {p : List (List Int)} (h : InPlan p) {c : Nat} (hc : c < wid p) (i : Nat) : 0 ≤ colP (p.take i) c ∧ colP (p.take i) c ≤ 750 := by
  unfold colP
  have h1 := zEi 150 (by omega) ((p.take i).map fun r => r.getD c 0) (fun x hx => by
    obtain ⟨r, hr, rfl⟩ := List.mem_map.1 hx
    have hr' := List.mem_of_mem_take hr
    exact h.mem r hr' _ (zBd 0 (by rw [h.len r hr']; exact hc)))
  have h3 := h.rows
  have h4 : ((p.take i).map fun r => r.getD c 0).length ≤ 5 := by rw [List.length_map, List.length_take]; omega
  omega
@[push_cast] def zOt : Con := ⟨[.dat (.sl (.sl .int))], fun (x : List (List Int) × Unit) => InPlan x.1, fun (x : List (List Int) × Unit) => { res := [.own (.flat 3 .int (rowsP x.1)), .own (.flat 3 .int (colsP x.1))] }⟩
theorem zOu : FnSpec Tryz.prog 113 zOt := by
  refine FnSpec.of_tri' (E := know [] [] [] [12, 17]) (zAn all_nil all_nil all_nil) Tryz.func113 rfl rfl (by kernel_rfl) ?_
  intro C x hE hnl hfit hpre
  simp only [Tryz.ntmps113, Tryz.results113, maxLen, Nat.reduceSub, Nat.reducePow, Nat.reduceAdd, Int.cast_ofNat_Int, push_cast] at hnl hfit hpre ⊢
  obtain ⟨(p : List (List Int)), _⟩ := x
  dsimp only at hfit hpre ⊢
  have hr := hpre.rows
  have hc := hpre.cols
  have hw : (p.getD 0 []).length = wid p := rfl
  repeat' (first|(refine goK (by assumption) ?_; iterate 4 (try clear hK K))|(refine zAd fun K hK => ?_)|((first|refine zAb hE rfl ?_|refine zAh ?_|((first|refine zAa hE 1 rfl rfl (by kernel_rfl) ?_|refine zAa hE 2 rfl rfl (by kernel_rfl) ?_|refine zAa hE 3 rfl rfl (by kernel_rfl) ?_|refine zAa hE 4 rfl rfl (by kernel_rfl) ?_); simp only [List.length_cons, List.length_nil, Nat.reduceAdd, Nat.reduceSub, List.take_succ_cons, List.take_zero, List.drop_succ_cons, List.drop_zero])); simp +contextual only [hnl, ↓kN, ↓kP, ↓kG, ↓qN, ↓qP, ↓qG, push_cast, seval, reduceCtorEq, Int.cast_ofNat_Int])|refine zAc ?_|((first|refine zAg ?_|refine zAf ?_); simp only [thenQ, zAk, if_true, if_false, Nat.reduceEqDiff, reduceCtorEq])|(refine zAe (by rfl) (fun hb => ?_) (fun hb => ?_) <;> (try simp only [b1, b2, b3, b4, reduceCtorEq, b5, b6] at hb) <;> (try omega))|refine zAi (by rfl) ?_ ?_|refine andS ?_|(refine ⟨fun hc => ?_, fun hc => ?_⟩)|(intro hc; try omega))
  refine zEx 4 12 12 (by simp only [push_cast, seval, reduceCtorEq, Int.cast_ofNat_Int]; rfl) (by omega) ?_
  refine zEx 5 17 17 (by simp only [push_cast, seval, reduceCtorEq, Int.cast_ofNat_Int]; rfl) (by omega) ?_
  refine zAp (fun i : Nat => AS.of [(4, .one (.ref 12)), (5, .one (.ref 17)), (18, .one (.val (.sl (.sl .int)) p)), (19, .I p.length), (20, .I i)]
    [(12, .flat 3 .int (tbl p.length fun r => if r < i then lsum (p.getD r []) else 0)), (17, .flat 3 .int (tbl (wid p) fun c => colP (p.take i) c))] []) (fun i => i ≤ p.length) (fun i => p.length - i) 0 (Nat.zero_le _) ?_ ?_
  · refine zAj ?_ ?_ ?_ <;> simp only [push_cast, seval, reduceCtorEq, Int.cast_ofNat_Int]
    refine ⟨.inl (congrArg _ ?_), .inl (congrArg _ ?_)⟩
    · rw [← zFo]
      exact zA5 fun r _ => by rw [if_neg (Nat.not_lt_zero r)]
    · rw [← zFo]
      exact zA5 fun c _ => by simp [colP, lsum]
  intro i hi K' hL
  repeat' (first|(refine goK (by assumption) ?_; iterate 4 (try clear hK K))|(refine zAd fun K hK => ?_)|((first|refine zAb hE rfl ?_|refine zAh ?_|((first|refine zAa hE 1 rfl rfl (by kernel_rfl) ?_|refine zAa hE 2 rfl rfl (by kernel_rfl) ?_|refine zAa hE 3 rfl rfl (by kernel_rfl) ?_|refine zAa hE 4 rfl rfl (by kernel_rfl) ?_); simp only [List.length_cons, List.length_nil, Nat.reduceAdd, Nat.reduceSub, List.take_succ_cons, List.take_zero, List.drop_succ_cons, List.drop_zero])); simp +contextual only [hnl, ↓kN, ↓kP, ↓kG, ↓qN, ↓qP, ↓qG, push_cast, seval, reduceCtorEq, Int.cast_ofNat_Int])|refine zAc ?_|((first|refine zAg ?_|refine zAf ?_); simp only [thenQ, zAk, if_true, if_false, Nat.reduceEqDiff, reduceCtorEq])|(refine zAe (by rfl) (fun hb => ?_) (fun hb => ?_) <;> (try simp only [b1, b2, b3, b4, reduceCtorEq, b5, b6] at hb) <;> (try omega))|refine zAi (by rfl) ?_ ?_|refine andS ?_|(refine ⟨fun hc => ?_, fun hc => ?_⟩)|(intro hc; try omega))
  · have hi' : i < p.length := by omega
    have hwi := hpre.row hi'
    refine zAp (fun j : Nat => AS.of [(4, .one (.ref 12)), (5, .one (.ref 17)), (6, .I i), (18, .one (.val (.sl (.sl .int)) p)), (19, .I p.length), (20, .I i), (25, .one (.val (.sl .int) (p.getD i []))), (26, .I (p.getD i []).length), (27, .I j)]
      [(12, .flat 3 .int (tbl p.length fun r => if r < i then lsum (p.getD r []) else if r = i then lsum ((p.getD i []).take j) else 0)), (17, .flat 3 .int (tbl (wid p) fun c => colP (p.take i) c + if c < j then (p.getD i []).getD c 0 else 0))] [])
      (fun j => j ≤ wid p) (fun j => wid p - j) 0 (Nat.zero_le _) ?_ ?_
    · refine zAj ?_ ?_ ?_ <;> simp only [push_cast, seval, reduceCtorEq, Int.cast_ofNat_Int]
      refine ⟨.inl (congrArg _ (zA5 fun r _ => ?_)), .inl (congrArg _ (zA5 fun c _ => ?_))⟩
      · simp only [lsum, ite_self]
      · rw [if_neg (Nat.not_lt_zero c), Int.add_zero]
    intro j hj K2 hL2
    have e1 : (tbl p.length fun r => if r < i then lsum (p.getD r []) else if r = i then lsum ((p.getD i []).take j) else 0).getD i 0 = lsum ((p.getD i []).take j) := by
      rw [zD8 _ _ hi', if_neg (Nat.lt_irrefl _), if_pos rfl]
    have e2 : j < wid p → (tbl (wid p) fun c => colP (p.take i) c + if c < j then (p.getD i []).getD c 0 else 0).getD j 0 = colP (p.take i) j := fun hj' => by
      rw [zD8 _ _ hj', if_neg (Nat.lt_irrefl _), Int.add_zero]
    have s1 := hpre.sumR hi' j
    replace hnl := And.intro hnl (And.intro e1 (And.intro (zD9 p.length fun r => if r < i then lsum (p.getD r []) else if r = i then lsum ((p.getD i []).take j) else 0) (zD9 (wid p) fun c => colP (p.take i) c + if c < j then (p.getD i []).getD c 0 else 0)))
    repeat' (first|(refine goK (by assumption) ?_; iterate 4 (try clear hK K))|(refine zAd fun K hK => ?_)|((first|refine zAb hE rfl ?_|refine zAh ?_|((first|refine zAa hE 1 rfl rfl (by kernel_rfl) ?_|refine zAa hE 2 rfl rfl (by kernel_rfl) ?_|refine zAa hE 3 rfl rfl (by kernel_rfl) ?_|refine zAa hE 4 rfl rfl (by kernel_rfl) ?_); simp only [List.length_cons, List.length_nil, Nat.reduceAdd, Nat.reduceSub, List.take_succ_cons, List.take_zero, List.drop_succ_cons, List.drop_zero])); simp +contextual only [hnl, ↓kN, ↓kP, ↓kG, ↓qN, ↓qP, ↓qG, push_cast, seval, reduceCtorEq, Int.cast_ofNat_Int])|refine zAc ?_|((first|refine zAg ?_|refine zAf ?_); simp only [thenQ, zAk, if_true, if_false, Nat.reduceEqDiff, reduceCtorEq])|(refine zAe (by rfl) (fun hb => ?_) (fun hb => ?_) <;> (try simp only [b1, b2, b3, b4, reduceCtorEq, b5, b6] at hb) <;> (try omega))|refine zAi (by rfl) ?_ ?_|refine andS ?_|(refine ⟨fun hc => ?_, fun hc => ?_⟩)|(intro hc; try omega))
    · have hj' : j < wid p := by omega
      have s2 := hpre.at hi' hj'
      have s3 := hpre.sumC hj' i
      have s4 : InR ((tbl (wid p) fun c => colP (p.take i) c + if c < j then (p.getD i []).getD c 0 else 0).getD j 0 + (p.getD i []).getD j 0) := by
        rw [e2 hj']
        unfold InR
        omega
      refine ⟨by unfold InR; omega, ?_⟩
      repeat' (first|(refine goK (by assumption) ?_; iterate 4 (try clear hK K))|(refine zAd fun K hK => ?_)|((first|refine zAb hE rfl ?_|refine zAh ?_|((first|refine zAa hE 1 rfl rfl (by kernel_rfl) ?_|refine zAa hE 2 rfl rfl (by kernel_rfl) ?_|refine zAa hE 3 rfl rfl (by kernel_rfl) ?_|refine zAa hE 4 rfl rfl (by kernel_rfl) ?_); simp only [List.length_cons, List.length_nil, Nat.reduceAdd, Nat.reduceSub, List.take_succ_cons, List.take_zero, List.drop_succ_cons, List.drop_zero])); simp +contextual only [hnl, ↓kN, ↓kP, ↓kG, ↓qN, ↓qP, ↓qG, push_cast, seval, reduceCtorEq, Int.cast_ofNat_Int])|refine zAc ?_|((first|refine zAg ?_|refine zAf ?_); simp only [thenQ, zAk, if_true, if_false, Nat.reduceEqDiff, reduceCtorEq])|(refine zAe (by rfl) (fun hb => ?_) (fun hb => ?_) <;> (try simp only [b1, b2, b3, b4, reduceCtorEq, b5, b6] at hb) <;> (try omega))|refine zAi (by rfl) ?_ ?_|refine andS ?_|(refine ⟨fun hc => ?_, fun hc => ?_⟩)|(intro hc; try omega))
      refine hL2 _ (j + 1) (by omega) (by omega) ?_
      refine zAj ?_ ?_ ?_ <;> simp only [push_cast, seval, reduceCtorEq, Int.cast_ofNat_Int]
      rw [e2 hj', zG7, zG7]
      refine ⟨.inl (congrArg _ (zA5 fun r _ => ?_)), .inl (congrArg _ (zA5 fun c _ => ?_))⟩
      · by_cases h : r = i
        · subst h
          rw [if_pos rfl, if_neg (Nat.lt_irrefl _), if_pos rfl, zCS _ _ (by omega)]
        · rw [if_neg h, if_neg h, if_neg h]
      · by_cases h : c = j
        · subst h
          rw [if_pos rfl, if_pos (Nat.lt_succ_self _)]
        · rw [if_neg h]
          by_cases h2 : c < j
          · rw [if_pos h2, if_pos (by omega)]
          · rw [if_neg h2, if_neg (by omega)]
    · have hjw : j = wid p := by omega
      refine hL _ (i + 1) (by omega) (by omega) ?_
      refine zAj ?_ ?_ ?_ <;> simp only [push_cast, seval, reduceCtorEq, Int.cast_ofNat_Int]
      refine ⟨.inl (congrArg _ (zA5 fun r _ => ?_)), .inl (congrArg _ (zA5 fun c hc => ?_))⟩
      · by_cases h : r = i
        · subst h
          rw [if_neg (Nat.lt_irrefl _), if_pos rfl, if_pos (Nat.lt_succ_self _), List.take_of_length_le (by omega)]
        · rw [if_neg h]
          by_cases h2 : r < i
          · rw [if_pos h2, if_pos (by omega)]
          · rw [if_neg h2, if_neg (by omega)]
      · rw [if_pos (by omega), zOe hi']
  · obtain rfl : i = p.length := by omega
    refine ⟨congrArg _ ?_, congrArg _ ?_⟩
    · rw [rowsP, zSe p []]
      exact zA5 fun r hr => if_pos hr
    · rw [List.take_of_length_le (Nat.le_refl _)]
      rfl
@[push_cast] def zLP : Con := ⟨[.dat (.sl .int), .dat (.sl .int)], fun _ => True, fun (x : List Int × List Int × Unit) => { res := [.val .bool (decide (x.1 = x.2.1))] }⟩
theorem zML : FnSpec Tryz.prog 67 zLP := by
  refine FnSpec.of_tri' (E := know [] [] [] []) (zAn all_nil all_nil all_nil) Tryz.func67 rfl rfl (by kernel_rfl) ?_
  intro C x hE hnl hfit hpre
  simp only [Tryz.ntmps67, Tryz.results67, maxLen, Nat.reduceSub, Nat.reducePow, Nat.reduceAdd, Int.cast_ofNat_Int, push_cast] at hnl hfit hpre ⊢
  obtain ⟨(a : List Int), (b : List Int), _⟩ := x
  dsimp only at hfit hpre ⊢
  repeat' (first|(refine goK (by assumption) ?_; iterate 4 (try clear hK K))|(refine zAd fun K hK => ?_)|((first|refine zAb hE rfl ?_|refine zAh ?_|((first|refine zAa hE 1 rfl rfl (by kernel_rfl) ?_|refine zAa hE 2 rfl rfl (by kernel_rfl) ?_|refine zAa hE 3 rfl rfl (by kernel_rfl) ?_|refine zAa hE 4 rfl rfl (by kernel_rfl) ?_); simp only [List.length_cons, List.length_nil, Nat.reduceAdd, Nat.reduceSub, List.take_succ_cons, List.take_zero, List.drop_succ_cons, List.drop_zero])); simp +contextual only [hnl, ↓kN, ↓kP, ↓kG, ↓qN, ↓qP, ↓qG, push_cast, seval, reduceCtorEq, Int.cast_ofNat_Int])|refine zAc ?_|((first|refine zAg ?_|refine zAf ?_); simp only [thenQ, zAk, if_true, if_false, Nat.reduceEqDiff, reduceCtorEq])|(refine zAe (by rfl) (fun hb => ?_) (fun hb => ?_) <;> (try simp only [b1, b2, b3, b4, reduceCtorEq, b5, b6] at hb) <;> (try omega))|refine zAi (by rfl) ?_ ?_|refine andS ?_|(refine ⟨fun hc => ?_, fun hc => ?_⟩)|(intro hc; try omega))
  · exact (decide_eq_false fun e => hb (by rw [e])).symm
  have hlen := hb; clear hb
  refine zAp (fun k : Nat => AS.of [(0, .one (.val (.sl .int) a)), (1, .one (.val (.sl .int) b)), (12, .I a.length), (13, .I k)] [] []) (fun k => k ≤ a.length ∧ ∀ j, j < k → a.getD j 0 = b.getD j 0) (fun k => a.length - k) 0 ⟨Nat.zero_le _, by omega⟩ ?_ ?_
  · refine zAj ?_ ?_ ?_ <;> simp only [push_cast, seval, reduceCtorEq, Int.cast_ofNat_Int]
  intro k ⟨hk, hj⟩ K' hL
  repeat' (first|(refine goK (by assumption) ?_; iterate 4 (try clear hK K))|(refine zAd fun K hK => ?_)|((first|refine zAb hE rfl ?_|refine zAh ?_|((first|refine zAa hE 1 rfl rfl (by kernel_rfl) ?_|refine zAa hE 2 rfl rfl (by kernel_rfl) ?_|refine zAa hE 3 rfl rfl (by kernel_rfl) ?_|refine zAa hE 4 rfl rfl (by kernel_rfl) ?_); simp only [List.length_cons, List.length_nil, Nat.reduceAdd, Nat.reduceSub, List.take_succ_cons, List.take_zero, List.drop_succ_cons, List.drop_zero])); simp +contextual only [hnl, ↓kN, ↓kP, ↓kG, ↓qN, ↓qP, ↓qG, push_cast, seval, reduceCtorEq, Int.cast_ofNat_Int])|refine zAc ?_|((first|refine zAg ?_|refine zAf ?_); simp only [thenQ, zAk, if_true, if_false, Nat.reduceEqDiff, reduceCtorEq])|(refine zAe (by rfl) (fun hb => ?_) (fun hb => ?_) <;> (try simp only [b1, b2, b3, b4, reduceCtorEq, b5, b6] at hb) <;> (try omega))|refine zAi (by rfl) ?_ ?_|refine andS ?_|(refine ⟨fun hc => ?_, fun hc => ?_⟩)|(intro hc; try omega))
  · exact (decide_eq_false (zFD 0 hb)).symm
  · refine hL _ (k + 1) ⟨by omega, fun j hj' => ?_⟩ (by omega) ?_
    · rcases Nat.lt_or_ge j k with h3 | h3
      · exact hj j h3
      · have : j = k := by omega
        subst this
        exact hb
    refine zAj ?_ ?_ ?_ <;> simp only [push_cast, seval, reduceCtorEq, Int.cast_ofNat_Int]
  · exact (decide_eq_true (zFv 0 (by omega) fun j hj' => hj j (by omega))).symm
end Go.Proofs.YtlgkplnifaoeeaaGreatDoor
namespace Go.Proofs.YtlgkplnifaoeeaaGreatDoor
open Go.RowKit Go.VS
theorem zRA {n lo hi : Int} {l : List Int} (h : InL n lo hi l) : ∀ j, j < l.length → lo ≤ l.getD j 0 ∧ l.getD j 0 ≤ hi := fun j hj => h.2 _ (zBd 0 hj)
section
variable {c : List (List Int)} {ps : List Int}
end
end Go.Proofs.YtlgkplnifaoeeaaGreatDoor
namespace Go.Proofs.YtlgkplnifaoeeaaGreatDoor
open Go.RowKit Go.VS
end Go.Proofs.YtlgkplnifaoeeaaGreatDoor
namespace Go.Proofs.YtlgkplnifaoeeaaGreatDoor
open Go.RowKit Go.VS
abbrev Pr := Int × Int
def toP (l : List Pr) (i : Nat) : Pr := l.getD i (0, 0)
end Go.Proofs.YtlgkplnifaoeeaaGreatDoor
namespace Go.Proofs.YtlgkplnifaoeeaaGreatDoor
open Go.RowKit Go.VS
def cAt (c : List (List Int)) (i j : Int) : Int := (c.getD i.toNat []).getD j.toNat 0
structure InT (c : List (List Int)) (x : Pr) : Prop where
  r0 : 0 ≤ x.1
  r1 : x.1 < c.length
  c0 : 0 ≤ x.2
  c1 : x.2 < wid c
theorem inT_iff {c : List (List Int)} {x : Pr} : InT c x ↔ (0 ≤ x.1 ∧ x.1 < c.length ∧ 0 ≤ x.2 ∧ x.2 < wid c) := ⟨fun ⟨a, b, c, d⟩ => ⟨a, b, c, d⟩, fun ⟨a, b, c, d⟩ => ⟨a, b, c, d⟩⟩
instance (c : List (List Int)) (x : Pr) : Decidable (InT c x) := decidable_of_iff _ inT_iff.symm
def lexLt (x y : Pr) : Prop := x.1 < y.1 ∨ x.1 = y.1 ∧ x.2 < y.2
instance (x y : Pr) : Decidable (lexLt x y) := by unfold lexLt; infer_instance
structure Lnk (c : List (List Int)) (l : List Pr) : Prop where
  at' : ∀ i, i < l.length → InT c (toP l i)
  inc : ∀ i, i + 1 < l.length → lexLt (toP l i) (toP l (i + 1))
theorem lnk_iff {c : List (List Int)} {l : List Pr} : Lnk c l ↔ ((∀ i, i < l.length → InT c (toP l i)) ∧ ∀ i, i < l.length - 1 → lexLt (toP l i) (toP l (i + 1))) :=
  ⟨fun ⟨a, b⟩ => ⟨a, fun i hi => b i (by omega)⟩, fun ⟨a, b⟩ => ⟨a, fun i hi => b i (by omega)⟩⟩
instance (c : List (List Int)) (l : List Pr) : Decidable (Lnk c l) := decidable_of_iff _ lnk_iff.symm
structure LnkK (c : List (List Int)) (l : List Pr) (k : Nat) : Prop where
  at' : ∀ i, i < k → InT c (toP l i)
  inc : ∀ i, i + 1 < k → lexLt (toP l i) (toP l (i + 1))
theorem LnkK.all {c : List (List Int)} {l : List Pr} (h : LnkK c l l.length) : Lnk c l := ⟨h.at', h.inc⟩
theorem LnkK.step {c : List (List Int)} {l : List Pr} {k : Nat} (h : LnkK c l k) (h1 : InT c (toP l k)) (h2 : 0 < k → lexLt (toP l (k - 1)) (toP l k)) : LnkK c l (k + 1) := by
  refine ⟨fun i hi => ?_, fun i hi => ?_⟩
  · rcases Nat.lt_or_ge i k with h3 | h3
    · exact h.at' i h3
    · obtain rfl : i = k := by omega
      exact h1
  · rcases Nat.lt_or_ge (i + 1) k with h3 | h3
    · exact h.inc i h3
    · obtain rfl : k = i + 1 := by omega
      exact h2 (by omega)
end Go.Proofs.YtlgkplnifaoeeaaGreatDoor
namespace Go.Proofs.YtlgkplnifaoeeaaGreatDoor
open Go.RowKit Go.VS
def lossV (c : List (List Int)) (r : List Pr) (i j : Nat) : Int := cAt c (toP r i).1 (toP r j).2 - cAt c (toP r i).1 (toP r i).2
def gainK (c : List (List Int)) (r : List Pr) : Nat → Int
  | 0 => 0
  | k + 1 => gainK c r k - lossV c r k ((k + 1) % r.length)
theorem InTab.cAt {c : List (List Int)} (h : InTab 0 99 c) {x y : Pr} (hx : InT c x) (hy : InT c y) : 0 ≤ Go.Proofs.YtlgkplnifaoeeaaGreatDoor.cAt c x.1 y.2 ∧ Go.Proofs.YtlgkplnifaoeeaaGreatDoor.cAt c x.1 y.2 ≤ 99 :=
  h.at (by have := hx.r0; have := hx.r1; omega) (by have := hy.c0; have := hy.c1; omega)
theorem InTab.loss {c : List (List Int)} (h : InTab 0 99 c) {r : List Pr} (hr : ∀ k, k < r.length → InT c (toP r k)) {i j : Nat} (hi : i < r.length) (hj : j < r.length) : -99 ≤ lossV c r i j ∧ lossV c r i j ≤ 99 := by
  have h1 := h.cAt (hr i hi) (hr i hi)
  have h2 := h.cAt (hr i hi) (hr j hj)
  unfold lossV
  omega
theorem InTab.gain {c : List (List Int)} (h : InTab 0 99 c) {r : List Pr} (hr : ∀ k, k < r.length → InT c (toP r k)) : ∀ k, k ≤ r.length → -99 * (k : Int) ≤ gainK c r k ∧ gainK c r k ≤ 99 * k
  | 0, _ => by simp [gainK]
  | k + 1, hk => by
    have h1 := InTab.gain h hr k (by omega)
    have h2 := h.loss hr (i := k) (j := (k + 1) % r.length) (by omega) (Nat.mod_lt _ (by omega))
    simp only [gainK]
    omega
end Go.Proofs.YtlgkplnifaoeeaaGreatDoor
namespace Go.Proofs.YtlgkplnifaoeeaaGreatDoor
open Go.RowKit Go.VS
section
variable {c : List (List Int)} {l r : List Pr}
end
end Go.Proofs.YtlgkplnifaoeeaaGreatDoor
namespace Go.Proofs.YtlgkplnifaoeeaaGreatDoor
open Go.RowKit Go.VS
theorem zHJ {a : List Int} (h : zCa a = true) : (1 ≤ a.length ∧ a.length ≤ 6) ∧ Go.OT.Bnd 0 200 a :=
  ⟨by have := zHK h; omega, fun x hx => by have := zFE h x hx; omega⟩
theorem ForOK.mc {a b : List Int} {c : List (List Int)} (h : ForOK a b c) : Go.OT.MC a b c := by
  have h1 := zHJ h.ha
  have h2 := zHJ h.hb
  have h3 := h.hc.tb (lo' := 0) (hi' := 99) (by omega) (by omega)
  rw [h.rows, h.cols] at h3
  exact ⟨h1.1, h2.1, h1.2, h2.2, h3⟩
end Go.Proofs.YtlgkplnifaoeeaaGreatDoor
namespace Go.Proofs.YtlgkplnifaoeeaaGreatDoor
open Go.RowKit Go.VS
def ArePr (c : List (List Int)) (p : zNS) : Prop := InL c.length (-1000) 1000 p.1 ∧ InL (wid c) (-1000) 1000 p.2
instance (c : List (List Int)) (p : zNS) : Decidable (ArePr c p) := by unfold ArePr; infer_instance
section
variable {c : List (List Int)} {p : zNS}
theorem ArePr.row (h : ArePr c p) : p.1.length = c.length ∧ ∀ i, i < p.1.length → -1000 ≤ p.1.getD i 0 ∧ p.1.getD i 0 ≤ 1000 := ⟨by have := h.1.1; omega, zRA h.1⟩
theorem ArePr.col (h : ArePr c p) : p.2.length = wid c ∧ ∀ i, i < p.2.length → -1000 ≤ p.2.getD i 0 ∧ p.2.getD i 0 ≤ 1000 := ⟨by have := h.2.1; omega, zRA h.2⟩
end
end Go.Proofs.YtlgkplnifaoeeaaGreatDoor
namespace Go.Proofs.YtlgkplnifaoeeaaGreatDoor
open Go.RowKit Go.VS
@[push_cast] def zRt : Con := ⟨[.dat (.sl (.sl .int))], fun _ => True, fun (x : List (List Int) × Unit) =>
  { res := [.own (.flat 3 .int (if zBo x.1 = 0 then rowsP x.1 else [])), .own (.flat 3 .int (if zBo x.1 = 0 then colsP x.1 else [])), .val .int (zBo x.1)] }⟩
section
variable {a b : List Int} {p : List (List Int)}
end
end Go.Proofs.YtlgkplnifaoeeaaGreatDoor
namespace Go.Proofs.YtlgkplnifaoeeaaGreatDoor
open Go.RowKit Go.VS
theorem zNR : FnSpec Tryz.prog 66 zRt := by
  refine FnSpec.of_tri' (E := know [(65, zK7), (113, zOt)] [] [] []) (zAn (all_cons zJD (all_cons zOu all_nil)) all_nil all_nil) Tryz.func66 rfl rfl (by kernel_rfl) ?_
  intro C x hE hnl hfit hpre
  simp only [Tryz.ntmps66, Tryz.results66, maxLen, Nat.reduceSub, Nat.reducePow, Nat.reduceAdd, Int.cast_ofNat_Int, push_cast] at hnl hfit hpre ⊢
  obtain ⟨(p : List (List Int)), _⟩ := x
  dsimp only at hfit hpre ⊢
  rcases zHt p with he | he
  · have hin := zHu he
    replace hnl := And.intro hnl he
    exact auB
  · replace hnl := And.intro hnl he
    exact auB
def okPic (l : List Int) (n : Int) : Bool := decide (1 ≤ l.length ∧ l.length ≤ 40) && l.all fun c => decide (0 ≤ c ∧ c < n ∧ c < 5)
def cntV (c : Int) (l : List Int) : Int := (l.count c : Nat)
def palV (l : List Int) (n : Nat) : List Int := tbl n fun c => cntV (c : Int) l
def zPw : Clo := ⟨[.int], [.int], .bool, fun _ _ => True, fun (y : Int × Unit) (x : Int × Unit) => decide (x.1 < 0) || decide (min y.1 5 ≤ x.1)⟩
attribute [push_cast] zPw
@[push_cast] def zSk : Con := ⟨[.dat .int, .ptr .int], fun _ => True, fun (x : Int × Int × Unit) => { res := [.val .bool (decide (x.1 < 0) || decide (min x.2.1 5 ≤ x.1))] }⟩
@[push_cast] def zRN : Con := ⟨[.dat (.sl .int), .dat .int], fun _ => True, fun (x : List Int × Int × Unit) => { res := [.val .bool (okPic x.1 x.2.1)] }⟩
structure PalPre (l : List Int) (n : Int) : Prop where
  num : 0 ≤ n ∧ n ≤ 1000
  len : l.length ≤ 1000
  at' : ∀ c ∈ l, 0 ≤ c ∧ c < n
@[push_cast] def zRM : Con := ⟨[.dat (.sl .int), .dat .int], fun (x : List Int × Int × Unit) => PalPre x.1 x.2.1, fun (x : List Int × Int × Unit) => { res := [.own (.flat 3 .int (palV x.1 x.2.1.toNat))] }⟩
theorem zSl : FnSpec Tryz.prog 111 zSk := by
  refine FnSpec.of_tri' (E := know [] [] [] []) (zAn all_nil all_nil all_nil) Tryz.func111 rfl rfl (by kernel_rfl) ?_
  intro C x hE hnl hfit hpre
  simp only [Tryz.ntmps111, Tryz.results111, maxLen, Nat.reduceSub, Nat.reducePow, Nat.reduceAdd, Int.cast_ofNat_Int, push_cast] at hnl hfit hpre ⊢
  obtain ⟨(c : Int), (n : Int), _⟩ := x
  dsimp only at hfit hpre ⊢
  repeat' (first|(refine goK (by assumption) ?_; iterate 4 (try clear hK K))|(refine zAd fun K hK => ?_)|((first|refine zAb hE rfl ?_|refine zAh ?_|((first|refine zAa hE 1 rfl rfl (by kernel_rfl) ?_|refine zAa hE 2 rfl rfl (by kernel_rfl) ?_|refine zAa hE 3 rfl rfl (by kernel_rfl) ?_|refine zAa hE 4 rfl rfl (by kernel_rfl) ?_); simp only [List.length_cons, List.length_nil, Nat.reduceAdd, Nat.reduceSub, List.take_succ_cons, List.take_zero, List.drop_succ_cons, List.drop_zero])); simp +contextual only [hnl, ↓kN, ↓kP, ↓kG, ↓qN, ↓qP, ↓qG, push_cast, seval, reduceCtorEq, Int.cast_ofNat_Int])|refine zAc ?_|((first|refine zAg ?_|refine zAf ?_); simp only [thenQ, zAk, if_true, if_false, Nat.reduceEqDiff, reduceCtorEq])|(refine zAe (by rfl) (fun hb => ?_) (fun hb => ?_) <;> (try simp only [b1, b2, b3, b4, reduceCtorEq, b5, b6] at hb) <;> (try omega))|refine zAi (by rfl) ?_ ?_|refine andS ?_|(refine ⟨fun hc => ?_, fun hc => ?_⟩)|(intro hc; try omega))
  all_goals first | omega | (simp only [decide_eq_decide]; omega) | (simp only [hc, decide_true, decide_false, Bool.true_or, Bool.false_or]; done) | (simp; done) | (simp; omega) | (simp [*]; done) | (simp [*]; omega)
theorem zPv : CloSpec Tryz.prog 111 zPw := CloSpec.of zSl
theorem zPk {l : List Int} {n : Int} (h : 1 ≤ l.length ∧ l.length ≤ 40) : (!l.any fun y => decide (y < 0) || decide (min n 5 ≤ y)) = okPic l n := by
  unfold okPic
  rw [decide_eq_true h, Bool.true_and]
  induction l with
  | nil => rfl
  | cons x l ih =>
    clear ih h
    generalize x :: l = l
    induction l with
    | nil => rfl
    | cons x l ih =>
      rw [List.any_cons, List.all_cons, Bool.not_or, ih]
      congr 1
      by_cases h1 : x < 0
      · have h2 : ¬ (0 ≤ x ∧ x < n ∧ x < 5) := by omega
        rw [decide_eq_true h1, decide_eq_false h2]; rfl
      · by_cases h3 : min n 5 ≤ x
        · have h2 : ¬ (0 ≤ x ∧ x < n ∧ x < 5) := by omega
          rw [decide_eq_false h1, decide_eq_true h3, decide_eq_false h2]; rfl
        · have h2 : 0 ≤ x ∧ x < n ∧ x < 5 := by omega
          rw [decide_eq_false h1, decide_eq_false h3, decide_eq_true h2]; rfl
theorem zPm {l : List Int} {n : Int} (h : ¬ (1 ≤ l.length ∧ l.length ≤ 40)) : okPic l n = false := by
  unfold okPic
  rw [decide_eq_false h]; rfl
theorem zPl {l : List Int} {n : Int} : okPic l n = true ↔ (1 ≤ l.length ∧ l.length ≤ 40) ∧ ∀ c ∈ l, 0 ≤ c ∧ c < n ∧ c < 5 := by
  simp only [okPic, Bool.and_eq_true, decide_eq_true_eq, List.all_eq_true]
theorem zQW : FnSpec Tryz.prog 59 zRN := by
  refine FnSpec.of_tri' (E := know [(110, zCN)] [(111, zPw)] [] []) (zAn (all_cons zCz all_nil) (all_cons zPv all_nil) all_nil) Tryz.func59 rfl rfl (by kernel_rfl) ?_
  intro C x hE hnl hfit hpre
  simp only [Tryz.ntmps59, Tryz.results59, maxLen, Nat.reduceSub, Nat.reducePow, Nat.reduceAdd, Int.cast_ofNat_Int, push_cast] at hnl hfit hpre ⊢
  obtain ⟨(l : List Int), (n : Int), _⟩ := x
  dsimp only at hfit hpre ⊢
  repeat' (first|(refine goK (by assumption) ?_; iterate 4 (try clear hK K))|(refine zAd fun K hK => ?_)|((first|refine zAb hE rfl ?_|refine zAh ?_|((first|refine zAa hE 1 rfl rfl (by kernel_rfl) ?_|refine zAa hE 2 rfl rfl (by kernel_rfl) ?_|refine zAa hE 3 rfl rfl (by kernel_rfl) ?_|refine zAa hE 4 rfl rfl (by kernel_rfl) ?_); simp only [List.length_cons, List.length_nil, Nat.reduceAdd, Nat.reduceSub, List.take_succ_cons, List.take_zero, List.drop_succ_cons, List.drop_zero])); simp +contextual only [hnl, ↓kN, ↓kP, ↓kG, ↓qN, ↓qP, ↓qG, push_cast, seval, reduceCtorEq, Int.cast_ofNat_Int])|refine zAc ?_|((first|refine zAg ?_|refine zAf ?_); simp only [thenQ, zAk, if_true, if_false, Nat.reduceEqDiff, reduceCtorEq])|(refine zAe (by rfl) (fun hb => ?_) (fun hb => ?_) <;> (try simp only [b1, b2, b3, b4, reduceCtorEq, b5, b6] at hb) <;> (try omega))|refine zAi (by rfl) ?_ ?_|refine andS ?_|(refine ⟨fun hc => ?_, fun hc => ?_⟩)|(intro hc; try omega))
  all_goals first
    | exact zPk (by omega)
    | exact (zPm (by omega)).symm
theorem zGx (c : Int) {l : List Int} {k : Nat} (h : k < l.length) : cntV c (l.take (k + 1)) = cntV c (l.take k) + if l.getD k 0 = c then 1 else 0 := by
  unfold cntV
  rw [List.take_succ_eq_append_getElem h, List.count_append]
  rw [List.getD_eq_getElem?_getD, List.getElem?_eq_getElem h, Option.getD_some]
  simp only [List.count_singleton, beq_iff_eq]
  split <;> simp
theorem zKD (c : Int) (l : List Int) : 0 ≤ cntV c l ∧ cntV c l ≤ l.length := by
  unfold cntV
  have := List.count_le_length (a := c) (l := l)
  omega
theorem zPt {l : List Int} {n k : Nat} (h : k < l.length) (hc : 0 ≤ l.getD k 0) :
    (palV (l.take k) n).set (l.getD k 0).toNat ((palV (l.take k) n).getD (l.getD k 0).toNat 0 + 1) = palV (l.take (k + 1)) n := by
  unfold palV
  rw [zG7]
  refine zA5 fun i hi => ?_
  rw [zGx _ h]
  split
  · rename_i e
    rw [← e, zD8 _ _ hi, if_pos (by omega)]
  · rename_i e
    rw [if_neg (by omega), Int.add_zero]
theorem zJA : FnSpec Tryz.prog 60 zRM := by
  refine FnSpec.of_tri' (E := know [] [] [] []) (zAn all_nil all_nil all_nil) Tryz.func60 rfl rfl (by kernel_rfl) ?_
  intro C x hE hnl hfit hpre
  simp only [Tryz.ntmps60, Tryz.results60, maxLen, Nat.reduceSub, Nat.reducePow, Nat.reduceAdd, Int.cast_ofNat_Int, push_cast] at hnl hfit hpre ⊢
  obtain ⟨(l : List Int), (n : Int), _⟩ := x
  dsimp only at hfit hpre ⊢
  obtain ⟨⟨hn0, hn1⟩, hl, hat⟩ := hpre
  obtain ⟨m, rfl⟩ : ∃ m : Nat, n = m := ⟨n.toNat, by omega⟩
  repeat' (first|(refine goK (by assumption) ?_; iterate 4 (try clear hK K))|(refine zAd fun K hK => ?_)|((first|refine zAb hE rfl ?_|refine zAh ?_|((first|refine zAa hE 1 rfl rfl (by kernel_rfl) ?_|refine zAa hE 2 rfl rfl (by kernel_rfl) ?_|refine zAa hE 3 rfl rfl (by kernel_rfl) ?_|refine zAa hE 4 rfl rfl (by kernel_rfl) ?_); simp only [List.length_cons, List.length_nil, Nat.reduceAdd, Nat.reduceSub, List.take_succ_cons, List.take_zero, List.drop_succ_cons, List.drop_zero])); simp +contextual only [hnl, ↓kN, ↓kP, ↓kG, ↓qN, ↓qP, ↓qG, push_cast, seval, reduceCtorEq, Int.cast_ofNat_Int])|refine zAc ?_|((first|refine zAg ?_|refine zAf ?_); simp only [thenQ, zAk, if_true, if_false, Nat.reduceEqDiff, reduceCtorEq])|(refine zAe (by rfl) (fun hb => ?_) (fun hb => ?_) <;> (try simp only [b1, b2, b3, b4, reduceCtorEq, b5, b6] at hb) <;> (try omega))|refine zAi (by rfl) ?_ ?_|refine andS ?_|(refine ⟨fun hc => ?_, fun hc => ?_⟩)|(intro hc; try omega))
  refine zAp (fun k : Nat => AS.of [(0, .one (.val (.sl .int) l)), (5, .one (.ref 9)), (10, .one (.val (.sl .int) l)), (11, .I l.length), (12, .I k)] [(9, .flat 3 .int (palV (l.take k) m))] []) (fun k => k ≤ l.length) (fun k => l.length - k) 0 (Nat.zero_le _) ?_ ?_
  · refine zAj ?_ ?_ ?_ <;> simp only [push_cast, seval, reduceCtorEq, Int.cast_ofNat_Int]
    simp [palV, cntV, zFo]
  intro k hk K' hL
  by_cases hkl : k < l.length
  · have h1 := hat _ (zBd 0 hkl)
    have h2 : (l.getD k 0).toNat < m := by omega
    have h3 : (palV (l.take k) m).getD (l.getD k 0).toNat 0 = cntV (l.getD k 0) (l.take k) := by
      unfold palV
      rw [zD8 _ _ h2, Int.toNat_of_nonneg h1.1]
    have h4 := zKD (l.getD k 0) (l.take k)
    have h5 : (l.take k).length ≤ 1000 := by rw [List.length_take]; omega
    have h6 := zPt (n := m) hkl h1.1
    have h7 : (palV (l.take k) m).length = m := zD9 _ _
    replace hnl := And.intro hnl h7
    repeat' (first|(refine goK (by assumption) ?_; iterate 4 (try clear hK K))|(refine zAd fun K hK => ?_)|((first|refine zAb hE rfl ?_|refine zAh ?_|((first|refine zAa hE 1 rfl rfl (by kernel_rfl) ?_|refine zAa hE 2 rfl rfl (by kernel_rfl) ?_|refine zAa hE 3 rfl rfl (by kernel_rfl) ?_|refine zAa hE 4 rfl rfl (by kernel_rfl) ?_); simp only [List.length_cons, List.length_nil, Nat.reduceAdd, Nat.reduceSub, List.take_succ_cons, List.take_zero, List.drop_succ_cons, List.drop_zero])); simp +contextual only [hnl, ↓kN, ↓kP, ↓kG, ↓qN, ↓qP, ↓qG, push_cast, seval, reduceCtorEq, Int.cast_ofNat_Int])|refine zAc ?_|((first|refine zAg ?_|refine zAf ?_); simp only [thenQ, zAk, if_true, if_false, Nat.reduceEqDiff, reduceCtorEq])|(refine zAe (by rfl) (fun hb => ?_) (fun hb => ?_) <;> (try simp only [b1, b2, b3, b4, reduceCtorEq, b5, b6] at hb) <;> (try omega))|refine zAi (by rfl) ?_ ?_|refine andS ?_|(refine ⟨fun hc => ?_, fun hc => ?_⟩)|(intro hc; try omega))
    refine hL _ (k + 1) (by omega) (by omega) ?_
    refine zAj ?_ ?_ ?_ <;> simp only [push_cast, seval, reduceCtorEq, Int.cast_ofNat_Int]
    exact .inl (congrArg _ h6)
  · obtain rfl : k = l.length := by omega
    rw [List.take_length]
    exact auB
end Go.Proofs.YtlgkplnifaoeeaaGreatDoor
