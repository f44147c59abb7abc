import Derived.Test.YtlgkplnifaoeeaaGreatDoorY4
import Derived.Test.YtlgkplnifaoeeaaGreatDoorY3
import Derived.Test.YtlgkplnifaoeeaaGreatDoorY5
set_option linter.unusedSimpArgs false
set_option linter.unusedVariables false
namespace Go.Proofs.YtlgkplnifaoeeaaGreatDoor
open Go.RowKit Go.VS
def tbl {α : Type} (n : Nat) (f : Nat → α) : List α := (List.range n).map f
theorem zBK {α : Type} (n : Nat) (f : Nat → α) : (tbl n f).length = n := by simp [tbl]
theorem zCa {α : Type} {n i : Nat} (f : Nat → α) (d : α) (h : i < n) : (tbl n f).getD i d = f i := by simp [tbl, List.getD_eq_getElem?_getD, h]
theorem zAB {α : Type} {n : Nat} {f g : Nat → α} (h : ∀ i, i < n → f i = g i) : tbl n f = tbl n g := List.map_congr_left fun i hi => h i (List.mem_range.1 hi)
theorem zFr {α : Type} (n : Nat) (f : Nat → α) : tbl (n + 1) f = tbl n f ++ [f n] := by simp [tbl, List.range_succ]
theorem zMQ {α : Type} (f : Nat → α) : tbl 0 f = [] := rfl
theorem zD7 {α : Type} {n i : Nat} (f : Nat → α) (v : α) : (tbl n f).set i v = tbl n (fun j => if j = i then v else f j) := by
  apply List.ext_getElem?
  intro j
  rw [List.getElem?_set]
  simp only [tbl, List.length_map, List.length_range, List.getElem?_map]
  by_cases hj : j < n
  · by_cases h : i = j
    · subst h; simp [hj]
    · have h' : ¬ j = i := fun e => h e.symm
      simp [h, h', hj]
  · have : (List.range n)[j]? = none := by simp; omega
    by_cases h : i = j
    · subst h; simp [hj]
    · simp [h, hj]
theorem zDk {α : Type} (n : Nat) (v : α) : tbl n (fun _ => v) = List.replicate n v := by simp [tbl, List.map_const']
theorem zGo {α : Type} (l : List α) (d : α) : l = tbl l.length (fun i => l.getD i d) := by
  apply List.ext_getElem (by simp [tbl])
  intro i h1 h2
  simp [tbl, List.getD_eq_getElem?_getD, h1]
theorem zSr {α β : Type} (l : List α) (d : α) (g : α → β) : l.map g = tbl l.length (fun i => g (l.getD i d)) := by
  conv => lhs; rw [zGo l d]
  simp [tbl]
def rowsP (p : List (List Int)) : List Int := p.map lsum
def colP (p : List (List Int)) (c : Nat) : Int := lsum (p.map fun r => r.getD c 0)
def colsP (p : List (List Int)) : List Int := tbl (wid p) (colP p)
theorem zJi {p : List (List Int)} {i : Nat} (h : i < p.length) (c : Nat) : colP (p.take (i + 1)) c = colP (p.take i) c + (p.getD i []).getD c 0 := by
  unfold colP
  rw [List.map_take, List.map_take, zB0 _ _ (by simpa using h)]
  congr 1
  simp [List.getD_eq_getElem?_getD, h]
theorem InPlan.sumR {p : List (List Int)} (h : InPlan p) {i : Nat} (hi : i < p.length) (j : Nat) : 0 ≤ lsum ((p.getD i []).take j) ∧ lsum ((p.getD i []).take j) ≤ 750 := by
  have h1 := zEi 150 (by omega) ((p.getD i []).take j) (fun x hx => h.mem _ (zAw [] hi) x (List.mem_of_mem_take hx))
  have h2 := h.row hi
  have h3 := h.cols
  have h4 : ((p.getD i []).take j).length ≤ 5 := by rw [List.length_take]; omega
  omega
theorem InPlan.sumC {p : List (List Int)} (h : InPlan p) {c : Nat} (hc : c < wid p) (i : Nat) : 0 ≤ colP (p.take i) c ∧ colP (p.take i) c ≤ 750 := by
  unfold colP
  have h1 := zEi 150 (by omega) ((p.take i).map fun r => r.getD c 0) (fun x hx => by
    obtain ⟨r, hr, rfl⟩ := List.mem_map.1 hx
    have hr' := List.mem_of_mem_take hr
    exact h.mem r hr' _ (zAw 0 (by rw [h.len r hr']; exact hc)))
  have h3 := h.rows
  have h4 : ((p.take i).map fun r => r.getD c 0).length ≤ 5 := by rw [List.length_map, List.length_take]; omega
  omega
@[push_cast] def zOL : Con := ⟨[.dat (.sl (.sl .int))], fun (x : List (List Int) × Unit) => InPlan x.1, fun (x : List (List Int) × Unit) => { res := [.own (.flat 3 .int (rowsP x.1)), .own (.flat 3 .int (colsP x.1))] }⟩
theorem zOM : FnSpec Tryz.prog 113 zOL := by
  refine FnSpec.of_tri' (E := know [] [] [] [12, 17]) (zAm all_nil all_nil all_nil) Tryz.func113 rfl rfl (by kernel_rfl) ?_
  intro C x hE hnl hfit hpre
  simp only [Tryz.ntmps113, Tryz.results113, maxLen, Nat.reduceSub, Nat.reducePow, Nat.reduceAdd, Int.cast_ofNat_Int, push_cast] at hnl hfit hpre ⊢
  obtain ⟨(p : List (List Int)), _⟩ := x
  dsimp only at hfit hpre ⊢
  have hr := hpre.rows
  have hc := hpre.cols
  have hw : (p.getD 0 []).length = wid p := rfl
  repeat' (first|(refine goK (by assumption) ?_; iterate 4 (try clear hK K))|(refine zAd fun K hK => ?_)|((first|refine zAb hE rfl ?_|refine zAh ?_|((first|refine zAa hE 1 rfl rfl (by kernel_rfl) ?_|refine zAa hE 2 rfl rfl (by kernel_rfl) ?_|refine zAa hE 3 rfl rfl (by kernel_rfl) ?_|refine zAa hE 4 rfl rfl (by kernel_rfl) ?_); simp only [List.length_cons, List.length_nil, Nat.reduceAdd, Nat.reduceSub, List.take_succ_cons, List.take_zero, List.drop_succ_cons, List.drop_zero])); simp +contextual only [hnl, ↓kN, ↓kP, ↓kG, ↓qN, ↓qP, ↓qG, push_cast, seval, reduceCtorEq, Int.cast_ofNat_Int])|refine zAc ?_|((first|refine zAg ?_|refine zAf ?_); simp only [thenQ, zAk, if_true, if_false, Nat.reduceEqDiff, reduceCtorEq])|(refine zAe (by rfl) (fun hb => ?_) (fun hb => ?_) <;> (try simp only [b1, b2, b3, b4, reduceCtorEq, b5, b6] at hb) <;> (try omega))|refine zAi (by rfl) ?_ ?_|refine andS ?_|(refine ⟨fun hc => ?_, fun hc => ?_⟩)|(intro hc; try omega))
  refine zEx 4 12 12 (by simp only [push_cast, seval, reduceCtorEq, Int.cast_ofNat_Int]; rfl) (by omega) ?_
  refine zEx 5 17 17 (by simp only [push_cast, seval, reduceCtorEq, Int.cast_ofNat_Int]; rfl) (by omega) ?_
  refine zAl (fun i : Nat => AS.of [(4, .one (.ref 12)), (5, .one (.ref 17)), (18, .one (.val (.sl (.sl .int)) p)), (19, .I p.length), (20, .I i)]
    [(12, .flat 3 .int (tbl p.length fun r => if r < i then lsum (p.getD r []) else 0)), (17, .flat 3 .int (tbl (wid p) fun c => colP (p.take i) c))] []) (fun i => i ≤ p.length) (fun i => p.length - i) 0 (Nat.zero_le _) ?_ ?_
  · refine zAj ?_ ?_ ?_ <;> simp only [push_cast, seval, reduceCtorEq, Int.cast_ofNat_Int]
    refine ⟨.inl (congrArg _ ?_), .inl (congrArg _ ?_)⟩
    · rw [← zDk]
      exact zAB fun r _ => by rw [if_neg (Nat.not_lt_zero r)]
    · rw [← zDk]
      exact zAB fun c _ => by simp [colP, lsum]
  intro i hi K' hL
  repeat' (first|(refine goK (by assumption) ?_; iterate 4 (try clear hK K))|(refine zAd fun K hK => ?_)|((first|refine zAb hE rfl ?_|refine zAh ?_|((first|refine zAa hE 1 rfl rfl (by kernel_rfl) ?_|refine zAa hE 2 rfl rfl (by kernel_rfl) ?_|refine zAa hE 3 rfl rfl (by kernel_rfl) ?_|refine zAa hE 4 rfl rfl (by kernel_rfl) ?_); simp only [List.length_cons, List.length_nil, Nat.reduceAdd, Nat.reduceSub, List.take_succ_cons, List.take_zero, List.drop_succ_cons, List.drop_zero])); simp +contextual only [hnl, ↓kN, ↓kP, ↓kG, ↓qN, ↓qP, ↓qG, push_cast, seval, reduceCtorEq, Int.cast_ofNat_Int])|refine zAc ?_|((first|refine zAg ?_|refine zAf ?_); simp only [thenQ, zAk, if_true, if_false, Nat.reduceEqDiff, reduceCtorEq])|(refine zAe (by rfl) (fun hb => ?_) (fun hb => ?_) <;> (try simp only [b1, b2, b3, b4, reduceCtorEq, b5, b6] at hb) <;> (try omega))|refine zAi (by rfl) ?_ ?_|refine andS ?_|(refine ⟨fun hc => ?_, fun hc => ?_⟩)|(intro hc; try omega))
  · have hi' : i < p.length := by omega
    have hwi := hpre.row hi'
    refine zAl (fun j : Nat => AS.of [(4, .one (.ref 12)), (5, .one (.ref 17)), (6, .I i), (18, .one (.val (.sl (.sl .int)) p)), (19, .I p.length), (20, .I i), (25, .one (.val (.sl .int) (p.getD i []))), (26, .I (p.getD i []).length), (27, .I j)]
      [(12, .flat 3 .int (tbl p.length fun r => if r < i then lsum (p.getD r []) else if r = i then lsum ((p.getD i []).take j) else 0)), (17, .flat 3 .int (tbl (wid p) fun c => colP (p.take i) c + if c < j then (p.getD i []).getD c 0 else 0))] [])
      (fun j => j ≤ wid p) (fun j => wid p - j) 0 (Nat.zero_le _) ?_ ?_
    · refine zAj ?_ ?_ ?_ <;> simp only [push_cast, seval, reduceCtorEq, Int.cast_ofNat_Int]
      refine ⟨.inl (congrArg _ (zAB fun r _ => ?_)), .inl (congrArg _ (zAB fun c _ => ?_))⟩
      · simp only [lsum, ite_self]
      · rw [if_neg (Nat.not_lt_zero c), Int.add_zero]
    intro j hj K2 hL2
    have e1 : (tbl p.length fun r => if r < i then lsum (p.getD r []) else if r = i then lsum ((p.getD i []).take j) else 0).getD i 0 = lsum ((p.getD i []).take j) := by
      rw [zCa _ _ hi', if_neg (Nat.lt_irrefl _), if_pos rfl]
    have e2 : j < wid p → (tbl (wid p) fun c => colP (p.take i) c + if c < j then (p.getD i []).getD c 0 else 0).getD j 0 = colP (p.take i) j := fun hj' => by
      rw [zCa _ _ hj', if_neg (Nat.lt_irrefl _), Int.add_zero]
    have s1 := hpre.sumR hi' j
    replace hnl := And.intro hnl (And.intro e1 (And.intro (zBK p.length fun r => if r < i then lsum (p.getD r []) else if r = i then lsum ((p.getD i []).take j) else 0) (zBK (wid p) fun c => colP (p.take i) c + if c < j then (p.getD i []).getD c 0 else 0)))
    repeat' (first|(refine goK (by assumption) ?_; iterate 4 (try clear hK K))|(refine zAd fun K hK => ?_)|((first|refine zAb hE rfl ?_|refine zAh ?_|((first|refine zAa hE 1 rfl rfl (by kernel_rfl) ?_|refine zAa hE 2 rfl rfl (by kernel_rfl) ?_|refine zAa hE 3 rfl rfl (by kernel_rfl) ?_|refine zAa hE 4 rfl rfl (by kernel_rfl) ?_); simp only [List.length_cons, List.length_nil, Nat.reduceAdd, Nat.reduceSub, List.take_succ_cons, List.take_zero, List.drop_succ_cons, List.drop_zero])); simp +contextual only [hnl, ↓kN, ↓kP, ↓kG, ↓qN, ↓qP, ↓qG, push_cast, seval, reduceCtorEq, Int.cast_ofNat_Int])|refine zAc ?_|((first|refine zAg ?_|refine zAf ?_); simp only [thenQ, zAk, if_true, if_false, Nat.reduceEqDiff, reduceCtorEq])|(refine zAe (by rfl) (fun hb => ?_) (fun hb => ?_) <;> (try simp only [b1, b2, b3, b4, reduceCtorEq, b5, b6] at hb) <;> (try omega))|refine zAi (by rfl) ?_ ?_|refine andS ?_|(refine ⟨fun hc => ?_, fun hc => ?_⟩)|(intro hc; try omega))
    · have hj' : j < wid p := by omega
      have s2 := hpre.at hi' hj'
      have s3 := hpre.sumC hj' i
      have s4 : InR ((tbl (wid p) fun c => colP (p.take i) c + if c < j then (p.getD i []).getD c 0 else 0).getD j 0 + (p.getD i []).getD j 0) := by
        rw [e2 hj']
        unfold InR
        omega
      refine ⟨by unfold InR; omega, ?_⟩
      repeat' (first|(refine goK (by assumption) ?_; iterate 4 (try clear hK K))|(refine zAd fun K hK => ?_)|((first|refine zAb hE rfl ?_|refine zAh ?_|((first|refine zAa hE 1 rfl rfl (by kernel_rfl) ?_|refine zAa hE 2 rfl rfl (by kernel_rfl) ?_|refine zAa hE 3 rfl rfl (by kernel_rfl) ?_|refine zAa hE 4 rfl rfl (by kernel_rfl) ?_); simp only [List.length_cons, List.length_nil, Nat.reduceAdd, Nat.reduceSub, List.take_succ_cons, List.take_zero, List.drop_succ_cons, List.drop_zero])); simp +contextual only [hnl, ↓kN, ↓kP, ↓kG, ↓qN, ↓qP, ↓qG, push_cast, seval, reduceCtorEq, Int.cast_ofNat_Int])|refine zAc ?_|((first|refine zAg ?_|refine zAf ?_); simp only [thenQ, zAk, if_true, if_false, Nat.reduceEqDiff, reduceCtorEq])|(refine zAe (by rfl) (fun hb => ?_) (fun hb => ?_) <;> (try simp only [b1, b2, b3, b4, reduceCtorEq, b5, b6] at hb) <;> (try omega))|refine zAi (by rfl) ?_ ?_|refine andS ?_|(refine ⟨fun hc => ?_, fun hc => ?_⟩)|(intro hc; try omega))
      refine hL2 _ (j + 1) (by omega) (by omega) ?_
      refine zAj ?_ ?_ ?_ <;> simp only [push_cast, seval, reduceCtorEq, Int.cast_ofNat_Int]
      rw [e2 hj', zD7, zD7]
      refine ⟨.inl (congrArg _ (zAB fun r _ => ?_)), .inl (congrArg _ (zAB fun c _ => ?_))⟩
      · by_cases h : r = i
        · subst h
          rw [if_pos rfl, if_neg (Nat.lt_irrefl _), if_pos rfl, zB0 _ _ (by omega)]
        · rw [if_neg h, if_neg h, if_neg h]
      · by_cases h : c = j
        · subst h
          rw [if_pos rfl, if_pos (Nat.lt_succ_self _)]
        · rw [if_neg h]
          by_cases h2 : c < j
          · rw [if_pos h2, if_pos (by omega)]
          · rw [if_neg h2, if_neg (by omega)]
    · have hjw : j = wid p := by omega
      refine hL _ (i + 1) (by omega) (by omega) ?_
      refine zAj ?_ ?_ ?_ <;> simp only [push_cast, seval, reduceCtorEq, Int.cast_ofNat_Int]
      refine ⟨.inl (congrArg _ (zAB fun r _ => ?_)), .inl (congrArg _ (zAB fun c hc => ?_))⟩
      · by_cases h : r = i
        · subst h
          rw [if_neg (Nat.lt_irrefl _), if_pos rfl, if_pos (Nat.lt_succ_self _), List.take_of_length_le (by omega)]
        · rw [if_neg h]
          by_cases h2 : r < i
          · rw [if_pos h2, if_pos (by omega)]
          · rw [if_neg h2, if_neg (by omega)]
      · rw [if_pos (by omega), zJi hi']
  · obtain rfl : i = p.length := by omega
    refine ⟨congrArg _ ?_, congrArg _ ?_⟩
    · rw [rowsP, zSr p []]
      exact zAB fun r hr => if_pos hr
    · rw [List.take_of_length_le (Nat.le_refl _)]
      rfl
@[push_cast] def zL6 : Con := ⟨[.dat (.sl .int), .dat (.sl .int)], fun _ => True, fun (x : List Int × List Int × Unit) => { res := [.val .bool (decide (x.1 = x.2.1))] }⟩
theorem zM9 : FnSpec Tryz.prog 67 zL6 := by
  refine FnSpec.of_tri' (E := know [] [] [] []) (zAm all_nil all_nil all_nil) Tryz.func67 rfl rfl (by kernel_rfl) ?_
  intro C x hE hnl hfit hpre
  simp only [Tryz.ntmps67, Tryz.results67, maxLen, Nat.reduceSub, Nat.reducePow, Nat.reduceAdd, Int.cast_ofNat_Int, push_cast] at hnl hfit hpre ⊢
  obtain ⟨(a : List Int), (b : List Int), _⟩ := x
  dsimp only at hfit hpre ⊢
  repeat' (first|(refine goK (by assumption) ?_; iterate 4 (try clear hK K))|(refine zAd fun K hK => ?_)|((first|refine zAb hE rfl ?_|refine zAh ?_|((first|refine zAa hE 1 rfl rfl (by kernel_rfl) ?_|refine zAa hE 2 rfl rfl (by kernel_rfl) ?_|refine zAa hE 3 rfl rfl (by kernel_rfl) ?_|refine zAa hE 4 rfl rfl (by kernel_rfl) ?_); simp only [List.length_cons, List.length_nil, Nat.reduceAdd, Nat.reduceSub, List.take_succ_cons, List.take_zero, List.drop_succ_cons, List.drop_zero])); simp +contextual only [hnl, ↓kN, ↓kP, ↓kG, ↓qN, ↓qP, ↓qG, push_cast, seval, reduceCtorEq, Int.cast_ofNat_Int])|refine zAc ?_|((first|refine zAg ?_|refine zAf ?_); simp only [thenQ, zAk, if_true, if_false, Nat.reduceEqDiff, reduceCtorEq])|(refine zAe (by rfl) (fun hb => ?_) (fun hb => ?_) <;> (try simp only [b1, b2, b3, b4, reduceCtorEq, b5, b6] at hb) <;> (try omega))|refine zAi (by rfl) ?_ ?_|refine andS ?_|(refine ⟨fun hc => ?_, fun hc => ?_⟩)|(intro hc; try omega))
  · exact (decide_eq_false fun e => hb (by rw [e])).symm
  have hlen := hb; clear hb
  refine zAl (fun k : Nat => AS.of [(0, .one (.val (.sl .int) a)), (1, .one (.val (.sl .int) b)), (12, .I a.length), (13, .I k)] [] []) (fun k => k ≤ a.length ∧ ∀ j, j < k → a.getD j 0 = b.getD j 0) (fun k => a.length - k) 0 ⟨Nat.zero_le _, by omega⟩ ?_ ?_
  · refine zAj ?_ ?_ ?_ <;> simp only [push_cast, seval, reduceCtorEq, Int.cast_ofNat_Int]
  intro k ⟨hk, hj⟩ K' hL
  repeat' (first|(refine goK (by assumption) ?_; iterate 4 (try clear hK K))|(refine zAd fun K hK => ?_)|((first|refine zAb hE rfl ?_|refine zAh ?_|((first|refine zAa hE 1 rfl rfl (by kernel_rfl) ?_|refine zAa hE 2 rfl rfl (by kernel_rfl) ?_|refine zAa hE 3 rfl rfl (by kernel_rfl) ?_|refine zAa hE 4 rfl rfl (by kernel_rfl) ?_); simp only [List.length_cons, List.length_nil, Nat.reduceAdd, Nat.reduceSub, List.take_succ_cons, List.take_zero, List.drop_succ_cons, List.drop_zero])); simp +contextual only [hnl, ↓kN, ↓kP, ↓kG, ↓qN, ↓qP, ↓qG, push_cast, seval, reduceCtorEq, Int.cast_ofNat_Int])|refine zAc ?_|((first|refine zAg ?_|refine zAf ?_); simp only [thenQ, zAk, if_true, if_false, Nat.reduceEqDiff, reduceCtorEq])|(refine zAe (by rfl) (fun hb => ?_) (fun hb => ?_) <;> (try simp only [b1, b2, b3, b4, reduceCtorEq, b5, b6] at hb) <;> (try omega))|refine zAi (by rfl) ?_ ?_|refine andS ?_|(refine ⟨fun hc => ?_, fun hc => ?_⟩)|(intro hc; try omega))
  · exact (decide_eq_false (zHL 0 hb)).symm
  · refine hL _ (k + 1) ⟨by omega, fun j hj' => ?_⟩ (by omega) ?_
    · rcases Nat.lt_or_ge j k with h3 | h3
      · exact hj j h3
      · have : j = k := by omega
        subst this
        exact hb
    refine zAj ?_ ?_ ?_ <;> simp only [push_cast, seval, reduceCtorEq, Int.cast_ofNat_Int]
  · exact (decide_eq_true (zFw 0 (by omega) fun j hj' => hj j (by omega))).symm
end Go.Proofs.YtlgkplnifaoeeaaGreatDoor
namespace Go.Proofs.YtlgkplnifaoeeaaGreatDoor
open Go.RowKit Go.VS
theorem zO8 {n lo hi : Int} {l : List Int} (h : InL n lo hi l) : ∀ j, j < l.length → lo ≤ l.getD j 0 ∧ l.getD j 0 ≤ hi := fun j hj => h.2 _ (zAw 0 hj)
section
variable {c : List (List Int)} {ps : List Int}
end
end Go.Proofs.YtlgkplnifaoeeaaGreatDoor
namespace Go.Proofs.YtlgkplnifaoeeaaGreatDoor
open Go.RowKit Go.VS
@[push_cast] def zJV : Con := ⟨[.dat (.sl .int), .dat .int], fun _ => True, fun (x : List Int × Int × Unit) => { res := [.val .bool (decide (InL x.2.1 (-1000) 1000 x.1))] }⟩
theorem zLo : FnSpec Tryz.prog 180 zJV := by
  refine FnSpec.of_tri' (E := know [(157, zBc)] [] [] []) (zAm (all_cons zF7 all_nil) all_nil all_nil) Tryz.func180 rfl rfl (by kernel_rfl) ?_
  intro C x hE hnl hfit hpre
  simp only [Tryz.ntmps180, Tryz.results180, maxLen, Nat.reduceSub, Nat.reducePow, Nat.reduceAdd, Int.cast_ofNat_Int, push_cast] at hnl hfit hpre ⊢
  obtain ⟨(l : List Int), (n : Int), _⟩ := x
  dsimp only at hfit hpre ⊢
  repeat' (first|(refine goK (by assumption) ?_; iterate 4 (try clear hK K))|(refine zAd fun K hK => ?_)|((first|refine zAb hE rfl ?_|refine zAh ?_); simp +contextual only [hnl, ↓kN, ↓kP, ↓kG, ↓qN, ↓qP, ↓qG, push_cast, seval, reduceCtorEq, Int.cast_ofNat_Int])|refine zAc ?_|((first|refine zAg ?_|refine zAf ?_); simp only [thenQ, zAk, if_true, if_false, Nat.reduceEqDiff, reduceCtorEq])|(refine zAe (by rfl) (fun hb => ?_) (fun hb => ?_) <;> (try simp only [b1, b2, b3, b4, reduceCtorEq, b5, b6] at hb) <;> (try omega))|refine zAi (by rfl) ?_ ?_|refine andS ?_|(refine ⟨fun hc => ?_, fun hc => ?_⟩)|(intro hc; try omega))
  · exact (decide_eq_false fun h => by have := h.1; omega).symm
  · refine zAl (fun k : Nat => AS.of [(0, .one (.val (.sl .int) l)), (1, .I n), (5, .I k)] [] []) (fun k => k ≤ l.length ∧ ∀ j, j < k → -1000 ≤ l.getD j 0 ∧ l.getD j 0 ≤ 1000) (fun k => l.length - k) 0 ⟨Nat.zero_le _, by omega⟩ ?_ ?_
    · refine zAj ?_ ?_ ?_ <;> simp only [push_cast, seval, reduceCtorEq, Int.cast_ofNat_Int]
    intro k ⟨hk, hall⟩ K' hL
    repeat' (first|(refine goK (by assumption) ?_; iterate 4 (try clear hK K))|(refine zAd fun K hK => ?_)|((first|refine zAb hE rfl ?_|refine zAh ?_); simp +contextual only [hnl, ↓kN, ↓kP, ↓kG, ↓qN, ↓qP, ↓qG, push_cast, seval, reduceCtorEq, Int.cast_ofNat_Int])|refine zAc ?_|((first|refine zAg ?_|refine zAf ?_); simp only [thenQ, zAk, if_true, if_false, Nat.reduceEqDiff, reduceCtorEq])|(refine zAe (by rfl) (fun hb => ?_) (fun hb => ?_) <;> (try simp only [b1, b2, b3, b4, reduceCtorEq, b5, b6] at hb) <;> (try omega))|refine zAi (by rfl) ?_ ?_|refine andS ?_|(refine ⟨fun hc => ?_, fun hc => ?_⟩)|(intro hc; try omega))
    · exact (decide_eq_false fun h => hb (zO8 h k (by omega))).symm
    · refine hL _ (k + 1) ⟨by omega, fun j hj => ?_⟩ (by omega) ?_
      · rcases Nat.lt_or_ge j k with h3 | h3
        · exact hall j h3
        · obtain rfl : j = k := by omega
          exact hb
      refine zAj ?_ ?_ ?_ <;> simp only [push_cast, seval, reduceCtorEq, Int.cast_ofNat_Int]
    · refine (decide_eq_true ⟨by omega, fun x hx => ?_⟩).symm
      obtain ⟨i, h1, rfl⟩ := List.getElem_of_mem hx
      have := hall i (by omega)
      rwa [List.getD_eq_getElem?_getD, List.getElem?_eq_getElem h1] at this
end Go.Proofs.YtlgkplnifaoeeaaGreatDoor
namespace Go.Proofs.YtlgkplnifaoeeaaGreatDoor
open Go.RowKit Go.VS
abbrev Pr := Int × Int
def toP (l : List Pr) (i : Nat) : Pr := l.getD i (0, 0)
end Go.Proofs.YtlgkplnifaoeeaaGreatDoor
namespace Go.Proofs.YtlgkplnifaoeeaaGreatDoor
open Go.RowKit Go.VS
def cAt (c : List (List Int)) (i j : Int) : Int := (c.getD i.toNat []).getD j.toNat 0
structure InT (c : List (List Int)) (x : Pr) : Prop where
  r0 : 0 ≤ x.1
  r1 : x.1 < c.length
  c0 : 0 ≤ x.2
  c1 : x.2 < wid c
theorem inT_iff {c : List (List Int)} {x : Pr} : InT c x ↔ (0 ≤ x.1 ∧ x.1 < c.length ∧ 0 ≤ x.2 ∧ x.2 < wid c) := ⟨fun ⟨a, b, c, d⟩ => ⟨a, b, c, d⟩, fun ⟨a, b, c, d⟩ => ⟨a, b, c, d⟩⟩
instance (c : List (List Int)) (x : Pr) : Decidable (InT c x) := decidable_of_iff _ inT_iff.symm
def lexLt (x y : Pr) : Prop := x.1 < y.1 ∨ x.1 = y.1 ∧ x.2 < y.2
instance (x y : Pr) : Decidable (lexLt x y) := by unfold lexLt; infer_instance
structure Lnk (c : List (List Int)) (l : List Pr) : Prop where
  at' : ∀ i, i < l.length → InT c (toP l i)
  inc : ∀ i, i + 1 < l.length → lexLt (toP l i) (toP l (i + 1))
theorem lnk_iff {c : List (List Int)} {l : List Pr} : Lnk c l ↔ ((∀ i, i < l.length → InT c (toP l i)) ∧ ∀ i, i < l.length - 1 → lexLt (toP l i) (toP l (i + 1))) :=
  ⟨fun ⟨a, b⟩ => ⟨a, fun i hi => b i (by omega)⟩, fun ⟨a, b⟩ => ⟨a, fun i hi => b i (by omega)⟩⟩
instance (c : List (List Int)) (l : List Pr) : Decidable (Lnk c l) := decidable_of_iff _ lnk_iff.symm
structure LnkK (c : List (List Int)) (l : List Pr) (k : Nat) : Prop where
  at' : ∀ i, i < k → InT c (toP l i)
  inc : ∀ i, i + 1 < k → lexLt (toP l i) (toP l (i + 1))
theorem LnkK.all {c : List (List Int)} {l : List Pr} (h : LnkK c l l.length) : Lnk c l := ⟨h.at', h.inc⟩
theorem LnkK.step {c : List (List Int)} {l : List Pr} {k : Nat} (h : LnkK c l k) (h1 : InT c (toP l k)) (h2 : 0 < k → lexLt (toP l (k - 1)) (toP l k)) : LnkK c l (k + 1) := by
  refine ⟨fun i hi => ?_, fun i hi => ?_⟩
  · rcases Nat.lt_or_ge i k with h3 | h3
    · exact h.at' i h3
    · obtain rfl : i = k := by omega
      exact h1
  · rcases Nat.lt_or_ge (i + 1) k with h3 | h3
    · exact h.inc i h3
    · obtain rfl : k = i + 1 := by omega
      exact h2 (by omega)
end Go.Proofs.YtlgkplnifaoeeaaGreatDoor
namespace Go.Proofs.YtlgkplnifaoeeaaGreatDoor
open Go.RowKit Go.VS
def lossV (c : List (List Int)) (r : List Pr) (i j : Nat) : Int := cAt c (toP r i).1 (toP r j).2 - cAt c (toP r i).1 (toP r i).2
def gainK (c : List (List Int)) (r : List Pr) : Nat → Int
  | 0 => 0
  | k + 1 => gainK c r k - lossV c r k ((k + 1) % r.length)
theorem InTab.cAt {c : List (List Int)} (h : InTab 0 99 c) {x y : Pr} (hx : InT c x) (hy : InT c y) : 0 ≤ Go.Proofs.YtlgkplnifaoeeaaGreatDoor.cAt c x.1 y.2 ∧ Go.Proofs.YtlgkplnifaoeeaaGreatDoor.cAt c x.1 y.2 ≤ 99 :=
  h.at (by have := hx.r0; have := hx.r1; omega) (by have := hy.c0; have := hy.c1; omega)
theorem InTab.loss {c : List (List Int)} (h : InTab 0 99 c) {r : List Pr} (hr : ∀ k, k < r.length → InT c (toP r k)) {i j : Nat} (hi : i < r.length) (hj : j < r.length) : -99 ≤ lossV c r i j ∧ lossV c r i j ≤ 99 := by
  have h1 := h.cAt (hr i hi) (hr i hi)
  have h2 := h.cAt (hr i hi) (hr j hj)
  unfold lossV
  omega
theorem InTab.gain {c : List (List Int)} (h : InTab 0 99 c) {r : List Pr} (hr : ∀ k, k < r.length → InT c (toP r k)) : ∀ k, k ≤ r.length → -99 * (k : Int) ≤ gainK c r k ∧ gainK c r k ≤ 99 * k
  | 0, _ => by simp [gainK]
  | k + 1, hk => by
    have h1 := InTab.gain h hr k (by omega)
    have h2 := h.loss hr (i := k) (j := (k + 1) % r.length) (by omega) (Nat.mod_lt _ (by omega))
    simp only [gainK]
    omega
end Go.Proofs.YtlgkplnifaoeeaaGreatDoor
namespace Go.Proofs.YtlgkplnifaoeeaaGreatDoor
open Go.RowKit Go.VS
section
variable {c : List (List Int)} {l r : List Pr}
end
end Go.Proofs.YtlgkplnifaoeeaaGreatDoor
namespace Go.Proofs.YtlgkplnifaoeeaaGreatDoor
open Go.RowKit Go.VS
theorem zHM {a : List Int} (h : zB4 a = true) : (1 ≤ a.length ∧ a.length ≤ 6) ∧ Go.OT.Bnd 0 200 a :=
  ⟨by have := zHN h; omega, fun x hx => by have := zFE h x hx; omega⟩
theorem ForOK.mc {a b : List Int} {c : List (List Int)} (h : ForOK a b c) : Go.OT.MC a b c := by
  have h1 := zHM h.ha
  have h2 := zHM h.hb
  have h3 := h.hc.tb (lo' := 0) (hi' := 99) (by omega) (by omega)
  rw [h.rows, h.cols] at h3
  exact ⟨h1.1, h2.1, h1.2, h2.2, h3⟩
end Go.Proofs.YtlgkplnifaoeeaaGreatDoor
namespace Go.Proofs.YtlgkplnifaoeeaaGreatDoor
open Go.RowKit Go.VS
def ArePr (c : List (List Int)) (p : zCs) : Prop := InL c.length (-1000) 1000 p.1 ∧ InL (wid c) (-1000) 1000 p.2
instance (c : List (List Int)) (p : zCs) : Decidable (ArePr c p) := by unfold ArePr; infer_instance
def HoldP (c : List (List Int)) (p : zCs) : Prop := ∀ i, i < c.length → ∀ j, j < wid c → p.1.getD i 0 + p.2.getD j 0 ≤ (c.getD i []).getD j 0
instance (c : List (List Int)) (p : zCs) : Decidable (HoldP c p) := by unfold HoldP; infer_instance
def errPr (c : List (List Int)) (p : zCs) : Int := if InTab 0 99 c ∧ ArePr c p then if HoldP c p then 0 else 7 else 1
section
variable {c : List (List Int)} {p : zCs}
theorem zIp (h : ¬ (InTab 0 99 c ∧ ArePr c p)) : errPr c p = 1 := if_neg h
theorem zOU (h : InTab 0 99 c) (h2 : ArePr c p) (h3 : ¬ HoldP c p) : errPr c p = 7 := by rw [errPr, if_pos ⟨h, h2⟩, if_neg h3]
theorem zOT (h : InTab 0 99 c) (h2 : ArePr c p) (h3 : HoldP c p) : errPr c p = 0 := by rw [errPr, if_pos ⟨h, h2⟩, if_pos h3]
theorem zMa (h : errPr c p = 0) : InTab 0 99 c ∧ ArePr c p ∧ HoldP c p := by
  unfold errPr at h
  split at h
  · split at h
    · rename_i h1 h2; exact ⟨h1.1, h1.2, h2⟩
    · omega
  · omega
theorem ArePr.row (h : ArePr c p) : p.1.length = c.length ∧ ∀ i, i < p.1.length → -1000 ≤ p.1.getD i 0 ∧ p.1.getD i 0 ≤ 1000 := ⟨by have := h.1.1; omega, zO8 h.1⟩
theorem ArePr.col (h : ArePr c p) : p.2.length = wid c ∧ ∀ i, i < p.2.length → -1000 ≤ p.2.getD i 0 ∧ p.2.getD i 0 ≤ 1000 := ⟨by have := h.2.1; omega, zO8 h.2⟩
end
@[push_cast] def zGh : Con := ⟨[.dat (.sl (.sl .int)), .dat (.prod (.sl .int) (.sl .int))], fun (x : List (List Int) × zCs × Unit) => InTab 0 99 x.1, fun (x : List (List Int) × zCs × Unit) => { res := [.val .bool (decide (ArePr x.1 x.2.1))] }⟩
@[push_cast] def zO2 : Con := ⟨[.dat (.sl (.sl .int)), .dat (.prod (.sl .int) (.sl .int))], fun (x : List (List Int) × zCs × Unit) => InTab 0 99 x.1 ∧ ArePr x.1 x.2.1, fun (x : List (List Int) × zCs × Unit) => { res := [.val .bool (decide (HoldP x.1 x.2.1))] }⟩
@[push_cast] def prCon : Con := ⟨[.dat (.sl (.sl .int)), .dat (.prod (.sl .int) (.sl .int))], fun _ => True, fun (x : List (List Int) × zCs × Unit) => { res := [.val .int (errPr x.1 x.2.1)] }⟩
theorem zPL : FnSpec Tryz.prog 136 zGh := by
  refine FnSpec.of_tri' (E := know [(118, zOo)] [] [] []) (zAm (all_cons zLX all_nil) all_nil all_nil) Tryz.func136 rfl rfl (by kernel_rfl) ?_
  intro C x hE hnl hfit hpre
  simp only [Tryz.ntmps136, Tryz.results136, maxLen, Nat.reduceSub, Nat.reducePow, Nat.reduceAdd, Int.cast_ofNat_Int, push_cast] at hnl hfit hpre ⊢
  obtain ⟨(c : List (List Int)), ⟨(u : List Int), (v : List Int)⟩, _⟩ := x
  dsimp only at hfit hpre ⊢
  have hw : (c.getD 0 []).length = wid c := rfl
  have hr := hpre.rows
  replace hnl := And.intro hnl hw
  by_cases h1 : InL c.length (-1000) 1000 u
  · by_cases h2 : InL (wid c) (-1000) 1000 v
    · have e : ArePr c (u, v) := ⟨h1, h2⟩
      replace hnl := And.intro hnl (And.intro (eq_true h1) (And.intro (eq_true h2) (eq_true e)))
      exact auB
    · have e : ¬ ArePr c (u, v) := fun h => h2 h.2
      replace hnl := And.intro hnl (And.intro (eq_true h1) (And.intro (eq_false h2) (eq_false e)))
      exact auB
  · have e : ¬ ArePr c (u, v) := fun h => h1 h.1
    replace hnl := And.intro hnl (And.intro (eq_false h1) (eq_false e))
    exact auB
theorem zPT : FnSpec Tryz.prog 137 zGh := by
  refine FnSpec.of_tri' (E := know [(180, zJV)] [] [] []) (zAm (all_cons zLo all_nil) all_nil all_nil) Tryz.func137 rfl rfl (by kernel_rfl) ?_
  intro C x hE hnl hfit hpre
  simp only [Tryz.ntmps137, Tryz.results137, maxLen, Nat.reduceSub, Nat.reducePow, Nat.reduceAdd, Int.cast_ofNat_Int, push_cast] at hnl hfit hpre ⊢
  obtain ⟨(c : List (List Int)), ⟨(u : List Int), (v : List Int)⟩, _⟩ := x
  dsimp only at hfit hpre ⊢
  have hw : (c.getD 0 []).length = wid c := rfl
  have hr := hpre.rows
  replace hnl := And.intro hnl hw
  by_cases h1 : InL c.length (-1000) 1000 u
  · by_cases h2 : InL (wid c) (-1000) 1000 v
    · have e : ArePr c (u, v) := ⟨h1, h2⟩
      replace hnl := And.intro hnl (And.intro (eq_true h1) (And.intro (eq_true h2) (eq_true e)))
      exact auB
    · have e : ¬ ArePr c (u, v) := fun h => h2 h.2
      replace hnl := And.intro hnl (And.intro (eq_true h1) (And.intro (eq_false h2) (eq_false e)))
      exact auB
  · have e : ¬ ArePr c (u, v) := fun h => h1 h.1
    replace hnl := And.intro hnl (And.intro (eq_false h1) (eq_false e))
    exact auB
theorem zO3 : FnSpec Tryz.prog 138 zO2 := by
  refine FnSpec.of_tri' (E := know [] [] [] []) (zAm all_nil all_nil all_nil) Tryz.func138 rfl rfl (by kernel_rfl) ?_
  intro C x hE hnl hfit hpre
  simp only [Tryz.ntmps138, Tryz.results138, maxLen, Nat.reduceSub, Nat.reducePow, Nat.reduceAdd, Int.cast_ofNat_Int, push_cast] at hnl hfit hpre ⊢
  obtain ⟨(c : List (List Int)), ⟨(u : List Int), (v : List Int)⟩, _⟩ := x
  dsimp only at hfit hpre ⊢
  obtain ⟨ht, ha⟩ := hpre
  obtain ⟨hul, hua⟩ := ha.row
  obtain ⟨hvl, hva⟩ := ha.col
  dsimp only at hul hua hvl hva
  repeat' (first|(refine goK (by assumption) ?_; iterate 4 (try clear hK K))|(refine zAd fun K hK => ?_)|((first|refine zAb hE rfl ?_|refine zAh ?_|((first|refine zAa hE 1 rfl rfl (by kernel_rfl) ?_|refine zAa hE 2 rfl rfl (by kernel_rfl) ?_|refine zAa hE 3 rfl rfl (by kernel_rfl) ?_|refine zAa hE 4 rfl rfl (by kernel_rfl) ?_); simp only [List.length_cons, List.length_nil, Nat.reduceAdd, Nat.reduceSub, List.take_succ_cons, List.take_zero, List.drop_succ_cons, List.drop_zero])); simp +contextual only [hnl, ↓kN, ↓kP, ↓kG, ↓qN, ↓qP, ↓qG, push_cast, seval, reduceCtorEq, Int.cast_ofNat_Int])|refine zAc ?_|((first|refine zAg ?_|refine zAf ?_); simp only [thenQ, zAk, if_true, if_false, Nat.reduceEqDiff, reduceCtorEq])|(refine zAe (by rfl) (fun hb => ?_) (fun hb => ?_) <;> (try simp only [b1, b2, b3, b4, reduceCtorEq, b5, b6] at hb) <;> (try omega))|refine zAi (by rfl) ?_ ?_|refine andS ?_|(refine ⟨fun hc => ?_, fun hc => ?_⟩)|(intro hc; try omega))
  refine zAl (fun k : Nat => AS.of [(0, .one (.val (.sl (.sl .int)) c)), (3, .one (.box 3)), (5, .I k)] [] [(3, .one (.val (.prod (.sl .int) (.sl .int)) (u, v)))]) (fun k => k ≤ c.length ∧ ∀ i, i < k → ∀ j, j < wid c → u.getD i 0 + v.getD j 0 ≤ (c.getD i []).getD j 0) (fun k => c.length - k) 0 ⟨Nat.zero_le _, by omega⟩ ?_ ?_
  · refine zAj ?_ ?_ ?_ <;> simp only [push_cast, seval, reduceCtorEq, Int.cast_ofNat_Int]
  intro k ⟨hk, hall⟩ K' hL
  repeat' (first|(refine goK (by assumption) ?_; iterate 4 (try clear hK K))|(refine zAd fun K hK => ?_)|((first|refine zAb hE rfl ?_|refine zAh ?_|((first|refine zAa hE 1 rfl rfl (by kernel_rfl) ?_|refine zAa hE 2 rfl rfl (by kernel_rfl) ?_|refine zAa hE 3 rfl rfl (by kernel_rfl) ?_|refine zAa hE 4 rfl rfl (by kernel_rfl) ?_); simp only [List.length_cons, List.length_nil, Nat.reduceAdd, Nat.reduceSub, List.take_succ_cons, List.take_zero, List.drop_succ_cons, List.drop_zero])); simp +contextual only [hnl, ↓kN, ↓kP, ↓kG, ↓qN, ↓qP, ↓qG, push_cast, seval, reduceCtorEq, Int.cast_ofNat_Int])|refine zAc ?_|((first|refine zAg ?_|refine zAf ?_); simp only [thenQ, zAk, if_true, if_false, Nat.reduceEqDiff, reduceCtorEq])|(refine zAe (by rfl) (fun hb => ?_) (fun hb => ?_) <;> (try simp only [b1, b2, b3, b4, reduceCtorEq, b5, b6] at hb) <;> (try omega))|refine zAi (by rfl) ?_ ?_|refine andS ?_|(refine ⟨fun hc => ?_, fun hc => ?_⟩)|(intro hc; try omega))
  · have hk' : k < c.length := by omega
    have hrow := ht.len hk'
    have huk := hua k (by omega)
    refine zAl (fun j : Nat => AS.of [(0, .one (.val (.sl (.sl .int)) c)), (3, .one (.box 3)), (5, .I k), (6, .I j)] [] [(3, .one (.val (.prod (.sl .int) (.sl .int)) (u, v)))]) (fun j => j ≤ wid c ∧ ∀ j', j' < j → u.getD k 0 + v.getD j' 0 ≤ (c.getD k []).getD j' 0) (fun j => wid c - j) 0 ⟨Nat.zero_le _, by omega⟩ ?_ ?_
    · refine zAj ?_ ?_ ?_ <;> simp only [push_cast, seval, reduceCtorEq, Int.cast_ofNat_Int]
    intro j ⟨hj, hj'⟩ K2 hL2
    have hvj := hva j
    repeat' (first|(refine goK (by assumption) ?_; iterate 4 (try clear hK K))|(refine zAd fun K hK => ?_)|((first|refine zAb hE rfl ?_|refine zAh ?_|((first|refine zAa hE 1 rfl rfl (by kernel_rfl) ?_|refine zAa hE 2 rfl rfl (by kernel_rfl) ?_|refine zAa hE 3 rfl rfl (by kernel_rfl) ?_|refine zAa hE 4 rfl rfl (by kernel_rfl) ?_); simp only [List.length_cons, List.length_nil, Nat.reduceAdd, Nat.reduceSub, List.take_succ_cons, List.take_zero, List.drop_succ_cons, List.drop_zero])); simp +contextual only [hnl, ↓kN, ↓kP, ↓kG, ↓qN, ↓qP, ↓qG, push_cast, seval, reduceCtorEq, Int.cast_ofNat_Int])|refine zAc ?_|((first|refine zAg ?_|refine zAf ?_); simp only [thenQ, zAk, if_true, if_false, Nat.reduceEqDiff, reduceCtorEq])|(refine zAe (by rfl) (fun hb => ?_) (fun hb => ?_) <;> (try simp only [b1, b2, b3, b4, reduceCtorEq, b5, b6] at hb) <;> (try omega))|refine zAi (by rfl) ?_ ?_|refine andS ?_|(refine ⟨fun hc => ?_, fun hc => ?_⟩)|(intro hc; try omega))
    · exact (decide_eq_false fun h => by have : u.getD k 0 + v.getD j 0 ≤ _ := h k hk' j (by omega); omega).symm
    · refine hL2 _ (j + 1) ⟨by omega, fun j' h1 => ?_⟩ (by omega) ?_
      · rcases Nat.lt_or_ge j' j with h3 | h3
        · exact hj' j' h3
        · obtain rfl : j' = j := by omega
          omega
      refine zAj ?_ ?_ ?_ <;> simp only [push_cast, seval, reduceCtorEq, Int.cast_ofNat_Int]
    · refine hL _ (k + 1) ⟨by omega, fun i h1 => ?_⟩ (by omega) ?_
      · rcases Nat.lt_or_ge i k with h3 | h3
        · exact hall i h3
        · obtain rfl : i = k := by omega
          exact fun j' h4 => hj' j' (by omega)
      refine zAj ?_ ?_ ?_ <;> simp only [push_cast, seval, reduceCtorEq, Int.cast_ofNat_Int]
  · exact (decide_eq_true fun i h1 => hall i (by omega)).symm
theorem zRj : FnSpec Tryz.prog 92 prCon := by
  refine FnSpec.of_tri' (E := know [(72, zDP), (137, zGh), (138, zO2)] [] [] []) (zAm (all_cons zHU (all_cons zPT (all_cons zO3 all_nil))) all_nil all_nil) Tryz.func92 rfl rfl (by kernel_rfl) ?_
  intro C x hE hnl hfit hpre
  simp only [Tryz.ntmps92, Tryz.results92, maxLen, Nat.reduceSub, Nat.reducePow, Nat.reduceAdd, Int.cast_ofNat_Int, push_cast] at hnl hfit hpre ⊢
  obtain ⟨(c : List (List Int)), ⟨(u : List Int), (v : List Int)⟩, _⟩ := x
  dsimp only at hfit hpre ⊢
  by_cases hc : InTab 0 99 c
  · have h1 := zCM hc
    by_cases ha : ArePr c (u, v)
    · by_cases hh : HoldP c (u, v)
      · have e := zOT hc ha hh
        replace hnl := And.intro hnl (And.intro h1 (And.intro (eq_true ha) (And.intro (eq_true hh) e)))
        exact auA
      · have e := zOU hc ha hh
        replace hnl := And.intro hnl (And.intro h1 (And.intro (eq_true ha) (And.intro (eq_false hh) e)))
        exact auA
    · have e : errPr c (u, v) = 1 := zIp fun h => ha h.2
      replace hnl := And.intro hnl (And.intro h1 (And.intro (eq_false ha) e))
      exact auA
  · have h1 := zBY hc
    have e : errPr c (u, v) = 1 := zIp fun h => hc h.1
    replace hnl := And.intro hnl (And.intro h1 e)
    exact auA
theorem zRc : FnSpec Tryz.prog 91 prCon := by
  refine FnSpec.of_tri' (E := know [(73, zDP), (136, zGh)] [] [] []) (zAm (all_cons zEm (all_cons zPL all_nil)) all_nil all_nil) Tryz.func91 rfl rfl (by kernel_rfl) ?_
  intro C x hE hnl hfit hpre
  simp only [Tryz.ntmps91, Tryz.results91, maxLen, Nat.reduceSub, Nat.reducePow, Nat.reduceAdd, Int.cast_ofNat_Int, push_cast] at hnl hfit hpre ⊢
  obtain ⟨(c : List (List Int)), ⟨(u : List Int), (v : List Int)⟩, _⟩ := x
  dsimp only at hfit hpre ⊢
  by_cases hc : InTab 0 99 c
  · have h1 := zCM hc
    by_cases ha : ArePr c (u, v)
    · replace hnl := And.intro hnl (And.intro h1 (eq_true ha))
      obtain ⟨hul, hua⟩ := ha.row
      obtain ⟨hvl, hva⟩ := ha.col
      dsimp only at hul hua hvl hva
      repeat' (first|(refine goK (by assumption) ?_; iterate 4 (try clear hK K))|(refine zAd fun K hK => ?_)|((first|refine zAb hE rfl ?_|refine zAh ?_|((first|refine zAa hE 1 rfl rfl (by kernel_rfl) ?_|refine zAa hE 2 rfl rfl (by kernel_rfl) ?_|refine zAa hE 3 rfl rfl (by kernel_rfl) ?_|refine zAa hE 4 rfl rfl (by kernel_rfl) ?_); simp only [List.length_cons, List.length_nil, Nat.reduceAdd, Nat.reduceSub, List.take_succ_cons, List.take_zero, List.drop_succ_cons, List.drop_zero])); simp +contextual only [hnl, ↓kN, ↓kP, ↓kG, ↓qN, ↓qP, ↓qG, push_cast, seval, reduceCtorEq, Int.cast_ofNat_Int])|refine zAc ?_|((first|refine zAg ?_|refine zAf ?_); simp only [thenQ, zAk, if_true, if_false, Nat.reduceEqDiff, reduceCtorEq])|(refine zAe (by rfl) (fun hb => ?_) (fun hb => ?_) <;> (try simp only [b1, b2, b3, b4, reduceCtorEq, b5, b6] at hb) <;> (try omega))|refine zAi (by rfl) ?_ ?_|refine andS ?_|(refine ⟨fun hc => ?_, fun hc => ?_⟩)|(intro hc; try omega))
      refine zAl (fun k : Nat => AS.of [(0, .one (.val (.sl (.sl .int)) c)), (3, .one (.box 3)), (19, .one (.val (.sl (.sl .int)) c)), (20, .I c.length), (21, .I k)] [] [(3, .one (.val (.prod (.sl .int) (.sl .int)) (u, v)))]) (fun k => k ≤ c.length ∧ ∀ i, i < k → ∀ j, j < wid c → u.getD i 0 + v.getD j 0 ≤ (c.getD i []).getD j 0) (fun k => c.length - k) 0 ⟨Nat.zero_le _, by omega⟩ ?_ ?_
      · refine zAj ?_ ?_ ?_ <;> simp only [push_cast, seval, reduceCtorEq, Int.cast_ofNat_Int]
      intro k ⟨hk, hall⟩ K' hL
      repeat' (first|(refine goK (by assumption) ?_; iterate 4 (try clear hK K))|(refine zAd fun K hK => ?_)|((first|refine zAb hE rfl ?_|refine zAh ?_|((first|refine zAa hE 1 rfl rfl (by kernel_rfl) ?_|refine zAa hE 2 rfl rfl (by kernel_rfl) ?_|refine zAa hE 3 rfl rfl (by kernel_rfl) ?_|refine zAa hE 4 rfl rfl (by kernel_rfl) ?_); simp only [List.length_cons, List.length_nil, Nat.reduceAdd, Nat.reduceSub, List.take_succ_cons, List.take_zero, List.drop_succ_cons, List.drop_zero])); simp +contextual only [hnl, ↓kN, ↓kP, ↓kG, ↓qN, ↓qP, ↓qG, push_cast, seval, reduceCtorEq, Int.cast_ofNat_Int])|refine zAc ?_|((first|refine zAg ?_|refine zAf ?_); simp only [thenQ, zAk, if_true, if_false, Nat.reduceEqDiff, reduceCtorEq])|(refine zAe (by rfl) (fun hb => ?_) (fun hb => ?_) <;> (try simp only [b1, b2, b3, b4, reduceCtorEq, b5, b6] at hb) <;> (try omega))|refine zAi (by rfl) ?_ ?_|refine andS ?_|(refine ⟨fun hc => ?_, fun hc => ?_⟩)|(intro hc; try omega))
      · have hk' : k < c.length := by omega
        have hrow := hc.len hk'
        have huk := hua k (by omega)
        refine zAl (fun j : Nat => AS.of [(0, .one (.val (.sl (.sl .int)) c)), (3, .one (.box 3)), (6, .I k), (19, .one (.val (.sl (.sl .int)) c)), (20, .I c.length), (21, .I k), (26, .one (.val (.sl .int) (c.getD k []))), (27, .I (c.getD k []).length), (28, .I j)] [] [(3, .one (.val (.prod (.sl .int) (.sl .int)) (u, v)))]) (fun j => j ≤ wid c ∧ ∀ j', j' < j → u.getD k 0 + v.getD j' 0 ≤ (c.getD k []).getD j' 0) (fun j => wid c - j) 0 ⟨Nat.zero_le _, by omega⟩ ?_ ?_
        · refine zAj ?_ ?_ ?_ <;> simp only [push_cast, seval, reduceCtorEq, Int.cast_ofNat_Int]
        intro j ⟨hj, hj'⟩ K2 hL2
        have hvj := hva j
        repeat' (first|(refine goK (by assumption) ?_; iterate 4 (try clear hK K))|(refine zAd fun K hK => ?_)|((first|refine zAb hE rfl ?_|refine zAh ?_|((first|refine zAa hE 1 rfl rfl (by kernel_rfl) ?_|refine zAa hE 2 rfl rfl (by kernel_rfl) ?_|refine zAa hE 3 rfl rfl (by kernel_rfl) ?_|refine zAa hE 4 rfl rfl (by kernel_rfl) ?_); simp only [List.length_cons, List.length_nil, Nat.reduceAdd, Nat.reduceSub, List.take_succ_cons, List.take_zero, List.drop_succ_cons, List.drop_zero])); simp +contextual only [hnl, ↓kN, ↓kP, ↓kG, ↓qN, ↓qP, ↓qG, push_cast, seval, reduceCtorEq, Int.cast_ofNat_Int])|refine zAc ?_|((first|refine zAg ?_|refine zAf ?_); simp only [thenQ, zAk, if_true, if_false, Nat.reduceEqDiff, reduceCtorEq])|(refine zAe (by rfl) (fun hb => ?_) (fun hb => ?_) <;> (try simp only [b1, b2, b3, b4, reduceCtorEq, b5, b6] at hb) <;> (try omega))|refine zAi (by rfl) ?_ ?_|refine andS ?_|(refine ⟨fun hc => ?_, fun hc => ?_⟩)|(intro hc; try omega))
        · exact (zOU hc ha fun h => by have : u.getD k 0 + v.getD j 0 ≤ _ := h k hk' j (by omega); omega).symm
        · refine hL2 _ (j + 1) ⟨by omega, fun j' h1 => ?_⟩ (by omega) ?_
          · rcases Nat.lt_or_ge j' j with h3 | h3
            · exact hj' j' h3
            · obtain rfl : j' = j := by omega
              omega
          refine zAj ?_ ?_ ?_ <;> simp only [push_cast, seval, reduceCtorEq, Int.cast_ofNat_Int]
        · refine hL _ (k + 1) ⟨by omega, fun i h1 => ?_⟩ (by omega) ?_
          · rcases Nat.lt_or_ge i k with h3 | h3
            · exact hall i h3
            · obtain rfl : i = k := by omega
              exact fun j' h4 => hj' j' (by omega)
          refine zAj ?_ ?_ ?_ <;> simp only [push_cast, seval, reduceCtorEq, Int.cast_ofNat_Int]
      · exact (zOT hc ha fun i h1 => hall i (by omega)).symm
    · have e : errPr c (u, v) = 1 := zIp fun h => ha h.2
      replace hnl := And.intro hnl (And.intro h1 (And.intro (eq_false ha) e))
      exact auB
  · have h1 := zBY hc
    have e : errPr c (u, v) = 1 := zIp fun h => hc h.1
    replace hnl := And.intro hnl (And.intro h1 e)
    exact auB
end Go.Proofs.YtlgkplnifaoeeaaGreatDoor
namespace Go.Proofs.YtlgkplnifaoeeaaGreatDoor
open Go.RowKit Go.VS
@[push_cast] def zRO : Con := ⟨[.dat (.sl (.sl .int))], fun _ => True, fun (x : List (List Int) × Unit) =>
  { res := [.own (.flat 3 .int (if zA5 x.1 = 0 then rowsP x.1 else [])), .own (.flat 3 .int (if zA5 x.1 = 0 then colsP x.1 else [])), .val .int (zA5 x.1)] }⟩
section
variable {a b : List Int} {p : List (List Int)}
end
end Go.Proofs.YtlgkplnifaoeeaaGreatDoor
