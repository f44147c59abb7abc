/- A forest that is made of a plan: rounds are turned until there is none. Conditions: in each contract. -/
import Derived.Test.YtloipnalmkdldaaWk
import Derived.Test.YtloipnalmkdldaaFm
import Derived.Test.YtloipnalmkdldaaWc
namespace Go.Proofs.Ytloipnalmkdldaa
open Go.RowKit Go.VS Go.OT
set_option linter.unusedSimpArgs false
set_option linter.unusedVariables false

/-! ### One round turned -/
def setC (q : List (List Int)) (x : Pr) (v : Int) : List (List Int) := q.set x.1.toNat ((q.getD x.1.toNat []).set x.2.toNat v)
def turnT (p : List (List Int)) (r : List Pr) (d : Int) : Nat → List (List Int)
  | 0 => p
  | k + 1 => setC (turnT p r d k) (r.getD k (0, 0)) (cellV (turnT p r d k) (r.getD k (0, 0)) + (if k % 2 = 0 then -d else d))
def leastR (p : List (List Int)) (r : List Pr) : Nat → Int
  | 0 => cellV p (r.getD 0 (0, 0))
  | k + 1 => min (leastR p r k) (cellV p (r.getD (2 * k) (0, 0)))
def stepF (p : List (List Int)) : List (List Int) := turnT p (roundV (lkV p)) (leastR p (roundV (lkV p)) ((roundV (lkV p)).length / 2)) (roundV (lkV p)).length
def forestF : Nat → List (List Int) → List (List Int)
  | 0, p => p
  | n + 1, p => if boundV (lkV p) = [] then p else forestF n (stepF p)
def forestV (p : List (List Int)) : List (List Int) := forestF 26 p

/-- What a table has in common with the first one. -/
structure FoI (R C : Nat) (p q : List (List Int)) : Prop where
  sz : Sz R C q
  row : ∀ i, i < R → rowS C (gt q) i = rowS C (gt p) i
  col : ∀ j, j < C → colS R (gt q) j = colS R (gt p) j
  nn : ∀ i j, i < R → j < C → 0 ≤ gt q i j
  sub : ∀ i j, i < R → j < C → 0 < gt q i j → 0 < gt p i j
section
variable {R C : Nat} {p q : List (List Int)}
theorem FoI.turn (h : FoI R C p q) {s : List (List Int)} (t : TurnOK R C q s) : FoI R C p s :=
  ⟨t.sz, fun i hi => (t.row i hi).trans (h.row i hi), fun j hj => (t.col j hj).trans (h.col j hj), t.nn, fun i j hi hj h0 => h.sub i j hi hj (t.sub i j hi hj h0)⟩
theorem sz_wid (h : Sz R C q) (hR : 0 < R) : wid q = C := h.cols 0 hR
theorem lk_link (h : Sz R C q) (hR : 0 < R) {x : Pr} (hx : x ∈ lkV q) : LinkOf R C q x := by
  obtain ⟨k1, k2, k3, k4, k5⟩ := (lkI q q.length).mem x hx
  rw [sz_wid h hR] at k4
  have hr := h.rows
  refine ⟨x.1.toNat, x.2.toNat, by omega, by omega, ?_, k5⟩
  rw [Int.toNat_of_nonneg k1, Int.toNat_of_nonneg k2]
theorem turn_sz (h : Sz R C p) {r : List Pr} {d : Int} (hr : ∀ t, t < r.length → ∃ i j : Nat, i < R ∧ j < C ∧ r.getD t (0, 0) = ((i : Int), (j : Int))) : ∀ k, k ≤ r.length →
    Sz R C (turnT p r d k) ∧ ∀ i j, i < R → j < C → gt (turnT p r d k) i j = gt p i j + d * hits r i j k
  | 0, _ => ⟨h, fun i j _ _ => by rw [show hits r i j 0 = 0 from rfl, Int.mul_zero, Int.add_zero]; rfl⟩
  | k + 1, hk => by
    obtain ⟨h1, h2⟩ := turn_sz h hr k (by omega)
    obtain ⟨i, j, hi, hj, e⟩ := hr k (by omega)
    obtain ⟨g1, g2⟩ := gt_set2 h1 hi hj (gt (turnT p r d k) i j + (if k % 2 = 0 then -d else d))
    have eq : turnT p r d (k + 1) = (turnT p r d k).set i (((turnT p r d k).getD i []).set j (gt (turnT p r d k) i j + (if k % 2 = 0 then -d else d))) := by
      show setC _ _ _ = _
      rw [e]
      rfl
    rw [eq]
    refine ⟨g1, fun x y hx hy => ?_⟩
    rw [g2]
    have hh : hits r x y (k + 1) = hits r x y k + sgn k * ind (r.getD k (0, 0) = ((x : Int), (y : Int))) := rfl
    rw [hh, Int.mul_add, ← Int.add_assoc, ← h2 x y hx hy]
    by_cases hc : x = i ∧ y = j
    · rw [if_pos hc, hc.1, hc.2, e, ind_t rfl]
      unfold sgn
      split <;> simp
    · rw [if_neg hc, e, ind_f (by intro h9; injection h9 with h8 h7; exact hc ⟨by omega, by omega⟩)]
      simp
theorem least_le {r : List Pr} : ∀ k t, t < k → leastR q r k ≤ cellV q (r.getD (2 * t) (0, 0))
  | k + 1, t, h => by
    unfold leastR
    rcases Nat.lt_or_ge t k with h1 | h1
    · have := least_le (r := r) k t h1; omega
    · obtain rfl : t = k := by omega
      omega
theorem least_is {r : List Pr} : ∀ k, ∃ t, (t = 0 ∨ t < k) ∧ leastR q r k = cellV q (r.getD (2 * t) (0, 0))
  | 0 => ⟨0, .inl rfl, rfl⟩
  | k + 1 => by
    obtain ⟨t, h1, h2⟩ := least_is (r := r) k
    unfold leastR
    rcases Int.le_total (leastR q r k) (cellV q (r.getD (2 * k) (0, 0))) with h | h
    · exact ⟨t, by omega, by omega⟩
    · exact ⟨k, by omega, by omega⟩
theorem sz_rect (h : Sz R C q) (hR : 1 ≤ R ∧ R ≤ 5) (hC : 1 ≤ C ∧ C ≤ 5) : Rect q := by
  have hw := sz_wid h hR.1
  refine ⟨by rw [h.rows]; exact hR, by rw [hw]; exact hC, fun r hr => ?_⟩
  obtain ⟨i, hi, rfl⟩ := List.getElem_of_mem hr
  have := h.cols i (by rw [← h.rows]; exact hi)
  rw [hw, ← this, List.getD_eq_getElem?_getD, List.getElem?_eq_getElem hi]
  rfl
/-- What is known of a round of a table's links. -/
theorem fo_round (h : Sz R C q) (hR : 1 ≤ R ∧ R ≤ 5) (hC : 1 ≤ C ∧ C ≤ 5) (hb : boundV (lkV q) ≠ []) : (∃ b, Rnd (boundV (lkV q)) (roundV (lkV q)) b) ∧ ∀ x ∈ boundV (lkV q), LinkOf R C q x :=
  ⟨roundV_rnd (lk_nodup q) (lk_inB (sz_rect h hR hC)) hb, fun x hx => lk_link h hR.1 ((bound_sub _).subset hx)⟩
theorem step_ok (h : Sz R C q) (hn : ∀ i j, i < R → j < C → 0 ≤ gt q i j) (hR : 1 ≤ R ∧ R ≤ 5) (hC : 1 ≤ C ∧ C ≤ 5) (hb : boundV (lkV q) ≠ []) : TurnOK R C q (stepF q) := by
  obtain ⟨⟨b, hr⟩, hl⟩ := fo_round h hR hC hb
  have hp := hr.pos
  have he := hr.ev
  have hm : ∀ t, t < (roundV (lkV q)).length → ∃ i j : Nat, i < R ∧ j < C ∧ (roundV (lkV q)).getD t (0, 0) = ((i : Int), (j : Int)) := fun t ht => by
    obtain ⟨i, j, hi, hj, e, _⟩ := hl _ (hr.mem t ht)
    exact ⟨i, j, hi, hj, e⟩
  obtain ⟨g1, g2⟩ := turn_sz (d := leastR q (roundV (lkV q)) ((roundV (lkV q)).length / 2)) h hm _ (Nat.le_refl _)
  refine turn_ok (d := leastR q (roundV (lkV q)) ((roundV (lkV q)).length / 2)) hr hl h hn ⟨g1.rows.trans h.rows.symm, fun i hi => by rw [h.rows] at hi; rw [h.cols i hi]; exact g1.cols i hi, fun i j hi hj => ?_⟩ (fun t ht h2 => ?_) ?_
  · rw [h.rows] at hi
    rw [h.cols i hi] at hj
    exact g2 i j hi hj
  · have := least_le (q := q) (r := roundV (lkV q)) ((roundV (lkV q)).length / 2) (t / 2) (by omega)
    rw [show 2 * (t / 2) = t by omega] at this
    exact this
  · obtain ⟨t, h1, h2⟩ := least_is (q := q) (r := roundV (lkV q)) ((roundV (lkV q)).length / 2)
    exact ⟨2 * t, by omega, by omega, h2⟩
theorem forest_ok (hR : 1 ≤ R ∧ R ≤ 5) (hC : 1 ≤ C ∧ C ≤ 5) : ∀ (n : Nat) (q : List (List Int)), FoI R C p q → numL R C q < n → FoI R C p (forestF n q) ∧ boundV (lkV (forestF n q)) = []
  | 0, q, h, hn => by have := numL_nn R C q; omega
  | n + 1, q, h, hn => by
    unfold forestF
    split
    · rename_i hb; exact ⟨h, hb⟩
    · rename_i hb
      have ht := step_ok h.sz h.nn hR hC hb
      have := numL_less ht
      exact forest_ok hR hC n _ (h.turn ht) (by omega)
end
theorem sg_const (c : Int) : ∀ n : Nat, sg n (fun _ => c) = n * c
  | 0 => by simp [sg]
  | n + 1 => by
    show sg n _ + c = _
    rw [sg_const c n, Int.natCast_succ, Int.add_mul, Int.one_mul]
theorem numL_le {R C : Nat} (p : List (List Int)) : numL R C p ≤ R * C := by
  have h1 : ∀ i, i < R → (sg C fun j => ind (0 < gt p i j)) ≤ C := fun i _ => by
    have := sg_le (f := fun j => ind (0 < gt p i j)) (g := fun _ => 1) C fun j _ => (ind_01 _).2
    rw [sg_const, Int.mul_one] at this
    exact this
  have h2 := sg_le (g := fun _ => (C : Int)) R h1
  rw [sg_const] at h2
  exact h2
theorem plan_foi {p : List (List Int)} (h : InPlan p) : FoI p.length (wid p) p p :=
  ⟨⟨rfl, fun i hi => h.row hi⟩, fun _ _ => rfl, fun _ _ => rfl, fun i j hi hj => (h.at hi hj).1, fun _ _ _ _ h => h⟩
theorem forestV_ok {p : List (List Int)} (h : InPlan p) : FoI p.length (wid p) p (forestV p) ∧ boundV (lkV (forestV p)) = [] := by
  refine forest_ok h.rows h.cols 26 p (plan_foi h) ?_
  have h1 := numL_le (R := p.length) (C := wid p) p
  have h2 : p.length * wid p ≤ 5 * 5 := Nat.mul_le_mul h.rows.2 h.cols.2
  have h3 : ((p.length * wid p : Nat) : Int) ≤ 25 := by omega
  rw [Int.natCast_mul] at h3
  omega
/-- No entry is above 750. -/
theorem FoI.le {p q : List (List Int)} (hp : InPlan p) (h : FoI p.length (wid p) p q) {i j : Nat} (hi : i < p.length) (hj : j < wid p) : gt q i j ≤ 750 := by
  have h1 : gt q i j ≤ rowS (wid p) (gt q) i := sg_at (f := fun j => gt q i j) (wid p) (fun j hj => h.nn i j hi hj) j hj
  have h2 : rowS (wid p) (gt p) i ≤ 150 * wid p := by
    have key : ∀ n, n ≤ wid p → sg n (fun j => gt p i j) ≤ 150 * n := by
      intro n
      induction n with
      | zero => intro _; simp [sg]
      | succ n ih =>
        intro hn
        have := ih (by omega)
        have h3 : gt p i n ≤ 150 := (hp.at hi (by omega)).2
        show sg n _ + gt p i n ≤ _
        omega
    exact key _ (Nat.le_refl _)
  have h3 := h.row i hi
  have h4 := hp.cols
  omega

theorem roundW_len {m : List Pr} (hd : m.Nodup) (hp : peel m = m) {C : Nat} (hc : ∀ x ∈ m, 0 ≤ x.2 ∧ x.2 < C) : ∀ (n : Nat) (W : List Pr), LkWay m W → (roundW m n W).length ≤ 2 * C + 1
  | 0, W, h => by simp [roundW]
  | n + 1, W, h => by
    have hs := h.short hc
    unfold roundW
    cases hm : metF W (nextL m W) with
    | some i => simp only [List.length_drop, List.length_append, List.length_cons, List.length_nil]; omega
    | none => exact roundW_len hd hp hc n _ (way_more hd hp h (metF_no hm))
theorem roundV_len {l : List Pr} (hd : l.Nodup) (hi : InB l) : (roundV l).length ≤ 2003 := by
  unfold roundV
  split
  · simp
  · rename_i h
    have := roundW_len (bound_nd hd) (bound_fix l) (C := 1001) (fun x hx => by have := bound_in hi x hx; omega) 3000 _ (LkWay.start (getD0_mem h))
    omega
theorem turn_bnd {R C : Nat} {p : List (List Int)} (h : Sz R C p) {r : List Pr} {d : Int} (hd : 0 ≤ d ∧ d ≤ 750) (h0 : ∀ i j, i < R → j < C → 0 ≤ gt p i j ∧ gt p i j ≤ 750)
    (hr : ∀ t, t < r.length → ∃ i j : Nat, i < R ∧ j < C ∧ r.getD t (0, 0) = ((i : Int), (j : Int))) : ∀ k, k ≤ r.length → ∀ i j, i < R → j < C → -(750 * (k : Int)) ≤ gt (turnT p r d k) i j ∧ gt (turnT p r d k) i j ≤ 750 + 750 * (k : Int)
  | 0, _ => fun i j hi hj => by have := h0 i j hi hj; show _ ≤ gt p i j ∧ gt p i j ≤ _; omega
  | k + 1, hk => fun x y hx hy => by
    obtain ⟨h1, h2⟩ := turn_sz (d := d) h hr k (by omega)
    obtain ⟨i, j, hi, hj, e⟩ := hr k (by omega)
    obtain ⟨g1, g2⟩ := gt_set2 h1 hi hj (gt (turnT p r d k) i j + (if k % 2 = 0 then -d else d))
    have eq : turnT p r d (k + 1) = (turnT p r d k).set i (((turnT p r d k).getD i []).set j (gt (turnT p r d k) i j + (if k % 2 = 0 then -d else d))) := by
      show setC _ _ _ = _
      rw [e]
      rfl
    have b1 := turn_bnd h hd h0 hr k (by omega) i j hi hj
    have b2 := turn_bnd h hd h0 hr k (by omega) x y hx hy
    rw [eq, g2]
    split
    · split <;> omega
    · omega

/-! ### The walk -/
structure StopF (p : Prop) : Prop where
  h : p
@[push_cast] def forestCon : Con := ⟨[.dat (.sl (.sl .int))], fun _ => True, fun (x : List (List Int) × Unit) => { res := [.own (.deep 33 3 .int (if errPlan x.1 = 0 then forestV x.1 else [])), .val .int (errPlan x.1)] }⟩
set_option maxHeartbeats 4000000 in
theorem forest_spec : FnSpec Try.prog 18 forestCon := by
  refine FnSpec.of_tri' (E := know [(22, planCon), (39, copyCon), (29, linksMCon), (40, roundCon)] [] [] []) (know_ok (all_cons plan_spec (all_cons copy_spec (all_cons mlinks_spec (all_cons round_spec all_nil)))) all_nil all_nil) Try.func18 rfl rfl (by kernel_rfl) ?_
  intro C x hE hnl hfit hpre
  simp only [Try.ntmps18, Try.results18, maxLen, Nat.reduceSub, Nat.reducePow, Nat.reduceAdd, Int.cast_ofNat_Int, push_cast] at hnl hfit hpre ⊢
  obtain ⟨(p : List (List Int)), _⟩ := x
  dsimp only at hfit hpre ⊢
  by_cases h : errPlan p = 0
  · have h1 := errPlan_in h
    have hsm := h1.small
    have hR := h1.rows
    have hC := h1.cols
    rw [if_pos h]
    replace hnl := And.intro hnl h
    repeat' (first|(refine goK (by assumption) ?_; iterate 4 (try clear hK K))|(refine tri_seqk fun K hK => ?_)|((first|refine tri_region hE rfl ?_|refine tri_ret ?_|((first|refine tri_drawP hE 1 rfl rfl (by kernel_rfl) ?_|refine tri_drawP hE 2 rfl rfl (by kernel_rfl) ?_|refine tri_drawP hE 3 rfl rfl (by kernel_rfl) ?_|refine tri_drawP hE 4 rfl rfl (by kernel_rfl) ?_); simp only [List.length_cons, List.length_nil, Nat.reduceAdd, Nat.reduceSub, List.take_succ_cons, List.take_zero, List.drop_succ_cons, List.drop_zero])); simp +contextual only [hnl, ↓kN, ↓kP, ↓kG, ↓qN, ↓qP, ↓qG, push_cast, Int.reduceEq, Int.reduceLT, Int.reduceLE, Int.reduceNeg, Nat.reduceLT, Nat.reduceLeDiff, Int.reduceToNat, Int.cast_ofNat_Int, Nat.reduceBEq, Nat.reduceMul, Nat.reduceEqDiff, reduceCtorEq, Nat.reduceAdd])|refine tri_block ?_|((first|refine tri_skip ?_|refine tri_exit ?_); simp only [thenQ, blockQ, if_true, if_false, Nat.reduceEqDiff, reduceCtorEq])|(refine tri_cond (by rfl) (fun hb => ?_) (fun hb => ?_) <;> (try simp only [decide_eq_true_eq, decide_eq_false_iff_not, Bool.not_eq_true', Bool.not_eq_false', reduceCtorEq, Bool.true_eq_false, Bool.false_eq_true] at hb) <;> (try omega))|refine tri_unk (by rfl) ?_ ?_|refine And.intro (by first|omega|(unfold InR; omega)|assumption|decide|exact ⟨_, _, rfl⟩) ?_|(refine ⟨fun hc => ?_, fun hc => ?_⟩)|(intro hc; try omega))
    refine tri_loopI (fun x : Nat × List (List Int) => AS.of [(5, .one (.ref 17))] [(17, .deep 33 3 .int x.2)] []) (fun x => FoI p.length (wid p) p x.2 ∧ forestF x.1 x.2 = forestV p ∧ numL p.length (wid p) x.2 < x.1) (fun x => x.1) (26, p) ⟨plan_foi h1, rfl, ?_⟩ ?_ ?_
    · have h1' := numL_le (R := p.length) (C := wid p) p
      have h2 : p.length * wid p ≤ 5 * 5 := Nat.mul_le_mul hR.2 hC.2
      have h3 : ((p.length * wid p : Nat) : Int) ≤ 25 := by omega
      rw [Int.natCast_mul] at h3
      show numL _ _ p < ((26 : Nat) : Int)
      omega
    · refine weak_of ?_ ?_ ?_ <;> simp only [push_cast, Int.reduceEq, Int.reduceLT, Int.reduceLE, Int.reduceNeg, Nat.reduceLT, Nat.reduceLeDiff, Int.reduceToNat, Int.cast_ofNat_Int, Nat.reduceBEq, Nat.reduceMul, Nat.reduceEqDiff, reduceCtorEq, Nat.reduceAdd]
    rintro ⟨n, q⟩ ⟨hI, hF, hn⟩ K' hL
    dsimp only at hI hF hn hL ⊢
    have hn0 := numL_nn p.length (wid p) q
    obtain ⟨n, rfl⟩ : ∃ k, n = k + 1 := ⟨n - 1, by omega⟩
    unfold forestF at hF
    have hrec := sz_rect hI.sz hR hC
    have hpc : (lkV q).length ≤ 25 ∧ InB (lkV q) ∧ (lkV q).Nodup := ⟨lk_small hrec, lk_inB hrec, lk_nodup q⟩
    by_cases hb0 : boundV (lkV q) = []
    · rw [if_pos hb0] at hF
      subst hF
      replace hnl := And.intro hnl (And.intro hb0 boolsF)
      repeat (first | (refine tri_mid hE 2 (by kernel_rfl) ?_; simp only [List.length_cons, List.length_nil, Nat.reduceAdd, Nat.reduceSub, List.take_succ_cons, List.take_zero, List.drop_succ_cons, List.drop_zero]; simp +contextual only [hnl, ↓kN, ↓kP, ↓kG, ↓qN, ↓qP, ↓qG, push_cast, Int.reduceEq, Int.reduceLT, Int.reduceLE, Int.reduceNeg, Nat.reduceLT, Nat.reduceLeDiff, Int.reduceToNat, Int.cast_ofNat_Int, Nat.reduceBEq, Nat.reduceMul, Nat.reduceEqDiff, reduceCtorEq, Nat.reduceAdd]; refine And.intro hrec (StopF.h ?_)) | (first|(refine goK (by assumption) ?_; iterate 4 (try clear hK K))|(refine tri_seqk fun K hK => ?_)|((first|refine tri_region hE rfl ?_|refine tri_ret ?_|((first|refine tri_drawP hE 1 rfl rfl (by kernel_rfl) ?_|refine tri_drawP hE 2 rfl rfl (by kernel_rfl) ?_|refine tri_drawP hE 3 rfl rfl (by kernel_rfl) ?_|refine tri_drawP hE 4 rfl rfl (by kernel_rfl) ?_); simp only [List.length_cons, List.length_nil, Nat.reduceAdd, Nat.reduceSub, List.take_succ_cons, List.take_zero, List.drop_succ_cons, List.drop_zero])); simp +contextual only [hnl, ↓kN, ↓kP, ↓kG, ↓qN, ↓qP, ↓qG, push_cast, Int.reduceEq, Int.reduceLT, Int.reduceLE, Int.reduceNeg, Nat.reduceLT, Nat.reduceLeDiff, Int.reduceToNat, Int.cast_ofNat_Int, Nat.reduceBEq, Nat.reduceMul, Nat.reduceEqDiff, reduceCtorEq, Nat.reduceAdd])|refine tri_block ?_|((first|refine tri_skip ?_|refine tri_exit ?_); simp only [thenQ, blockQ, if_true, if_false, Nat.reduceEqDiff, reduceCtorEq])|(refine tri_cond (by rfl) (fun hb => ?_) (fun hb => ?_) <;> (try simp only [decide_eq_true_eq, decide_eq_false_iff_not, Bool.not_eq_true', Bool.not_eq_false', reduceCtorEq, Bool.true_eq_false, Bool.false_eq_true] at hb) <;> (try omega))|refine tri_unk (by rfl) ?_ ?_|refine And.intro (by first|omega|(unfold InR; omega)|assumption|decide|exact ⟨_, _, rfl⟩) ?_|(refine ⟨fun hc => ?_, fun hc => ?_⟩)|(intro hc; try omega)))
      refine StopF.mk (MidQ.mk' (AS.of [(5, .one (.ref 17)), (19, .one (.val (.sl (.prod .int .int)) (lkV (forestV p))))] [(17, .deep 33 3 .int (forestV p))] []) ?_ ?_)
      · refine weak_of ?_ ?_ ?_ <;> simp only [push_cast, Int.reduceEq, Int.reduceLT, Int.reduceLE, Int.reduceNeg, Nat.reduceLT, Nat.reduceLeDiff, Int.reduceToNat, Int.cast_ofNat_Int, Nat.reduceBEq, Nat.reduceMul, Nat.reduceEqDiff, reduceCtorEq, Nat.reduceAdd]
      · simp +contextual only [hnl, ↓kN, ↓kP, ↓kG, ↓qN, ↓qP, ↓qG, push_cast, Int.reduceEq, Int.reduceLT, Int.reduceLE, Int.reduceNeg, Nat.reduceLT, Nat.reduceLeDiff, Int.reduceToNat, Int.cast_ofNat_Int, Nat.reduceBEq, Nat.reduceMul, Nat.reduceEqDiff, reduceCtorEq, Nat.reduceAdd]
        try refine ⟨hpc, ?_⟩
        repeat' (first|(refine goK (by assumption) ?_; iterate 4 (try clear hK K))|(refine tri_seqk fun K hK => ?_)|((first|refine tri_region hE rfl ?_|refine tri_ret ?_|((first|refine tri_drawP hE 1 rfl rfl (by kernel_rfl) ?_|refine tri_drawP hE 2 rfl rfl (by kernel_rfl) ?_|refine tri_drawP hE 3 rfl rfl (by kernel_rfl) ?_|refine tri_drawP hE 4 rfl rfl (by kernel_rfl) ?_); simp only [List.length_cons, List.length_nil, Nat.reduceAdd, Nat.reduceSub, List.take_succ_cons, List.take_zero, List.drop_succ_cons, List.drop_zero])); simp +contextual only [hnl, ↓kN, ↓kP, ↓kG, ↓qN, ↓qP, ↓qG, push_cast, Int.reduceEq, Int.reduceLT, Int.reduceLE, Int.reduceNeg, Nat.reduceLT, Nat.reduceLeDiff, Int.reduceToNat, Int.cast_ofNat_Int, Nat.reduceBEq, Nat.reduceMul, Nat.reduceEqDiff, reduceCtorEq, Nat.reduceAdd])|refine tri_block ?_|((first|refine tri_skip ?_|refine tri_exit ?_); simp only [thenQ, blockQ, if_true, if_false, Nat.reduceEqDiff, reduceCtorEq])|(refine tri_cond (by rfl) (fun hb => ?_) (fun hb => ?_) <;> (try simp only [decide_eq_true_eq, decide_eq_false_iff_not, Bool.not_eq_true', Bool.not_eq_false', reduceCtorEq, Bool.true_eq_false, Bool.false_eq_true] at hb) <;> (try omega))|refine tri_unk (by rfl) ?_ ?_|refine And.intro (by first|omega|(unfold InR; omega)|assumption|decide|exact ⟨_, _, rfl⟩) ?_|(refine ⟨fun hc => ?_, fun hc => ?_⟩)|(intro hc; try omega))
        refine ⟨⟨_, rfl⟩, ?_⟩
        repeat' (first|(refine goK (by assumption) ?_; iterate 4 (try clear hK K))|(refine tri_seqk fun K hK => ?_)|((first|refine tri_region hE rfl ?_|refine tri_ret ?_|((first|refine tri_drawP hE 1 rfl rfl (by kernel_rfl) ?_|refine tri_drawP hE 2 rfl rfl (by kernel_rfl) ?_|refine tri_drawP hE 3 rfl rfl (by kernel_rfl) ?_|refine tri_drawP hE 4 rfl rfl (by kernel_rfl) ?_); simp only [List.length_cons, List.length_nil, Nat.reduceAdd, Nat.reduceSub, List.take_succ_cons, List.take_zero, List.drop_succ_cons, List.drop_zero])); simp +contextual only [hnl, ↓kN, ↓kP, ↓kG, ↓qN, ↓qP, ↓qG, push_cast, Int.reduceEq, Int.reduceLT, Int.reduceLE, Int.reduceNeg, Nat.reduceLT, Nat.reduceLeDiff, Int.reduceToNat, Int.cast_ofNat_Int, Nat.reduceBEq, Nat.reduceMul, Nat.reduceEqDiff, reduceCtorEq, Nat.reduceAdd])|refine tri_block ?_|((first|refine tri_skip ?_|refine tri_exit ?_); simp only [thenQ, blockQ, if_true, if_false, Nat.reduceEqDiff, reduceCtorEq])|(refine tri_cond (by rfl) (fun hb => ?_) (fun hb => ?_) <;> (try simp only [decide_eq_true_eq, decide_eq_false_iff_not, Bool.not_eq_true', Bool.not_eq_false', reduceCtorEq, Bool.true_eq_false, Bool.false_eq_true] at hb) <;> (try omega))|refine tri_unk (by rfl) ?_ ?_|refine And.intro (by first|omega|(unfold InR; omega)|assumption|decide|exact ⟨_, _, rfl⟩) ?_|(refine ⟨fun hc => ?_, fun hc => ?_⟩)|(intro hc; try omega))
        all_goals trace_state
    · rw [if_neg hb0] at hF
      obtain ⟨⟨b, hr⟩, hlk⟩ := fo_round hI.sz hR hC hb0
      have hstep := step_ok hI.sz hI.nn hR hC hb0
      have hless := numL_less hstep
      have hrp := hr.pos
      have hre := hr.ev
      obtain ⟨r, hrr⟩ : ∃ r, r = roundV (lkV q) := ⟨_, rfl⟩
      have hst : stepF q = turnT q r (leastR q r (r.length / 2)) r.length := by rw [hrr]; rfl
      have hrl : r.length ≤ 2003 := by rw [hrr]; exact roundV_len hpc.2.2 hpc.2.1
      rw [← hrr] at hr hrp hre
      have hlt : ∀ t, t < r.length → ∃ i j : Nat, i < p.length ∧ j < wid p ∧ r.getD t (0, 0) = ((i : Int), (j : Int)) := fun t ht => by
        obtain ⟨i, j, hi, hj, e, _⟩ := hlk _ (hr.mem t ht)
        exact ⟨i, j, hi, hj, e⟩
      have hcell : ∀ t, t < r.length → 0 ≤ (r.getD t (0, 0)).1 ∧ (r.getD t (0, 0)).1 < p.length ∧ 0 ≤ (r.getD t (0, 0)).2 ∧ (r.getD t (0, 0)).2 < wid p := fun t ht => by
        obtain ⟨i, j, hi, hj, e⟩ := hlt t ht
        rw [e]; dsimp only; omega
      have hql := hI.sz.rows
      have hqw : ∀ t, t < r.length → (q.getD (r.getD t (0, 0)).1.toNat []).length = wid p := fun t ht => hI.sz.cols _ (by have := hcell t ht; omega)
      have hb75 : ∀ i j, i < p.length → j < wid p → 0 ≤ gt q i j ∧ gt q i j ≤ 750 := fun i j hi hj => ⟨hI.nn i j hi hj, hI.le h1 hi hj⟩
      have hcv : ∀ t, t < r.length → 0 ≤ cellV q (r.getD t (0, 0)) ∧ cellV q (r.getD t (0, 0)) ≤ 750 := fun t ht => hb75 _ _ (by have := hcell t ht; omega) (by have := hcell t ht; omega)
      have hlb : ∀ k, k ≤ r.length / 2 → 0 ≤ leastR q r k ∧ leastR q r k ≤ 750 := fun k hk => by
        obtain ⟨t, g1, g2⟩ := least_is (q := q) (r := r) k
        rw [g2]
        exact hcv _ (by omega)
      obtain ⟨x0, r1, hrc⟩ : ∃ x0 r1, r = x0 :: r1 := by
        cases r with
        | nil => simp at hrp
        | cons x0 r1 => exact ⟨x0, r1, rfl⟩
      have hrV : roundV (lkV q) = x0 :: r1 := by rw [← hrr, hrc]
      have hnl0 := hnl
      replace hnl := And.intro hnl (And.intro (eq_false hb0) (And.intro hrV boolsF))
      repeat (first | (refine tri_mid hE 2 (by kernel_rfl) ?_; simp only [List.length_cons, List.length_nil, Nat.reduceAdd, Nat.reduceSub, List.take_succ_cons, List.take_zero, List.drop_succ_cons, List.drop_zero]; simp +contextual only [hnl, ↓kN, ↓kP, ↓kG, ↓qN, ↓qP, ↓qG, push_cast, Int.reduceEq, Int.reduceLT, Int.reduceLE, Int.reduceNeg, Nat.reduceLT, Nat.reduceLeDiff, Int.reduceToNat, Int.cast_ofNat_Int, Nat.reduceBEq, Nat.reduceMul, Nat.reduceEqDiff, reduceCtorEq, Nat.reduceAdd]; refine And.intro hrec (StopF.h ?_)) | (first|(refine goK (by assumption) ?_; iterate 4 (try clear hK K))|(refine tri_seqk fun K hK => ?_)|((first|refine tri_region hE rfl ?_|refine tri_ret ?_|((first|refine tri_drawP hE 1 rfl rfl (by kernel_rfl) ?_|refine tri_drawP hE 2 rfl rfl (by kernel_rfl) ?_|refine tri_drawP hE 3 rfl rfl (by kernel_rfl) ?_|refine tri_drawP hE 4 rfl rfl (by kernel_rfl) ?_); simp only [List.length_cons, List.length_nil, Nat.reduceAdd, Nat.reduceSub, List.take_succ_cons, List.take_zero, List.drop_succ_cons, List.drop_zero])); simp +contextual only [hnl, ↓kN, ↓kP, ↓kG, ↓qN, ↓qP, ↓qG, push_cast, Int.reduceEq, Int.reduceLT, Int.reduceLE, Int.reduceNeg, Nat.reduceLT, Nat.reduceLeDiff, Int.reduceToNat, Int.cast_ofNat_Int, Nat.reduceBEq, Nat.reduceMul, Nat.reduceEqDiff, reduceCtorEq, Nat.reduceAdd])|refine tri_block ?_|((first|refine tri_skip ?_|refine tri_exit ?_); simp only [thenQ, blockQ, if_true, if_false, Nat.reduceEqDiff, reduceCtorEq])|(refine tri_cond (by rfl) (fun hb => ?_) (fun hb => ?_) <;> (try simp only [decide_eq_true_eq, decide_eq_false_iff_not, Bool.not_eq_true', Bool.not_eq_false', reduceCtorEq, Bool.true_eq_false, Bool.false_eq_true] at hb) <;> (try omega))|refine tri_unk (by rfl) ?_ ?_|refine And.intro (by first|omega|(unfold InR; omega)|assumption|decide|exact ⟨_, _, rfl⟩) ?_|(refine ⟨fun hc => ?_, fun hc => ?_⟩)|(intro hc; try omega)))
      refine StopF.mk (MidQ.mk' (AS.of [(5, .one (.ref 17)), (19, .one (.val (.sl (.prod .int .int)) (lkV q)))] [(17, .deep 33 3 .int q)] []) ?_ ?_)
      · refine weak_of ?_ ?_ ?_ <;> simp only [push_cast, Int.reduceEq, Int.reduceLT, Int.reduceLE, Int.reduceNeg, Nat.reduceLT, Nat.reduceLeDiff, Int.reduceToNat, Int.cast_ofNat_Int, Nat.reduceBEq, Nat.reduceMul, Nat.reduceEqDiff, reduceCtorEq, Nat.reduceAdd]
      · simp +contextual only [hnl, ↓kN, ↓kP, ↓kG, ↓qN, ↓qP, ↓qG, push_cast, Int.reduceEq, Int.reduceLT, Int.reduceLE, Int.reduceNeg, Nat.reduceLT, Nat.reduceLeDiff, Int.reduceToNat, Int.cast_ofNat_Int, Nat.reduceBEq, Nat.reduceMul, Nat.reduceEqDiff, reduceCtorEq, Nat.reduceAdd]
        try refine ⟨hpc, ?_⟩
        repeat (first | (refine tri_weak (t := AS.of [(5, .one (.ref 17)), (6, .one (.val (.sl (.prod .int .int)) r)), (22, SV.B false)] [(17, .deep 33 3 .int q)] []) ?_ (StopF.h ?_); · (refine weak_of ?_ ?_ ?_ <;> simp only [push_cast, Int.reduceEq, Int.reduceLT, Int.reduceLE, Int.reduceNeg, Nat.reduceLT, Nat.reduceLeDiff, Int.reduceToNat, Int.cast_ofNat_Int, Nat.reduceBEq, Nat.reduceMul, Nat.reduceEqDiff, reduceCtorEq, Nat.reduceAdd]; first | done | exact hrc.symm | exact hrc)) | (first|(refine goK (by assumption) ?_; iterate 4 (try clear hK K))|(refine tri_seqk fun K hK => ?_)|((first|refine tri_region hE rfl ?_|refine tri_ret ?_|((first|refine tri_drawP hE 1 rfl rfl (by kernel_rfl) ?_|refine tri_drawP hE 2 rfl rfl (by kernel_rfl) ?_|refine tri_drawP hE 3 rfl rfl (by kernel_rfl) ?_|refine tri_drawP hE 4 rfl rfl (by kernel_rfl) ?_); simp only [List.length_cons, List.length_nil, Nat.reduceAdd, Nat.reduceSub, List.take_succ_cons, List.take_zero, List.drop_succ_cons, List.drop_zero])); simp +contextual only [hnl, ↓kN, ↓kP, ↓kG, ↓qN, ↓qP, ↓qG, push_cast, Int.reduceEq, Int.reduceLT, Int.reduceLE, Int.reduceNeg, Nat.reduceLT, Nat.reduceLeDiff, Int.reduceToNat, Int.cast_ofNat_Int, Nat.reduceBEq, Nat.reduceMul, Nat.reduceEqDiff, reduceCtorEq, Nat.reduceAdd])|refine tri_block ?_|((first|refine tri_skip ?_|refine tri_exit ?_); simp only [thenQ, blockQ, if_true, if_false, Nat.reduceEqDiff, reduceCtorEq])|(refine tri_cond (by rfl) (fun hb => ?_) (fun hb => ?_) <;> (try simp only [decide_eq_true_eq, decide_eq_false_iff_not, Bool.not_eq_true', Bool.not_eq_false', reduceCtorEq, Bool.true_eq_false, Bool.false_eq_true] at hb) <;> (try omega))|refine tri_unk (by rfl) ?_ ?_|refine And.intro (by first|omega|(unfold InR; omega)|assumption|decide|exact ⟨_, _, rfl⟩) ?_|(refine ⟨fun hc => ?_, fun hc => ?_⟩)|(intro hc; try omega)))
        refine StopF.mk ?_
        have c0 := hcell 0 hrp
        have w0 := hqw 0 hrp
        have l0 : (q.getD (r.getD 0 (0, 0)).1.toNat []).getD (r.getD 0 (0, 0)).2.toNat 0 = leastR q r 0 := rfl
        replace hnl := And.intro hnl0 (And.intro hql (And.intro w0 l0))
        repeat' (first|(refine goK (by assumption) ?_; iterate 4 (try clear hK K))|(refine tri_seqk fun K hK => ?_)|((first|refine tri_region hE rfl ?_|refine tri_ret ?_|((first|refine tri_drawP hE 1 rfl rfl (by kernel_rfl) ?_|refine tri_drawP hE 2 rfl rfl (by kernel_rfl) ?_|refine tri_drawP hE 3 rfl rfl (by kernel_rfl) ?_|refine tri_drawP hE 4 rfl rfl (by kernel_rfl) ?_); simp only [List.length_cons, List.length_nil, Nat.reduceAdd, Nat.reduceSub, List.take_succ_cons, List.take_zero, List.drop_succ_cons, List.drop_zero])); simp +contextual only [hnl, ↓kN, ↓kP, ↓kG, ↓qN, ↓qP, ↓qG, push_cast, Int.reduceEq, Int.reduceLT, Int.reduceLE, Int.reduceNeg, Nat.reduceLT, Nat.reduceLeDiff, Int.reduceToNat, Int.cast_ofNat_Int, Nat.reduceBEq, Nat.reduceMul, Nat.reduceEqDiff, reduceCtorEq, Nat.reduceAdd])|refine tri_block ?_|((first|refine tri_skip ?_|refine tri_exit ?_); simp only [thenQ, blockQ, if_true, if_false, Nat.reduceEqDiff, reduceCtorEq])|(refine tri_cond (by rfl) (fun hb => ?_) (fun hb => ?_) <;> (try simp only [decide_eq_true_eq, decide_eq_false_iff_not, Bool.not_eq_true', Bool.not_eq_false', reduceCtorEq, Bool.true_eq_false, Bool.false_eq_true] at hb) <;> (try omega))|refine tri_unk (by rfl) ?_ ?_|refine And.intro (by first|omega|(unfold InR; omega)|assumption|decide|exact ⟨_, _, rfl⟩) ?_|(refine ⟨fun hc => ?_, fun hc => ?_⟩)|(intro hc; try omega))
        refine tri_loopI (fun k : Nat => AS.of [(5, .one (.ref 17)), (6, .one (.val (.sl (.prod .int .int)) r)), (7, .I (leastR q r k)), (8, .I (2 * (k : Int)))] [(17, .deep 33 3 .int q)] []) (fun k => k ≤ r.length / 2) (fun k => r.length / 2 - k) 0 (Nat.zero_le _) ?_ ?_
        · refine weak_of ?_ ?_ ?_ <;> simp only [push_cast, Int.reduceEq, Int.reduceLT, Int.reduceLE, Int.reduceNeg, Nat.reduceLT, Nat.reduceLeDiff, Int.reduceToNat, Int.cast_ofNat_Int, Nat.reduceBEq, Nat.reduceMul, Nat.reduceEqDiff, reduceCtorEq, Nat.reduceAdd]
          all_goals first | rfl | trace_state
        intro k hk K2 hL2
        by_cases hkl : 2 * k < r.length
        · have c1 := hcell (2 * k) hkl
          have w1 := hqw (2 * k) hkl
          have l1 : (q.getD (r.getD (2 * k) (0, 0)).1.toNat []).getD (r.getD (2 * k) (0, 0)).2.toNat 0 = cellV q (r.getD (2 * k) (0, 0)) := rfl
          have e1 : (2 * (k : Int)).toNat = 2 * k := by omega
          replace hnl := And.intro hnl0 (And.intro hql (And.intro w1 (And.intro l1 e1)))
          repeat' (first|(refine goK (by assumption) ?_; iterate 4 (try clear hK K))|(refine tri_seqk fun K hK => ?_)|((first|refine tri_region hE rfl ?_|refine tri_ret ?_|((first|refine tri_drawP hE 1 rfl rfl (by kernel_rfl) ?_|refine tri_drawP hE 2 rfl rfl (by kernel_rfl) ?_|refine tri_drawP hE 3 rfl rfl (by kernel_rfl) ?_|refine tri_drawP hE 4 rfl rfl (by kernel_rfl) ?_); simp only [List.length_cons, List.length_nil, Nat.reduceAdd, Nat.reduceSub, List.take_succ_cons, List.take_zero, List.drop_succ_cons, List.drop_zero])); simp +contextual only [hnl, ↓kN, ↓kP, ↓kG, ↓qN, ↓qP, ↓qG, push_cast, Int.reduceEq, Int.reduceLT, Int.reduceLE, Int.reduceNeg, Nat.reduceLT, Nat.reduceLeDiff, Int.reduceToNat, Int.cast_ofNat_Int, Nat.reduceBEq, Nat.reduceMul, Nat.reduceEqDiff, reduceCtorEq, Nat.reduceAdd])|refine tri_block ?_|((first|refine tri_skip ?_|refine tri_exit ?_); simp only [thenQ, blockQ, if_true, if_false, Nat.reduceEqDiff, reduceCtorEq])|(refine tri_cond (by rfl) (fun hb => ?_) (fun hb => ?_) <;> (try simp only [decide_eq_true_eq, decide_eq_false_iff_not, Bool.not_eq_true', Bool.not_eq_false', reduceCtorEq, Bool.true_eq_false, Bool.false_eq_true] at hb) <;> (try omega))|refine tri_unk (by rfl) ?_ ?_|refine And.intro (by first|omega|(unfold InR; omega)|assumption|decide|exact ⟨_, _, rfl⟩) ?_|(refine ⟨fun hc => ?_, fun hc => ?_⟩)|(intro hc; try omega))
          all_goals first | (exfalso; omega) | refine hL2 _ (k + 1) (by omega) (by omega) ?_
          all_goals refine weak_of ?_ ?_ ?_ <;> simp only [push_cast, Int.reduceEq, Int.reduceLT, Int.reduceLE, Int.reduceNeg, Nat.reduceLT, Nat.reduceLeDiff, Int.reduceToNat, Int.cast_ofNat_Int, Nat.reduceBEq, Nat.reduceMul, Nat.reduceEqDiff, reduceCtorEq, Nat.reduceAdd]
          all_goals exact ⟨rfl, (Int.mul_add 2 (k : Int) 1).symm⟩
        · obtain rfl : k = r.length / 2 := by omega
          replace hnl := hnl0
          repeat' (first|(refine goK (by assumption) ?_; iterate 4 (try clear hK K))|(refine tri_seqk fun K hK => ?_)|((first|refine tri_region hE rfl ?_|refine tri_ret ?_|((first|refine tri_drawP hE 1 rfl rfl (by kernel_rfl) ?_|refine tri_drawP hE 2 rfl rfl (by kernel_rfl) ?_|refine tri_drawP hE 3 rfl rfl (by kernel_rfl) ?_|refine tri_drawP hE 4 rfl rfl (by kernel_rfl) ?_); simp only [List.length_cons, List.length_nil, Nat.reduceAdd, Nat.reduceSub, List.take_succ_cons, List.take_zero, List.drop_succ_cons, List.drop_zero])); simp +contextual only [hnl, ↓kN, ↓kP, ↓kG, ↓qN, ↓qP, ↓qG, push_cast, Int.reduceEq, Int.reduceLT, Int.reduceLE, Int.reduceNeg, Nat.reduceLT, Nat.reduceLeDiff, Int.reduceToNat, Int.cast_ofNat_Int, Nat.reduceBEq, Nat.reduceMul, Nat.reduceEqDiff, reduceCtorEq, Nat.reduceAdd])|refine tri_block ?_|((first|refine tri_skip ?_|refine tri_exit ?_); simp only [thenQ, blockQ, if_true, if_false, Nat.reduceEqDiff, reduceCtorEq])|(refine tri_cond (by rfl) (fun hb => ?_) (fun hb => ?_) <;> (try simp only [decide_eq_true_eq, decide_eq_false_iff_not, Bool.not_eq_true', Bool.not_eq_false', reduceCtorEq, Bool.true_eq_false, Bool.false_eq_true] at hb) <;> (try omega))|refine tri_unk (by rfl) ?_ ?_|refine And.intro (by first|omega|(unfold InR; omega)|assumption|decide|exact ⟨_, _, rfl⟩) ?_|(refine ⟨fun hc => ?_, fun hc => ?_⟩)|(intro hc; try omega))
          obtain ⟨d, hd⟩ : ∃ d, d = leastR q r (r.length / 2) := ⟨_, rfl⟩
          have hdb : 0 ≤ d ∧ d ≤ 750 := by rw [hd]; exact hlb _ (Nat.le_refl _)
          rw [← hd] at hst
          refine tri_loopI (fun j : Nat => AS.of [(5, .one (.ref 17)), (7, .I d), (60, .one (.val (.sl (.prod .int .int)) r)), (61, .I (r.length : Nat)), (62, .I (j : Nat))] [(17, .deep 33 3 .int (turnT q r d j))] []) (fun j => j ≤ r.length) (fun j => r.length - j) 0 (Nat.zero_le _) ?_ ?_
          · refine weak_of ?_ ?_ ?_ <;> simp only [push_cast, Int.reduceEq, Int.reduceLT, Int.reduceLE, Int.reduceNeg, Nat.reduceLT, Nat.reduceLeDiff, Int.reduceToNat, Int.cast_ofNat_Int, Nat.reduceBEq, Nat.reduceMul, Nat.reduceEqDiff, reduceCtorEq, Nat.reduceAdd]
            all_goals first | exact hd.symm | exact .inl rfl | trace_state
          intro j hj K3 hL3
          rcases Nat.lt_or_ge j r.length with hjl | hjl
          · have c1 := hcell j hjl
            obtain ⟨t1, t2⟩ := turn_sz (d := d) hI.sz hlt j hj
            have b1 := turn_bnd hI.sz hdb hb75 hlt j hj (r.getD j (0, 0)).1.toNat (r.getD j (0, 0)).2.toNat (by omega) (by omega)
            have w1 := t1.cols (r.getD j (0, 0)).1.toNat (by omega)
            have w2 := t1.rows
            have l1 : ((turnT q r d j).getD (r.getD j (0, 0)).1.toNat []).getD (r.getD j (0, 0)).2.toNat 0 = gt (turnT q r d j) (r.getD j (0, 0)).1.toNat (r.getD j (0, 0)).2.toNat := rfl
            by_cases he : (j : Int).tmod 2 = 0
            · have e1 : turnT q r d (j + 1) = (turnT q r d j).set (r.getD j (0, 0)).1.toNat (((turnT q r d j).getD (r.getD j (0, 0)).1.toNat []).set (r.getD j (0, 0)).2.toNat (gt (turnT q r d j) (r.getD j (0, 0)).1.toNat (r.getD j (0, 0)).2.toNat - d)) := by
                show setC _ _ (_ + _) = _
                rw [if_pos (by rw [Int.tmod_eq_emod_of_nonneg (by omega)] at he; omega), Int.add_neg_eq_sub]
                rfl
              replace hnl := And.intro hnl0 (And.intro w1 (And.intro w2 (And.intro l1 he)))
              repeat' (first|(refine goK (by assumption) ?_; iterate 4 (try clear hK K))|(refine tri_seqk fun K hK => ?_)|((first|refine tri_region hE rfl ?_|refine tri_ret ?_|((first|refine tri_drawP hE 1 rfl rfl (by kernel_rfl) ?_|refine tri_drawP hE 2 rfl rfl (by kernel_rfl) ?_|refine tri_drawP hE 3 rfl rfl (by kernel_rfl) ?_|refine tri_drawP hE 4 rfl rfl (by kernel_rfl) ?_); simp only [List.length_cons, List.length_nil, Nat.reduceAdd, Nat.reduceSub, List.take_succ_cons, List.take_zero, List.drop_succ_cons, List.drop_zero])); simp +contextual only [hnl, ↓kN, ↓kP, ↓kG, ↓qN, ↓qP, ↓qG, push_cast, Int.reduceEq, Int.reduceLT, Int.reduceLE, Int.reduceNeg, Nat.reduceLT, Nat.reduceLeDiff, Int.reduceToNat, Int.cast_ofNat_Int, Nat.reduceBEq, Nat.reduceMul, Nat.reduceEqDiff, reduceCtorEq, Nat.reduceAdd])|refine tri_block ?_|((first|refine tri_skip ?_|refine tri_exit ?_); simp only [thenQ, blockQ, if_true, if_false, Nat.reduceEqDiff, reduceCtorEq])|(refine tri_cond (by rfl) (fun hb => ?_) (fun hb => ?_) <;> (try simp only [decide_eq_true_eq, decide_eq_false_iff_not, Bool.not_eq_true', Bool.not_eq_false', reduceCtorEq, Bool.true_eq_false, Bool.false_eq_true] at hb) <;> (try omega))|refine tri_unk (by rfl) ?_ ?_|refine And.intro (by first|omega|(unfold InR; omega)|assumption|decide|exact ⟨_, _, rfl⟩) ?_|(refine ⟨fun hc => ?_, fun hc => ?_⟩)|(intro hc; try omega))
              all_goals first | (exfalso; omega) | refine hL3 _ (j + 1) (by omega) (by omega) ?_
              all_goals rw [e1]
              all_goals refine weak_of ?_ ?_ ?_ <;> simp only [push_cast, Int.reduceEq, Int.reduceLT, Int.reduceLE, Int.reduceNeg, Nat.reduceLT, Nat.reduceLeDiff, Int.reduceToNat, Int.cast_ofNat_Int, Nat.reduceBEq, Nat.reduceMul, Nat.reduceEqDiff, reduceCtorEq, Nat.reduceAdd]
              all_goals trace_state
            · have e1 : turnT q r d (j + 1) = (turnT q r d j).set (r.getD j (0, 0)).1.toNat (((turnT q r d j).getD (r.getD j (0, 0)).1.toNat []).set (r.getD j (0, 0)).2.toNat (gt (turnT q r d j) (r.getD j (0, 0)).1.toNat (r.getD j (0, 0)).2.toNat + d)) := by
                show setC _ _ (_ + _) = _
                rw [if_neg (by rw [Int.tmod_eq_emod_of_nonneg (by omega)] at he; omega)]
                rfl
              replace hnl := And.intro hnl0 (And.intro w1 (And.intro w2 (And.intro l1 (eq_false he))))
              repeat' (first|(refine goK (by assumption) ?_; iterate 4 (try clear hK K))|(refine tri_seqk fun K hK => ?_)|((first|refine tri_region hE rfl ?_|refine tri_ret ?_|((first|refine tri_drawP hE 1 rfl rfl (by kernel_rfl) ?_|refine tri_drawP hE 2 rfl rfl (by kernel_rfl) ?_|refine tri_drawP hE 3 rfl rfl (by kernel_rfl) ?_|refine tri_drawP hE 4 rfl rfl (by kernel_rfl) ?_); simp only [List.length_cons, List.length_nil, Nat.reduceAdd, Nat.reduceSub, List.take_succ_cons, List.take_zero, List.drop_succ_cons, List.drop_zero])); simp +contextual only [hnl, ↓kN, ↓kP, ↓kG, ↓qN, ↓qP, ↓qG, push_cast, Int.reduceEq, Int.reduceLT, Int.reduceLE, Int.reduceNeg, Nat.reduceLT, Nat.reduceLeDiff, Int.reduceToNat, Int.cast_ofNat_Int, Nat.reduceBEq, Nat.reduceMul, Nat.reduceEqDiff, reduceCtorEq, Nat.reduceAdd])|refine tri_block ?_|((first|refine tri_skip ?_|refine tri_exit ?_); simp only [thenQ, blockQ, if_true, if_false, Nat.reduceEqDiff, reduceCtorEq])|(refine tri_cond (by rfl) (fun hb => ?_) (fun hb => ?_) <;> (try simp only [decide_eq_true_eq, decide_eq_false_iff_not, Bool.not_eq_true', Bool.not_eq_false', reduceCtorEq, Bool.true_eq_false, Bool.false_eq_true] at hb) <;> (try omega))|refine tri_unk (by rfl) ?_ ?_|refine And.intro (by first|omega|(unfold InR; omega)|assumption|decide|exact ⟨_, _, rfl⟩) ?_|(refine ⟨fun hc => ?_, fun hc => ?_⟩)|(intro hc; try omega))
              all_goals first | (exfalso; omega) | refine hL3 _ (j + 1) (by omega) (by omega) ?_
              all_goals rw [e1]
              all_goals refine weak_of ?_ ?_ ?_ <;> simp only [push_cast, Int.reduceEq, Int.reduceLT, Int.reduceLE, Int.reduceNeg, Nat.reduceLT, Nat.reduceLeDiff, Int.reduceToNat, Int.cast_ofNat_Int, Nat.reduceBEq, Nat.reduceMul, Nat.reduceEqDiff, reduceCtorEq, Nat.reduceAdd]
              all_goals trace_state
          · obtain rfl : j = r.length := by omega
            replace hnl := hnl0
            repeat' (first|(refine goK (by assumption) ?_; iterate 4 (try clear hK K))|(refine tri_seqk fun K hK => ?_)|((first|refine tri_region hE rfl ?_|refine tri_ret ?_|((first|refine tri_drawP hE 1 rfl rfl (by kernel_rfl) ?_|refine tri_drawP hE 2 rfl rfl (by kernel_rfl) ?_|refine tri_drawP hE 3 rfl rfl (by kernel_rfl) ?_|refine tri_drawP hE 4 rfl rfl (by kernel_rfl) ?_); simp only [List.length_cons, List.length_nil, Nat.reduceAdd, Nat.reduceSub, List.take_succ_cons, List.take_zero, List.drop_succ_cons, List.drop_zero])); simp +contextual only [hnl, ↓kN, ↓kP, ↓kG, ↓qN, ↓qP, ↓qG, push_cast, Int.reduceEq, Int.reduceLT, Int.reduceLE, Int.reduceNeg, Nat.reduceLT, Nat.reduceLeDiff, Int.reduceToNat, Int.cast_ofNat_Int, Nat.reduceBEq, Nat.reduceMul, Nat.reduceEqDiff, reduceCtorEq, Nat.reduceAdd])|refine tri_block ?_|((first|refine tri_skip ?_|refine tri_exit ?_); simp only [thenQ, blockQ, if_true, if_false, Nat.reduceEqDiff, reduceCtorEq])|(refine tri_cond (by rfl) (fun hb => ?_) (fun hb => ?_) <;> (try simp only [decide_eq_true_eq, decide_eq_false_iff_not, Bool.not_eq_true', Bool.not_eq_false', reduceCtorEq, Bool.true_eq_false, Bool.false_eq_true] at hb) <;> (try omega))|refine tri_unk (by rfl) ?_ ?_|refine And.intro (by first|omega|(unfold InR; omega)|assumption|decide|exact ⟨_, _, rfl⟩) ?_|(refine ⟨fun hc => ?_, fun hc => ?_⟩)|(intro hc; try omega))
            refine hL _ (n, stepF q) ⟨hI.turn hstep, hF, by show numL _ _ (stepF q) < (n : Int); omega⟩ (Nat.lt_succ_self n) ?_
            rw [hst]
            refine weak_of ?_ ?_ ?_ <;> simp only [push_cast, Int.reduceEq, Int.reduceLT, Int.reduceLE, Int.reduceNeg, Nat.reduceLT, Nat.reduceLeDiff, Int.reduceToNat, Int.cast_ofNat_Int, Nat.reduceBEq, Nat.reduceMul, Nat.reduceEqDiff, reduceCtorEq, Nat.reduceAdd]
            all_goals trace_state
  · rw [if_neg h]
    replace hnl := And.intro hnl (eq_false h)
    repeat' (first|(refine goK (by assumption) ?_; iterate 4 (try clear hK K))|(refine tri_seqk fun K hK => ?_)|((first|refine tri_region hE rfl ?_|refine tri_ret ?_|((first|refine tri_drawP hE 1 rfl rfl (by kernel_rfl) ?_|refine tri_drawP hE 2 rfl rfl (by kernel_rfl) ?_|refine tri_drawP hE 3 rfl rfl (by kernel_rfl) ?_|refine tri_drawP hE 4 rfl rfl (by kernel_rfl) ?_); simp only [List.length_cons, List.length_nil, Nat.reduceAdd, Nat.reduceSub, List.take_succ_cons, List.take_zero, List.drop_succ_cons, List.drop_zero])); simp +contextual only [hnl, ↓kN, ↓kP, ↓kG, ↓qN, ↓qP, ↓qG, push_cast, Int.reduceEq, Int.reduceLT, Int.reduceLE, Int.reduceNeg, Nat.reduceLT, Nat.reduceLeDiff, Int.reduceToNat, Int.cast_ofNat_Int, Nat.reduceBEq, Nat.reduceMul, Nat.reduceEqDiff, reduceCtorEq, Nat.reduceAdd])|refine tri_block ?_|((first|refine tri_skip ?_|refine tri_exit ?_); simp only [thenQ, blockQ, if_true, if_false, Nat.reduceEqDiff, reduceCtorEq])|(refine tri_cond (by rfl) (fun hb => ?_) (fun hb => ?_) <;> (try simp only [decide_eq_true_eq, decide_eq_false_iff_not, Bool.not_eq_true', Bool.not_eq_false', reduceCtorEq, Bool.true_eq_false, Bool.false_eq_true] at hb) <;> (try omega))|refine tri_unk (by rfl) ?_ ?_|refine And.intro (by first|omega|(unfold InR; omega)|assumption|decide|exact ⟨_, _, rfl⟩) ?_|(refine ⟨fun hc => ?_, fun hc => ?_⟩)|(intro hc; try omega))
end Go.Proofs.Ytloipnalmkdldaa
