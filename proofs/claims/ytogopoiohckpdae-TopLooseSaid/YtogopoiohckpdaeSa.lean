/- The search unit by unit: it ends by a panic. Condition: masses and costs that fit. -/
import Derived.Test.YtogopoiohckpdaeGl
import Derived.Test.YtogopoiohckpdaeP8
import Derived.Test.YtogopoiohckpdaeV6
import Derived.Test.YtogopoiohckpdaeV7
import Derived.Test.YtogopoiohckpdaeV5
namespace Go.Proofs.Ytogopoiohckpdae
open Go.RowKit Go.VS Go.OT
set_option linter.unusedSimpArgs false
set_option linter.unusedVariables false

def partsL (a b : List Int) (c : List (List Int)) (k : Nat) : List Int := (List.range (k + 1)).map (partV a b c)
def enK (a b : List Int) (c : List (List Int)) (p : List Int × Int × Unit → Bool) (k : Nat) : Bool := p (partsL a b c k, nuV a b c k, ())
def foundK (a b : List Int) (c : List (List Int)) (p : List Int × Int × Unit → Bool) : Nat := stopK (maxU a b) (enK a b c p)
theorem partsL_len (a b : List Int) (c : List (List Int)) (k : Nat) : (partsL a b c k).length = k + 1 := by simp [partsL]
theorem partsL_succ (a b : List Int) (c : List (List Int)) (k : Nat) : partsL a b c (k + 1) = partsL a b c k ++ [partV a b c (k + 1)] := by
  unfold partsL
  rw [List.range_succ, List.map_append]
  rfl
theorem partsL_at (a b : List Int) (c : List (List Int)) {k m : Nat} (h : m ≤ k) : (partsL a b c k).getD m 0 = partV a b c m := by
  simp [partsL, List.getD_eq_getElem?_getD, Nat.lt_succ_of_le h]
theorem stopK_eq {M k : Nat} {en : Nat → Bool} (h1 : k ≤ M) (h2 : ∀ m, m < k → en m = false) (h3 : k = M ∨ en k = true) : stopK M en = k := by
  obtain ⟨g1, g2, g3⟩ := stopK_spec M en
  rcases Nat.lt_trichotomy (stopK M en) k with h | h | h
  · have := h2 _ h
    rw [g3 (by omega)] at this
    cases this
  · exact h
  · rcases h3 with h3 | h3
    · omega
    · rw [g2 _ h] at h3
      cases h3

abbrev SeArgs := List Int × List Int × List (List Int) × ((List Int × Int × Unit → Prop) × (List Int × Int × Unit → Bool)) × Unit
@[reducible] def searchAs : List AD := [.dat (.sl .int), .dat (.sl .int), .dat (.sl (.sl .int)), .fnc [.sl .int, .int] .bool]

@[push_cast] theorem leafSl_ref {a : Sh} {r : Nat} {bs : List BV} : leafSl a (.ref r :: bs) = none := rfl

def rowsC (p : List (List Int)) (n i : Nat) : List (List Int) := p.take i ++ List.replicate (n - i) []
theorem rowsC_len {p : List (List Int)} {n i : Nat} (h : p.length = n) (hi : i ≤ n) : (rowsC p n i).length = n := by simp [rowsC]; omega
theorem rowsC_set {p : List (List Int)} {n i : Nat} (h : p.length = n) (hi : i < n) (z : List Int) : ((rowsC p n i).set i z).set i (p.getD i []) = rowsC p n (i + 1) := by
  rw [List.set_set]
  unfold rowsC
  have e : n - i = (n - (i + 1)) + 1 := by omega
  rw [e, List.replicate_succ, List.set_append_right _ _ (by simp; omega), List.length_take, Nat.min_eq_left (by omega), Nat.sub_self, List.set_cons_zero, List.take_succ_eq_append_getElem (by omega), List.append_assoc]
  simp [List.getD_eq_getElem?_getD, show i < p.length by omega]
theorem rowsC_0 (p : List (List Int)) (n : Nat) : rowsC p n 0 = List.replicate n [] := by simp [rowsC]
theorem rowsC_all {p : List (List Int)} {n : Nat} (h : p.length = n) : rowsC p n n = p := by simp [rowsC, ← h]

theorem sg_bnd {f : Nat → Int} {M : Int} : ∀ n : Nat, (∀ i, i < n → f i ≤ M) → sg n f ≤ n * M
  | 0, _ => by simp [sg]
  | n + 1, h => by
    have h1 := sg_bnd n fun i hi => h i (by omega)
    have h2 := h n (by omega)
    show sg n f + f n ≤ _
    rw [Int.natCast_add, Int.add_mul]
    omega
theorem maxU_bnd {a b : List Int} {c : List (List Int)} (hm : MC a b c) : maxU a b ≤ 1200 := by
  have h1 : sumL a ≤ a.length * 200 := sg_bnd _ fun i hi => (hm.ha.at hi).2
  have := hm.a5
  unfold maxU
  omega

structure SeI (a b : List Int) (c : List (List Int)) (p : List Int × Int × Unit → Bool) (k : Nat) : Prop where
  le : k ≤ maxU a b
  no : ∀ m, m < k → enK a b c p m = false


theorem search_pan (C : Ctx) (γ : Gam) (x : SeArgs) (vs : List Value) (hm : MC x.1 x.2.1 x.2.2.1) (hq : ∀ y, x.2.2.2.1.1 y) (hen : Entry C γ Try.prog searchAs x vs) :
    Calls Try.prog 44 vs.toArray C.w0 (fun e w => ∃ ch, e = .panicked ch ∧
      FoundAt C 54 (.sl (.sl .int)) (.sl .int) (stepP x.1 x.2.1 x.2.2.1 (foundK x.1 x.2.1 x.2.2.1 x.2.2.2.1.2)) (partsL x.1 x.2.1 x.2.2.1 (foundK x.1 x.2.1 x.2.2.1 x.2.2.2.1.2)) ch w) := by
  refine pan_of (E := know [(46, emptyCon), (47, nextCon)] [] [] [17]) (know_ok (all_cons empty_spec (all_cons next_spec all_nil)) all_nil all_nil) (G := fun C => FoundAt C 54 (.sl (.sl .int)) (.sl .int) _ _) Try.func44 rfl (by simp [paramBVs, Try.ntmps44]) ?_ C γ vs hen
  clear hen vs γ C
  intro C hP hE hnl hfit
  obtain ⟨(a : List Int), (b : List Int), (c : List (List Int)), ⟨(q : List Int × Int × Unit → Prop), (p : List Int × Int × Unit → Bool)⟩, _⟩ := x
  dsimp only at hm hq hfit ⊢
  have ha5 := hm.a5
  have hb5 := hm.b5
  have hT : ∃ fs, C.P.underlying 54 = some (.struct fs) := by rw [hP]; exact ⟨_, Try.underlying54⟩
  have hu : C.P.underlying 22 = some (.slice 3) := by rw [hP]; exact Try.underlying22
  have hs : (C.P.info? 3).map (·.size) = some 1 := by rw [hP]; kernel_rfl
  simp only [Try.ntmps44, Try.results44, maxLen, Nat.reduceSub, Nat.reducePow, Nat.reduceAdd, Int.cast_ofNat_Int, push_cast] at hnl hfit ⊢
  repeat' (first|(refine goP (by assumption) ?_; iterate 4 (try clear hK K))|(refine triP_seqk fun K hK => ?_)|(refine triP_tri ?_; refine tri_region hE rfl ?_; simp +contextual only [hnl, ↓kN, ↓kP, ↓kG, ↓qN, ↓qP, ↓qG, push_cast, Int.reduceEq, Int.reduceLT, Int.reduceLE, Int.reduceNeg, Nat.reduceLT, Nat.reduceLeDiff, Int.reduceToNat, Int.cast_ofNat_Int, Nat.reduceBEq, Nat.reduceMul, Nat.reduceEqDiff, reduceCtorEq, Nat.reduceAdd])|(refine triP_tri ?_; (refine tri_late hE 3 [0] rfl (by decide +kernel) ?_; simp only [List.length_cons, List.length_nil, Nat.reduceAdd, Nat.reduceSub, List.take_succ_cons, List.take_zero, List.drop_succ_cons, List.drop_zero, pickM, headM, List.filterMap_cons, List.filterMap_nil, List.getElem?_cons_zero, List.getElem?_cons_succ, List.contains_cons, List.contains_nil, Nat.reduceBEq, Bool.or_false, Bool.false_or, Bool.true_or, Bool.or_true, if_true, Bool.false_eq_true, if_false, List.cons_append, List.nil_append]; simp +contextual only [hnl, ↓kN, ↓kP, ↓kG, ↓qN, ↓qP, ↓qG, push_cast, Int.reduceEq, Int.reduceLT, Int.reduceLE, Int.reduceNeg, Nat.reduceLT, Nat.reduceLeDiff, Int.reduceToNat, Int.cast_ofNat_Int, Nat.reduceBEq, Nat.reduceMul, Nat.reduceEqDiff, reduceCtorEq, Nat.reduceAdd]))|first|(refine goK (by assumption) ?_; iterate 4 (try clear hK K))|(refine tri_seqk fun K hK => ?_)|((first|refine tri_region hE rfl ?_|refine tri_ret ?_); simp +contextual only [hnl, ↓kN, ↓kP, ↓kG, ↓qN, ↓qP, ↓qG, push_cast, Int.reduceEq, Int.reduceLT, Int.reduceLE, Int.reduceNeg, Nat.reduceLT, Nat.reduceLeDiff, Int.reduceToNat, Int.cast_ofNat_Int, Nat.reduceBEq, Nat.reduceMul, Nat.reduceEqDiff, reduceCtorEq, Nat.reduceAdd])|refine tri_block ?_|((first|refine tri_skip ?_|refine tri_exit ?_); simp only [thenQ, blockQ, if_true, if_false, Nat.reduceEqDiff, reduceCtorEq])|(refine tri_cond (by rfl) (fun hb => ?_) (fun hb => ?_) <;> (try simp only [decide_eq_true_eq, decide_eq_false_iff_not, Bool.not_eq_true', Bool.not_eq_false', reduceCtorEq, Bool.true_eq_false, Bool.false_eq_true] at hb) <;> (try omega))|refine tri_unk (by rfl) ?_ ?_|refine And.intro (by first|omega|(unfold InR; omega)|assumption|decide|exact ⟨_, _, rfl⟩) ?_|(refine ⟨fun hc => ?_, fun hc => ?_⟩)|(intro hc; try omega))
  refine triP_block ?_
  refine triP_loopI (fun k : Nat => AS.of [(0, .one (.val (.sl .int) a)), (1, .one (.val (.sl .int) b)), (2, .one (.val (.sl (.sl .int)) c)), (3, .one (.fnv [.sl .int, .int] .bool q p)), (8, .one (.box 8))] [(17, .flat 3 .int (partsL a b c k))] [(8, .rcd [.val (.sl (.sl .int)) (stepP a b c k), .ref 17])])
    (SeI a b c p) (fun k => maxU a b - k) 0 ⟨Nat.zero_le _, fun m hm => absurd hm (Nat.not_lt_zero _)⟩ ?_ ?_
  · refine weak_of ?_ ?_ ?_ <;> simp only [push_cast, Int.reduceEq, Int.reduceLT, Int.reduceLE, Int.reduceNeg, Nat.reduceLT, Nat.reduceLeDiff, Int.reduceToNat, Int.cast_ofNat_Int, Nat.reduceBEq, Nat.reduceMul, Nat.reduceEqDiff, reduceCtorEq, Nat.reduceAdd]
    · exact .inl rfl
    · rfl
  intro k hI K' hL
  have hst := stepI hm k hI.le
  have hlen : (stepP a b c k).length = a.length := hst.way.shp.rows
  refine triP_block ?_
  repeat' (first|(refine goP (by assumption) ?_; iterate 4 (try clear hK K))|(refine triP_seqk fun K hK => ?_)|(refine triP_tri ?_; refine tri_region hE rfl ?_; simp +contextual only [hnl, ↓kN, ↓kP, ↓kG, ↓qN, ↓qP, ↓qG, push_cast, Int.reduceEq, Int.reduceLT, Int.reduceLE, Int.reduceNeg, Nat.reduceLT, Nat.reduceLeDiff, Int.reduceToNat, Int.cast_ofNat_Int, Nat.reduceBEq, Nat.reduceMul, Nat.reduceEqDiff, reduceCtorEq, Nat.reduceAdd])|(refine triP_tri ?_; (refine tri_late hE 3 [0] rfl (by decide +kernel) ?_; simp only [List.length_cons, List.length_nil, Nat.reduceAdd, Nat.reduceSub, List.take_succ_cons, List.take_zero, List.drop_succ_cons, List.drop_zero, pickM, headM, List.filterMap_cons, List.filterMap_nil, List.getElem?_cons_zero, List.getElem?_cons_succ, List.contains_cons, List.contains_nil, Nat.reduceBEq, Bool.or_false, Bool.false_or, Bool.true_or, Bool.or_true, if_true, Bool.false_eq_true, if_false, List.cons_append, List.nil_append]; simp +contextual only [hnl, ↓kN, ↓kP, ↓kG, ↓qN, ↓qP, ↓qG, push_cast, Int.reduceEq, Int.reduceLT, Int.reduceLE, Int.reduceNeg, Nat.reduceLT, Nat.reduceLeDiff, Int.reduceToNat, Int.cast_ofNat_Int, Nat.reduceBEq, Nat.reduceMul, Nat.reduceEqDiff, reduceCtorEq, Nat.reduceAdd]))|first|(refine goK (by assumption) ?_; iterate 4 (try clear hK K))|(refine tri_seqk fun K hK => ?_)|((first|refine tri_region hE rfl ?_|refine tri_ret ?_); simp +contextual only [hnl, ↓kN, ↓kP, ↓kG, ↓qN, ↓qP, ↓qG, push_cast, Int.reduceEq, Int.reduceLT, Int.reduceLE, Int.reduceNeg, Nat.reduceLT, Nat.reduceLeDiff, Int.reduceToNat, Int.cast_ofNat_Int, Nat.reduceBEq, Nat.reduceMul, Nat.reduceEqDiff, reduceCtorEq, Nat.reduceAdd])|refine tri_block ?_|((first|refine tri_skip ?_|refine tri_exit ?_); simp only [thenQ, blockQ, if_true, if_false, Nat.reduceEqDiff, reduceCtorEq])|(refine tri_cond (by rfl) (fun hb => ?_) (fun hb => ?_) <;> (try simp only [decide_eq_true_eq, decide_eq_false_iff_not, Bool.not_eq_true', Bool.not_eq_false', reduceCtorEq, Bool.true_eq_false, Bool.false_eq_true] at hb) <;> (try omega))|refine tri_unk (by rfl) ?_ ?_|refine And.intro (by first|omega|(unfold InR; omega)|assumption|decide|exact ⟨_, _, rfl⟩) ?_|(refine ⟨fun hc => ?_, fun hc => ?_⟩)|(intro hc; try omega))
  refine triP_tri ?_
  repeat' (first|(refine goK (by assumption) ?_; iterate 4 (try clear hK K))|(refine tri_seqk fun K hK => ?_)|((first|refine tri_region hE rfl ?_|refine tri_ret ?_); simp +contextual only [hnl, ↓kN, ↓kP, ↓kG, ↓qN, ↓qP, ↓qG, push_cast, Int.reduceEq, Int.reduceLT, Int.reduceLE, Int.reduceNeg, Nat.reduceLT, Nat.reduceLeDiff, Int.reduceToNat, Int.cast_ofNat_Int, Nat.reduceBEq, Nat.reduceMul, Nat.reduceEqDiff, reduceCtorEq, Nat.reduceAdd])|refine tri_block ?_|((first|refine tri_skip ?_|refine tri_exit ?_); simp only [thenQ, blockQ, if_true, if_false, Nat.reduceEqDiff, reduceCtorEq])|(refine tri_cond (by rfl) (fun hb => ?_) (fun hb => ?_) <;> (try simp only [decide_eq_true_eq, decide_eq_false_iff_not, Bool.not_eq_true', Bool.not_eq_false', reduceCtorEq, Bool.true_eq_false, Bool.false_eq_true] at hb) <;> (try omega))|refine tri_unk (by rfl) ?_ ?_|refine And.intro (by first|omega|(unfold InR; omega)|assumption|decide|exact ⟨_, _, rfl⟩) ?_|(refine ⟨fun hc => ?_, fun hc => ?_⟩)|(intro hc; try omega))
  refine tri_loopI (fun i : Nat => AS.of [(0, .one (.val (.sl .int) a)), (1, .one (.val (.sl .int) b)), (2, .one (.val (.sl (.sl .int)) c)), (3, .one (.fnv [.sl .int, .int] .bool q p)), (8, .one (.box 8)), (9, .one (.ref 22)), (24, .one (.val (.sl (.sl .int)) (stepP a b c k))), (25, .I (stepP a b c k).length), (26, .I i)] [(17, .flat 3 .int (partsL a b c k)), (22, .deep 22 3 .int (rowsC (stepP a b c k) a.length i))] [(8, .rcd [.val (.sl (.sl .int)) (stepP a b c k), .ref 17])])
    (fun i => i ≤ a.length) (fun i => a.length - i) 0 (Nat.zero_le _) ?_ ?_
  · refine weak_of ?_ ?_ ?_ <;> simp only [push_cast, Int.reduceEq, Int.reduceLT, Int.reduceLE, Int.reduceNeg, Nat.reduceLT, Nat.reduceLeDiff, Int.reduceToNat, Int.cast_ofNat_Int, Nat.reduceBEq, Nat.reduceMul, Nat.reduceEqDiff, reduceCtorEq, Nat.reduceAdd]
    rw [rowsC_0, hlen]
    exact .inl rfl
  intro i hi K2 hL2
  have hrl := rowsC_len hlen hi
  rcases Nat.lt_or_ge i a.length with hia | hia
  · have hw := hst.way.shp.cols i (by omega)
    have hg := rowsC_set hlen hia (List.replicate ((stepP a b c k).getD i []).length 0)
    have hgl : ((rowsC (stepP a b c k) a.length i).set i (List.replicate ((stepP a b c k).getD i []).length 0)).length = a.length := by rw [List.length_set, hrl]
    have hgg : ((rowsC (stepP a b c k) a.length i).set i (List.replicate ((stepP a b c k).getD i []).length 0)).getD i [] = List.replicate ((stepP a b c k).getD i []).length 0 := by
      rw [List.getD_eq_getElem?_getD, List.getElem?_set_self (by omega)]; rfl
    repeat' (first|((refine tri_copy hE 5 hu hs rfl rfl ?_; simp only [List.length_cons, List.length_nil, Nat.reduceAdd, Nat.reduceSub, List.take_succ_cons, List.take_zero, List.drop_succ_cons, List.drop_zero]; simp +contextual only [hnl, ↓kN, ↓kP, ↓kG, ↓qN, ↓qP, ↓qG, copyS, push_cast, Int.reduceEq, Int.reduceLT, Int.reduceLE, Int.reduceNeg, Nat.reduceLT, Nat.reduceLeDiff, Int.reduceToNat, Int.cast_ofNat_Int, Nat.reduceBEq, Nat.reduceMul, Nat.reduceEqDiff, reduceCtorEq, Nat.reduceAdd]))|first|(refine goK (by assumption) ?_; iterate 4 (try clear hK K))|(refine tri_seqk fun K hK => ?_)|((first|refine tri_region hE rfl ?_|refine tri_ret ?_); simp +contextual only [hnl, ↓kN, ↓kP, ↓kG, ↓qN, ↓qP, ↓qG, push_cast, Int.reduceEq, Int.reduceLT, Int.reduceLE, Int.reduceNeg, Nat.reduceLT, Nat.reduceLeDiff, Int.reduceToNat, Int.cast_ofNat_Int, Nat.reduceBEq, Nat.reduceMul, Nat.reduceEqDiff, reduceCtorEq, Nat.reduceAdd])|refine tri_block ?_|((first|refine tri_skip ?_|refine tri_exit ?_); simp only [thenQ, blockQ, if_true, if_false, Nat.reduceEqDiff, reduceCtorEq])|(refine tri_cond (by rfl) (fun hb => ?_) (fun hb => ?_) <;> (try simp only [decide_eq_true_eq, decide_eq_false_iff_not, Bool.not_eq_true', Bool.not_eq_false', reduceCtorEq, Bool.true_eq_false, Bool.false_eq_true] at hb) <;> (try omega))|refine tri_unk (by rfl) ?_ ?_|refine And.intro (by first|omega|(unfold InR; omega)|assumption|decide|exact ⟨_, _, rfl⟩) ?_|(refine ⟨fun hc => ?_, fun hc => ?_⟩)|(intro hc; try omega))
    refine ⟨by rw [hgg, List.length_replicate], ?_⟩
    repeat' (first|(refine goK (by assumption) ?_; iterate 4 (try clear hK K))|(refine tri_seqk fun K hK => ?_)|((first|refine tri_region hE rfl ?_|refine tri_ret ?_); simp +contextual only [hnl, ↓kN, ↓kP, ↓kG, ↓qN, ↓qP, ↓qG, push_cast, Int.reduceEq, Int.reduceLT, Int.reduceLE, Int.reduceNeg, Nat.reduceLT, Nat.reduceLeDiff, Int.reduceToNat, Int.cast_ofNat_Int, Nat.reduceBEq, Nat.reduceMul, Nat.reduceEqDiff, reduceCtorEq, Nat.reduceAdd])|refine tri_block ?_|((first|refine tri_skip ?_|refine tri_exit ?_); simp only [thenQ, blockQ, if_true, if_false, Nat.reduceEqDiff, reduceCtorEq])|(refine tri_cond (by rfl) (fun hb => ?_) (fun hb => ?_) <;> (try simp only [decide_eq_true_eq, decide_eq_false_iff_not, Bool.not_eq_true', Bool.not_eq_false', reduceCtorEq, Bool.true_eq_false, Bool.false_eq_true] at hb) <;> (try omega))|refine tri_unk (by rfl) ?_ ?_|refine And.intro (by first|omega|(unfold InR; omega)|assumption|decide|exact ⟨_, _, rfl⟩) ?_|(refine ⟨fun hc => ?_, fun hc => ?_⟩)|(intro hc; try omega))
    rw [hg]
    refine hL2 _ (i + 1) (by omega) (by omega) ?_
    refine weak_of ?_ ?_ ?_ <;> simp only [push_cast, Int.reduceEq, Int.reduceLT, Int.reduceLE, Int.reduceNeg, Nat.reduceLT, Nat.reduceLeDiff, Int.reduceToNat, Int.cast_ofNat_Int, Nat.reduceBEq, Nat.reduceMul, Nat.reduceEqDiff, reduceCtorEq, Nat.reduceAdd]
    done
  · obtain rfl : i = a.length := by omega
    have hra := rowsC_all hlen
    have hends : (nextP a b c (stepP a b c k)).isSome = true := by
      by_cases hb : bestV a b c (stepP a b c k) < 0
      · rw [(next_end hm.hc hst.way hb).1]; rfl
      · obtain ⟨p', h4, _⟩ := next_more hm.hc hst.way hb
        rw [h4]; rfl
    have hpre2 : NextPre a b c (.deep 22 3 .int (stepP a b c k)) := ⟨by rw [deepI_deep], by rw [deepI_deep]; exact hst.way.shp, hm.hc, by rw [deepI_deep]; exact hends⟩
    rcases Nat.lt_or_ge k (maxU a b) with hk | hk
    · have hb0 := (hst.more hm).2 hk
      obtain ⟨n1, n2, n3, n4, n5⟩ := hst.next hm hk
      replace hnl := And.intro hnl (And.intro hra (And.intro n2 (eq_true (show 0 ≤ bestV a b c (stepP a b c k) by omega))))
      replace hnl := And.intro hnl (eq_true (hq (partsL a b c k, nextN a b c (stepP a b c k), ())))
      by_cases he : enK a b c p k = true
      · have hfk : foundK a b c p = k := stopK_eq hI.le hI.no (.inr he)
        replace hnl := And.intro hnl (show p (partsL a b c k, nextN a b c (stepP a b c k), ()) = true from he)
        repeat' (first|(refine goK (by assumption) ?_; iterate 4 (try clear hK K))|(refine tri_seqk fun K hK => ?_)|((first|refine tri_region hE rfl ?_|refine tri_ret ?_); simp +contextual only [hnl, ↓kN, ↓kP, ↓kG, ↓qN, ↓qP, ↓qG, push_cast, Int.reduceEq, Int.reduceLT, Int.reduceLE, Int.reduceNeg, Nat.reduceLT, Nat.reduceLeDiff, Int.reduceToNat, Int.cast_ofNat_Int, Nat.reduceBEq, Nat.reduceMul, Nat.reduceEqDiff, reduceCtorEq, Nat.reduceAdd])|refine tri_block ?_|((first|refine tri_skip ?_|refine tri_exit ?_); simp only [thenQ, blockQ, if_true, if_false, Nat.reduceEqDiff, reduceCtorEq])|(refine tri_cond (by rfl) (fun hb => ?_) (fun hb => ?_) <;> (try simp only [decide_eq_true_eq, decide_eq_false_iff_not, Bool.not_eq_true', Bool.not_eq_false', reduceCtorEq, Bool.true_eq_false, Bool.false_eq_true] at hb) <;> (try omega))|refine tri_unk (by rfl) ?_ ?_|refine And.intro (by first|omega|(unfold InR; omega)|assumption|decide|exact ⟨_, _, rfl⟩) ?_|(refine ⟨fun hc => ?_, fun hc => ?_⟩)|(intro hc; try omega))
        repeat' (first|(refine goP (by assumption) ?_; iterate 4 (try clear hK K))|(refine triP_seqk fun K hK => ?_)|(refine triP_tri ?_; refine tri_region hE rfl ?_; simp +contextual only [hnl, ↓kN, ↓kP, ↓kG, ↓qN, ↓qP, ↓qG, push_cast, Int.reduceEq, Int.reduceLT, Int.reduceLE, Int.reduceNeg, Nat.reduceLT, Nat.reduceLeDiff, Int.reduceToNat, Int.cast_ofNat_Int, Nat.reduceBEq, Nat.reduceMul, Nat.reduceEqDiff, reduceCtorEq, Nat.reduceAdd])|(refine triP_tri ?_; (refine tri_late hE 3 [0] rfl (by decide +kernel) ?_; simp only [List.length_cons, List.length_nil, Nat.reduceAdd, Nat.reduceSub, List.take_succ_cons, List.take_zero, List.drop_succ_cons, List.drop_zero, pickM, headM, List.filterMap_cons, List.filterMap_nil, List.getElem?_cons_zero, List.getElem?_cons_succ, List.contains_cons, List.contains_nil, Nat.reduceBEq, Bool.or_false, Bool.false_or, Bool.true_or, Bool.or_true, if_true, Bool.false_eq_true, if_false, List.cons_append, List.nil_append]; simp +contextual only [hnl, ↓kN, ↓kP, ↓kG, ↓qN, ↓qP, ↓qG, push_cast, Int.reduceEq, Int.reduceLT, Int.reduceLE, Int.reduceNeg, Nat.reduceLT, Nat.reduceLeDiff, Int.reduceToNat, Int.cast_ofNat_Int, Nat.reduceBEq, Nat.reduceMul, Nat.reduceEqDiff, reduceCtorEq, Nat.reduceAdd]))|first|(refine goK (by assumption) ?_; iterate 4 (try clear hK K))|(refine tri_seqk fun K hK => ?_)|((first|refine tri_region hE rfl ?_|refine tri_ret ?_); simp +contextual only [hnl, ↓kN, ↓kP, ↓kG, ↓qN, ↓qP, ↓qG, push_cast, Int.reduceEq, Int.reduceLT, Int.reduceLE, Int.reduceNeg, Nat.reduceLT, Nat.reduceLeDiff, Int.reduceToNat, Int.cast_ofNat_Int, Nat.reduceBEq, Nat.reduceMul, Nat.reduceEqDiff, reduceCtorEq, Nat.reduceAdd])|refine tri_block ?_|((first|refine tri_skip ?_|refine tri_exit ?_); simp only [thenQ, blockQ, if_true, if_false, Nat.reduceEqDiff, reduceCtorEq])|(refine tri_cond (by rfl) (fun hb => ?_) (fun hb => ?_) <;> (try simp only [decide_eq_true_eq, decide_eq_false_iff_not, Bool.not_eq_true', Bool.not_eq_false', reduceCtorEq, Bool.true_eq_false, Bool.false_eq_true] at hb) <;> (try omega))|refine tri_unk (by rfl) ?_ ?_|refine And.intro (by first|omega|(unfold InR; omega)|assumption|decide|exact ⟨_, _, rfl⟩) ?_|(refine ⟨fun hc => ?_, fun hc => ?_⟩)|(intro hc; try omega))
        rw [hfk]
        refine triP_cond (b := true) (by rfl) (fun _ => ?_) (fun hb => absurd hb (by decide))
        refine triP_weak (t := AS.of [(8, .one (.box 8))] [] [(8, .rcd [.val (.sl (.sl .int)) (stepP a b c k), .val (.sl .int) (partsL a b c k)])]) (by refine weak_of ?_ ?_ ?_ <;> simp only [push_cast, Int.reduceEq, Int.reduceLT, Int.reduceLE, Int.reduceNeg, Nat.reduceLT, Nat.reduceLeDiff, Int.reduceToNat, Int.cast_ofNat_Int, Nat.reduceBEq, Nat.reduceMul, Nat.reduceEqDiff, reduceCtorEq, Nat.reduceAdd]) ?_; obtain ⟨fs, hT⟩ := hT; refine triP_throw hE hT rfl ?_; simp +contextual only [hnl, ↓kN, ↓kP, ↓kG, ↓qN, ↓qP, ↓qG, push_cast, Int.reduceEq, Int.reduceLT, Int.reduceLE, Int.reduceNeg, Nat.reduceLT, Nat.reduceLeDiff, Int.reduceToNat, Int.cast_ofNat_Int, Nat.reduceBEq, Nat.reduceMul, Nat.reduceEqDiff, reduceCtorEq, Nat.reduceAdd]
      · replace hnl := And.intro hnl (show p (partsL a b c k, nextN a b c (stepP a b c k), ()) = false from (Bool.not_eq_true _).mp he)
        have h17 := partsL_len a b c k
        have h18 := partsL_at a b c (Nat.le_refl k)
        have h19 := part_bnd hm k hI.le
        repeat' (first|(refine goK (by assumption) ?_; iterate 4 (try clear hK K))|(refine tri_seqk fun K hK => ?_)|((first|refine tri_region hE rfl ?_|refine tri_ret ?_); simp +contextual only [hnl, ↓kN, ↓kP, ↓kG, ↓qN, ↓qP, ↓qG, push_cast, Int.reduceEq, Int.reduceLT, Int.reduceLE, Int.reduceNeg, Nat.reduceLT, Nat.reduceLeDiff, Int.reduceToNat, Int.cast_ofNat_Int, Nat.reduceBEq, Nat.reduceMul, Nat.reduceEqDiff, reduceCtorEq, Nat.reduceAdd])|refine tri_block ?_|((first|refine tri_skip ?_|refine tri_exit ?_); simp only [thenQ, blockQ, if_true, if_false, Nat.reduceEqDiff, reduceCtorEq])|(refine tri_cond (by rfl) (fun hb => ?_) (fun hb => ?_) <;> (try simp only [decide_eq_true_eq, decide_eq_false_iff_not, Bool.not_eq_true', Bool.not_eq_false', reduceCtorEq, Bool.true_eq_false, Bool.false_eq_true] at hb) <;> (try omega))|refine tri_unk (by rfl) ?_ ?_|refine And.intro (by first|omega|(unfold InR; omega)|assumption|decide|exact ⟨_, _, rfl⟩) ?_|(refine ⟨fun hc => ?_, fun hc => ?_⟩)|(intro hc; try omega))
        repeat' (first|(refine goP (by assumption) ?_; iterate 4 (try clear hK K))|(refine triP_seqk fun K hK => ?_)|(refine triP_tri ?_; refine tri_region hE rfl ?_; simp +contextual only [hnl, ↓kN, ↓kP, ↓kG, ↓qN, ↓qP, ↓qG, push_cast, Int.reduceEq, Int.reduceLT, Int.reduceLE, Int.reduceNeg, Nat.reduceLT, Nat.reduceLeDiff, Int.reduceToNat, Int.cast_ofNat_Int, Nat.reduceBEq, Nat.reduceMul, Nat.reduceEqDiff, reduceCtorEq, Nat.reduceAdd])|(refine triP_tri ?_; (refine tri_late hE 3 [0] rfl (by decide +kernel) ?_; simp only [List.length_cons, List.length_nil, Nat.reduceAdd, Nat.reduceSub, List.take_succ_cons, List.take_zero, List.drop_succ_cons, List.drop_zero, pickM, headM, List.filterMap_cons, List.filterMap_nil, List.getElem?_cons_zero, List.getElem?_cons_succ, List.contains_cons, List.contains_nil, Nat.reduceBEq, Bool.or_false, Bool.false_or, Bool.true_or, Bool.or_true, if_true, Bool.false_eq_true, if_false, List.cons_append, List.nil_append]; simp +contextual only [hnl, ↓kN, ↓kP, ↓kG, ↓qN, ↓qP, ↓qG, push_cast, Int.reduceEq, Int.reduceLT, Int.reduceLE, Int.reduceNeg, Nat.reduceLT, Nat.reduceLeDiff, Int.reduceToNat, Int.cast_ofNat_Int, Nat.reduceBEq, Nat.reduceMul, Nat.reduceEqDiff, reduceCtorEq, Nat.reduceAdd]))|first|(refine goK (by assumption) ?_; iterate 4 (try clear hK K))|(refine tri_seqk fun K hK => ?_)|((first|refine tri_region hE rfl ?_|refine tri_ret ?_); simp +contextual only [hnl, ↓kN, ↓kP, ↓kG, ↓qN, ↓qP, ↓qG, push_cast, Int.reduceEq, Int.reduceLT, Int.reduceLE, Int.reduceNeg, Nat.reduceLT, Nat.reduceLeDiff, Int.reduceToNat, Int.cast_ofNat_Int, Nat.reduceBEq, Nat.reduceMul, Nat.reduceEqDiff, reduceCtorEq, Nat.reduceAdd])|refine tri_block ?_|((first|refine tri_skip ?_|refine tri_exit ?_); simp only [thenQ, blockQ, if_true, if_false, Nat.reduceEqDiff, reduceCtorEq])|(refine tri_cond (by rfl) (fun hb => ?_) (fun hb => ?_) <;> (try simp only [decide_eq_true_eq, decide_eq_false_iff_not, Bool.not_eq_true', Bool.not_eq_false', reduceCtorEq, Bool.true_eq_false, Bool.false_eq_true] at hb) <;> (try omega))|refine tri_unk (by rfl) ?_ ?_|refine And.intro (by first|omega|(unfold InR; omega)|assumption|decide|exact ⟨_, _, rfl⟩) ?_|(refine ⟨fun hc => ?_, fun hc => ?_⟩)|(intro hc; try omega))
        refine triP_cond (b := false) (by rfl) (fun hb => absurd hb (by decide)) (fun _ => triP_skip ?_)
        repeat' (first|(refine goP (by assumption) ?_; iterate 4 (try clear hK K))|(refine triP_seqk fun K hK => ?_)|(refine triP_tri ?_; refine tri_region hE rfl ?_; simp +contextual only [hnl, ↓kN, ↓kP, ↓kG, ↓qN, ↓qP, ↓qG, push_cast, Int.reduceEq, Int.reduceLT, Int.reduceLE, Int.reduceNeg, Nat.reduceLT, Nat.reduceLeDiff, Int.reduceToNat, Int.cast_ofNat_Int, Nat.reduceBEq, Nat.reduceMul, Nat.reduceEqDiff, reduceCtorEq, Nat.reduceAdd])|(refine triP_tri ?_; (refine tri_late hE 3 [0] rfl (by decide +kernel) ?_; simp only [List.length_cons, List.length_nil, Nat.reduceAdd, Nat.reduceSub, List.take_succ_cons, List.take_zero, List.drop_succ_cons, List.drop_zero, pickM, headM, List.filterMap_cons, List.filterMap_nil, List.getElem?_cons_zero, List.getElem?_cons_succ, List.contains_cons, List.contains_nil, Nat.reduceBEq, Bool.or_false, Bool.false_or, Bool.true_or, Bool.or_true, if_true, Bool.false_eq_true, if_false, List.cons_append, List.nil_append]; simp +contextual only [hnl, ↓kN, ↓kP, ↓kG, ↓qN, ↓qP, ↓qG, push_cast, Int.reduceEq, Int.reduceLT, Int.reduceLE, Int.reduceNeg, Nat.reduceLT, Nat.reduceLeDiff, Int.reduceToNat, Int.cast_ofNat_Int, Nat.reduceBEq, Nat.reduceMul, Nat.reduceEqDiff, reduceCtorEq, Nat.reduceAdd]))|first|(refine goK (by assumption) ?_; iterate 4 (try clear hK K))|(refine tri_seqk fun K hK => ?_)|((first|refine tri_region hE rfl ?_|refine tri_ret ?_); simp +contextual only [hnl, ↓kN, ↓kP, ↓kG, ↓qN, ↓qP, ↓qG, push_cast, Int.reduceEq, Int.reduceLT, Int.reduceLE, Int.reduceNeg, Nat.reduceLT, Nat.reduceLeDiff, Int.reduceToNat, Int.cast_ofNat_Int, Nat.reduceBEq, Nat.reduceMul, Nat.reduceEqDiff, reduceCtorEq, Nat.reduceAdd])|refine tri_block ?_|((first|refine tri_skip ?_|refine tri_exit ?_); simp only [thenQ, blockQ, if_true, if_false, Nat.reduceEqDiff, reduceCtorEq])|(refine tri_cond (by rfl) (fun hb => ?_) (fun hb => ?_) <;> (try simp only [decide_eq_true_eq, decide_eq_false_iff_not, Bool.not_eq_true', Bool.not_eq_false', reduceCtorEq, Bool.true_eq_false, Bool.false_eq_true] at hb) <;> (try omega))|refine tri_unk (by rfl) ?_ ?_|refine And.intro (by first|omega|(unfold InR; omega)|assumption|decide|exact ⟨_, _, rfl⟩) ?_|(refine ⟨fun hc => ?_, fun hc => ?_⟩)|(intro hc; try omega))
        have e2 : (((partsL a b c k).length : Int) - 1).toNat = k := by omega
        have n4' : 0 ≤ nextN a b c (stepP a b c k) ∧ nextN a b c (stepP a b c k) ≤ 99 := ⟨n4, n5⟩
        have hmx := maxU_bnd hm
        rw [e2, h18]
        refine ⟨by unfold InR; omega, ⟨by omega, by omega⟩, by omega, by unfold InR; omega, rfl, by omega, ?_⟩
        have e3 : partsL a b c k ++ [partV a b c k + nextN a b c (stepP a b c k)] = partsL a b c (k + 1) := (partsL_succ a b c k).symm
        refine hL _ (k + 1) ⟨by omega, fun m hmk => ?_⟩ (by omega) ?_
        · rcases Nat.lt_or_ge m k with h | h
          · exact hI.no m h
          · obtain rfl : m = k := by omega
            exact (Bool.not_eq_true _).mp he
        refine weak_of ?_ ?_ ?_ <;> simp only [push_cast, Int.reduceEq, Int.reduceLT, Int.reduceLE, Int.reduceNeg, Nat.reduceLT, Nat.reduceLeDiff, Int.reduceToNat, Int.cast_ofNat_Int, Nat.reduceBEq, Nat.reduceMul, Nat.reduceEqDiff, reduceCtorEq, Nat.reduceAdd]
        rw [e3]
        exact .inl rfl
    · have hb0 : bestV a b c (stepP a b c k) < 0 := by
        have := (hst.more hm).1
        omega
      obtain ⟨n2, _, _⟩ := next_end hm.hc hst.way hb0
      replace hnl := And.intro hnl (And.intro hra (And.intro n2 (eq_false (show ¬ 0 ≤ bestV a b c (stepP a b c k) by omega))))
      have hfk : foundK a b c p = k := stopK_eq hI.le hI.no (.inl (by have := hI.le; omega))
      repeat' (first|(refine goK (by assumption) ?_; iterate 4 (try clear hK K))|(refine tri_seqk fun K hK => ?_)|((first|refine tri_region hE rfl ?_|refine tri_ret ?_); simp +contextual only [hnl, ↓kN, ↓kP, ↓kG, ↓qN, ↓qP, ↓qG, push_cast, Int.reduceEq, Int.reduceLT, Int.reduceLE, Int.reduceNeg, Nat.reduceLT, Nat.reduceLeDiff, Int.reduceToNat, Int.cast_ofNat_Int, Nat.reduceBEq, Nat.reduceMul, Nat.reduceEqDiff, reduceCtorEq, Nat.reduceAdd])|refine tri_block ?_|((first|refine tri_skip ?_|refine tri_exit ?_); simp only [thenQ, blockQ, if_true, if_false, Nat.reduceEqDiff, reduceCtorEq])|(refine tri_cond (by rfl) (fun hb => ?_) (fun hb => ?_) <;> (try simp only [decide_eq_true_eq, decide_eq_false_iff_not, Bool.not_eq_true', Bool.not_eq_false', reduceCtorEq, Bool.true_eq_false, Bool.false_eq_true] at hb) <;> (try omega))|refine tri_unk (by rfl) ?_ ?_|refine And.intro (by first|omega|(unfold InR; omega)|assumption|decide|exact ⟨_, _, rfl⟩) ?_|(refine ⟨fun hc => ?_, fun hc => ?_⟩)|(intro hc; try omega))
      repeat' (first|(refine goP (by assumption) ?_; iterate 4 (try clear hK K))|(refine triP_seqk fun K hK => ?_)|(refine triP_tri ?_; refine tri_region hE rfl ?_; simp +contextual only [hnl, ↓kN, ↓kP, ↓kG, ↓qN, ↓qP, ↓qG, push_cast, Int.reduceEq, Int.reduceLT, Int.reduceLE, Int.reduceNeg, Nat.reduceLT, Nat.reduceLeDiff, Int.reduceToNat, Int.cast_ofNat_Int, Nat.reduceBEq, Nat.reduceMul, Nat.reduceEqDiff, reduceCtorEq, Nat.reduceAdd])|(refine triP_tri ?_; (refine tri_late hE 3 [0] rfl (by decide +kernel) ?_; simp only [List.length_cons, List.length_nil, Nat.reduceAdd, Nat.reduceSub, List.take_succ_cons, List.take_zero, List.drop_succ_cons, List.drop_zero, pickM, headM, List.filterMap_cons, List.filterMap_nil, List.getElem?_cons_zero, List.getElem?_cons_succ, List.contains_cons, List.contains_nil, Nat.reduceBEq, Bool.or_false, Bool.false_or, Bool.true_or, Bool.or_true, if_true, Bool.false_eq_true, if_false, List.cons_append, List.nil_append]; simp +contextual only [hnl, ↓kN, ↓kP, ↓kG, ↓qN, ↓qP, ↓qG, push_cast, Int.reduceEq, Int.reduceLT, Int.reduceLE, Int.reduceNeg, Nat.reduceLT, Nat.reduceLeDiff, Int.reduceToNat, Int.cast_ofNat_Int, Nat.reduceBEq, Nat.reduceMul, Nat.reduceEqDiff, reduceCtorEq, Nat.reduceAdd]))|first|(refine goK (by assumption) ?_; iterate 4 (try clear hK K))|(refine tri_seqk fun K hK => ?_)|((first|refine tri_region hE rfl ?_|refine tri_ret ?_); simp +contextual only [hnl, ↓kN, ↓kP, ↓kG, ↓qN, ↓qP, ↓qG, push_cast, Int.reduceEq, Int.reduceLT, Int.reduceLE, Int.reduceNeg, Nat.reduceLT, Nat.reduceLeDiff, Int.reduceToNat, Int.cast_ofNat_Int, Nat.reduceBEq, Nat.reduceMul, Nat.reduceEqDiff, reduceCtorEq, Nat.reduceAdd])|refine tri_block ?_|((first|refine tri_skip ?_|refine tri_exit ?_); simp only [thenQ, blockQ, if_true, if_false, Nat.reduceEqDiff, reduceCtorEq])|(refine tri_cond (by rfl) (fun hb => ?_) (fun hb => ?_) <;> (try simp only [decide_eq_true_eq, decide_eq_false_iff_not, Bool.not_eq_true', Bool.not_eq_false', reduceCtorEq, Bool.true_eq_false, Bool.false_eq_true] at hb) <;> (try omega))|refine tri_unk (by rfl) ?_ ?_|refine And.intro (by first|omega|(unfold InR; omega)|assumption|decide|exact ⟨_, _, rfl⟩) ?_|(refine ⟨fun hc => ?_, fun hc => ?_⟩)|(intro hc; try omega))
      rw [hfk]
      refine triP_cond (b := true) (by rfl) (fun _ => ?_) (fun hb => absurd hb (by decide))
      refine triP_weak (t := AS.of [(8, .one (.box 8))] [] [(8, .rcd [.val (.sl (.sl .int)) (stepP a b c k), .val (.sl .int) (partsL a b c k)])]) (by refine weak_of ?_ ?_ ?_ <;> simp only [push_cast, Int.reduceEq, Int.reduceLT, Int.reduceLE, Int.reduceNeg, Nat.reduceLT, Nat.reduceLeDiff, Int.reduceToNat, Int.cast_ofNat_Int, Nat.reduceBEq, Nat.reduceMul, Nat.reduceEqDiff, reduceCtorEq, Nat.reduceAdd]) ?_; obtain ⟨fs, hT⟩ := hT; refine triP_throw hE hT rfl ?_; simp +contextual only [hnl, ↓kN, ↓kP, ↓kG, ↓qN, ↓qP, ↓qG, push_cast, Int.reduceEq, Int.reduceLT, Int.reduceLE, Int.reduceNeg, Nat.reduceLT, Nat.reduceLeDiff, Int.reduceToNat, Int.cast_ofNat_Int, Nat.reduceBEq, Nat.reduceMul, Nat.reduceEqDiff, reduceCtorEq, Nat.reduceAdd]
end Go.Proofs.Ytogopoiohckpdae
