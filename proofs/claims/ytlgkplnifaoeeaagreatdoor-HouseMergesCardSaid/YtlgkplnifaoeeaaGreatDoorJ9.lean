import Derived.Test.YtlgkplnifaoeeaaGreatDoorJ4
import Derived.Recover
import Derived.Tactics2
import Derived.Laws.Pointers
set_option linter.unusedSimpArgs false
set_option linter.unusedVariables false
namespace Go.Proofs.YtlgkplnifaoeeaaGreatDoor
open Go.RowKit Go.VS Go.OT
def zBA (a b : List Int) (c : List (List Int)) (k : Nat) : List Int := (List.range (k + 1)).map (partV a b c)
def enK (a b : List Int) (c : List (List Int)) (p : List Int × Int × Unit → Bool) (k : Nat) : Bool := p (zBA a b c k, nuV a b c k, ())
def zDV (a b : List Int) (c : List (List Int)) (p : List Int × Int × Unit → Bool) : Nat := stopK (maxU a b) (enK a b c p)
theorem zHM (a b : List Int) (c : List (List Int)) (k : Nat) : (zBA a b c k).length = k + 1 := by simp [zBA]
theorem zK5 (a b : List Int) (c : List (List Int)) (k : Nat) : zBA a b c (k + 1) = zBA a b c k ++ [partV a b c (k + 1)] := by
  unfold zBA
  rw [List.range_succ, List.map_append]
  rfl
theorem zJC (a b : List Int) (c : List (List Int)) {k m : Nat} (h : m ≤ k) : (zBA a b c k).getD m 0 = partV a b c m := by
  simp [zBA, List.getD_eq_getElem?_getD, Nat.lt_succ_of_le h]
theorem zMo {M k : Nat} {en : Nat → Bool} (h1 : k ≤ M) (h2 : ∀ m, m < k → en m = false) (h3 : k = M ∨ en k = true) : stopK M en = k := by
  obtain ⟨g1, g2, g3⟩ := zFK M en
  rcases Nat.lt_trichotomy (stopK M en) k with h | h | h
  · have := h2 _ h
    rw [g3 (by omega)] at this
    cases this
  · exact h
  · rcases h3 with h3 | h3
    · omega
    · rw [g2 _ h] at h3
      cases h3
abbrev zNT := List Int × List Int × List (List Int) × ((List Int × Int × Unit → Prop) × (List Int × Int × Unit → Bool)) × Unit
@[reducible] def zMj : List AD := [.dat (.sl .int), .dat (.sl .int), .dat (.sl (.sl .int)), .fnc [.sl .int, .int] .bool]
@[push_cast] theorem zSJ {a : Sh} {r : Nat} {bs : List BV} : zJm a (.ref r :: bs) = none := rfl
def rowsC (p : List (List Int)) (n i : Nat) : List (List Int) := p.take i ++ List.replicate (n - i) []
theorem zPL {p : List (List Int)} {n i : Nat} (h : p.length = n) (hi : i ≤ n) : (rowsC p n i).length = n := by simp [rowsC]; omega
theorem zPM {p : List (List Int)} {n i : Nat} (h : p.length = n) (hi : i < n) (z : List Int) : ((rowsC p n i).set i z).set i (p.getD i []) = rowsC p n (i + 1) := by
  rw [List.set_set]
  unfold rowsC
  have e : n - i = (n - (i + 1)) + 1 := by omega
  rw [e, List.replicate_succ, List.set_append_right _ _ (by simp; omega), List.length_take, Nat.min_eq_left (by omega), Nat.sub_self, List.set_cons_zero, List.take_succ_eq_append_getElem (by omega), List.append_assoc]
  simp [List.getD_eq_getElem?_getD, show i < p.length by omega]
theorem zSq (p : List (List Int)) (n : Nat) : rowsC p n 0 = List.replicate n [] := by simp [rowsC]
theorem zPK {p : List (List Int)} {n : Nat} (h : p.length = n) : rowsC p n n = p := by simp [rowsC, ← h]
theorem zMl {f : Nat → Int} {M : Int} : ∀ n : Nat, (∀ i, i < n → f i ≤ M) → sg n f ≤ n * M
  | 0, _ => by simp [sg]
  | n + 1, h => by
    have h1 := zMl n fun i hi => h i (by omega)
    have h2 := h n (by omega)
    show sg n f + f n ≤ _
    rw [Int.natCast_add, Int.add_mul]
    omega
theorem zL7 {a b : List Int} {c : List (List Int)} (hm : MC a b c) : maxU a b ≤ 1200 := by
  have h1 : sumL a ≤ a.length * 200 := zMl _ fun i hi => (hm.ha.at hi).2
  have := hm.a5
  unfold maxU
  omega
structure SeI (a b : List Int) (c : List (List Int)) (p : List Int × Int × Unit → Bool) (k : Nat) : Prop where
  le : k ≤ maxU a b
  no : ∀ m, m < k → enK a b c p m = false
theorem zNu (C : Ctx) (γ : Gam) (x : zNT) (vs : List Value) (hm : MC x.1 x.2.1 x.2.2.1) (hq : ∀ y, x.2.2.2.1.1 y) (hen : Entry C γ Tryz.prog zMj x vs) :
    Calls Tryz.prog 216 vs.toArray C.w0 (fun e w => ∃ ch, e = .panicked ch ∧
      zGr C 183 (.sl (.sl .int)) (.sl .int) (stepP x.1 x.2.1 x.2.2.1 (zDV x.1 x.2.1 x.2.2.1 x.2.2.2.1.2)) (zBA x.1 x.2.1 x.2.2.1 (zDV x.1 x.2.1 x.2.2.1 x.2.2.2.1.2)) ch w) := by
  refine zTx (E := know [(188, zLO), (189, zPd)] [] [] [17]) (zAn (all_cons zMK (all_cons zPe all_nil)) all_nil all_nil) (G := fun C => zGr C 183 (.sl (.sl .int)) (.sl .int) _ _) Tryz.func216 rfl (by simp [zAJ, Tryz.ntmps216]) ?_ C γ vs hen
  clear hen vs γ C
  intro C hP hE hnl hfit
  obtain ⟨(a : List Int), (b : List Int), (c : List (List Int)), ⟨(q : List Int × Int × Unit → Prop), (p : List Int × Int × Unit → Bool)⟩, _⟩ := x
  dsimp only at hm hq hfit ⊢
  have ha5 := hm.a5
  have hb5 := hm.b5
  have hT : ∃ fs, C.P.underlying 183 = some (.struct fs) := by rw [hP]; exact ⟨_, Tryz.underlying183⟩
  have hu : C.P.underlying 25 = some (.slice 3) := by rw [hP]; exact Tryz.underlying25
  have hs : (C.P.info? 3).map (·.size) = some 1 := by rw [hP]; kernel_rfl
  simp only [Tryz.ntmps216, Tryz.results216, maxLen, Nat.reduceSub, Nat.reducePow, Nat.reduceAdd, Int.cast_ofNat_Int, push_cast] at hnl hfit ⊢
  repeat' (first|(refine goP (by assumption) ?_; iterate 4 (try clear hK K))|(refine zDo fun K hK => ?_)|(refine zBM ?_; refine zAb hE rfl ?_; simp +contextual only [hnl, ↓kN, ↓kP, ↓kG, ↓qN, ↓qP, ↓qG, push_cast, seval, reduceCtorEq, Int.cast_ofNat_Int])|(refine zBM ?_; (refine zDA hE 3 [0] rfl (by decide +kernel) ?_; simp only [List.length_cons, List.length_nil, Nat.reduceAdd, Nat.reduceSub, List.take_succ_cons, List.take_zero, List.drop_succ_cons, List.drop_zero, pickM, headM, List.filterMap_cons, List.filterMap_nil, List.getElem?_cons_zero, List.getElem?_cons_succ, List.contains_cons, List.contains_nil, Nat.reduceBEq, Bool.or_false, Bool.false_or, Bool.true_or, Bool.or_true, if_true, Bool.false_eq_true, if_false, List.cons_append, List.nil_append]; simp +contextual only [hnl, ↓kN, ↓kP, ↓kG, ↓qN, ↓qP, ↓qG, push_cast, seval, reduceCtorEq, Int.cast_ofNat_Int]))|first|(refine goK (by assumption) ?_; iterate 4 (try clear hK K))|(refine zAd fun K hK => ?_)|((first|refine zAb hE rfl ?_|refine zAh ?_); simp +contextual only [hnl, ↓kN, ↓kP, ↓kG, ↓qN, ↓qP, ↓qG, push_cast, seval, reduceCtorEq, Int.cast_ofNat_Int])|refine zAc ?_|((first|refine zAg ?_|refine zAf ?_); simp only [thenQ, zAk, if_true, if_false, Nat.reduceEqDiff, reduceCtorEq])|(refine zAe (by rfl) (fun hb => ?_) (fun hb => ?_) <;> (try simp only [b1, b2, b3, b4, reduceCtorEq, b5, b6] at hb) <;> (try omega))|refine zAi (by rfl) ?_ ?_|refine andS ?_|(refine ⟨fun hc => ?_, fun hc => ?_⟩)|(intro hc; try omega))
  refine zH3 ?_
  refine zNE (fun k : Nat => AS.of [(0, .one (.val (.sl .int) a)), (1, .one (.val (.sl .int) b)), (2, .one (.val (.sl (.sl .int)) c)), (3, .one (.fnv [.sl .int, .int] .bool q p)), (8, .one (.box 8))] [(17, .flat 3 .int (zBA a b c k))] [(8, .rcd [.val (.sl (.sl .int)) (stepP a b c k), .ref 17])])
    (SeI a b c p) (fun k => maxU a b - k) 0 ⟨Nat.zero_le _, fun m hm => absurd hm (Nat.not_lt_zero _)⟩ ?_ ?_
  · refine zAj ?_ ?_ ?_ <;> simp only [push_cast, seval, reduceCtorEq, Int.cast_ofNat_Int]
    · exact .inl rfl
    · rfl
  intro k hI K' hL
  have hst := stepI hm k hI.le
  have hlen : (stepP a b c k).length = a.length := hst.way.shp.rows
  refine zH3 ?_
  repeat' (first|(refine goP (by assumption) ?_; iterate 4 (try clear hK K))|(refine zDo fun K hK => ?_)|(refine zBM ?_; refine zAb hE rfl ?_; simp +contextual only [hnl, ↓kN, ↓kP, ↓kG, ↓qN, ↓qP, ↓qG, push_cast, seval, reduceCtorEq, Int.cast_ofNat_Int])|(refine zBM ?_; (refine zDA hE 3 [0] rfl (by decide +kernel) ?_; simp only [List.length_cons, List.length_nil, Nat.reduceAdd, Nat.reduceSub, List.take_succ_cons, List.take_zero, List.drop_succ_cons, List.drop_zero, pickM, headM, List.filterMap_cons, List.filterMap_nil, List.getElem?_cons_zero, List.getElem?_cons_succ, List.contains_cons, List.contains_nil, Nat.reduceBEq, Bool.or_false, Bool.false_or, Bool.true_or, Bool.or_true, if_true, Bool.false_eq_true, if_false, List.cons_append, List.nil_append]; simp +contextual only [hnl, ↓kN, ↓kP, ↓kG, ↓qN, ↓qP, ↓qG, push_cast, seval, reduceCtorEq, Int.cast_ofNat_Int]))|first|(refine goK (by assumption) ?_; iterate 4 (try clear hK K))|(refine zAd fun K hK => ?_)|((first|refine zAb hE rfl ?_|refine zAh ?_); simp +contextual only [hnl, ↓kN, ↓kP, ↓kG, ↓qN, ↓qP, ↓qG, push_cast, seval, reduceCtorEq, Int.cast_ofNat_Int])|refine zAc ?_|((first|refine zAg ?_|refine zAf ?_); simp only [thenQ, zAk, if_true, if_false, Nat.reduceEqDiff, reduceCtorEq])|(refine zAe (by rfl) (fun hb => ?_) (fun hb => ?_) <;> (try simp only [b1, b2, b3, b4, reduceCtorEq, b5, b6] at hb) <;> (try omega))|refine zAi (by rfl) ?_ ?_|refine andS ?_|(refine ⟨fun hc => ?_, fun hc => ?_⟩)|(intro hc; try omega))
  refine zBM ?_
  repeat' (first|(refine goK (by assumption) ?_; iterate 4 (try clear hK K))|(refine zAd fun K hK => ?_)|((first|refine zAb hE rfl ?_|refine zAh ?_); simp +contextual only [hnl, ↓kN, ↓kP, ↓kG, ↓qN, ↓qP, ↓qG, push_cast, seval, reduceCtorEq, Int.cast_ofNat_Int])|refine zAc ?_|((first|refine zAg ?_|refine zAf ?_); simp only [thenQ, zAk, if_true, if_false, Nat.reduceEqDiff, reduceCtorEq])|(refine zAe (by rfl) (fun hb => ?_) (fun hb => ?_) <;> (try simp only [b1, b2, b3, b4, reduceCtorEq, b5, b6] at hb) <;> (try omega))|refine zAi (by rfl) ?_ ?_|refine andS ?_|(refine ⟨fun hc => ?_, fun hc => ?_⟩)|(intro hc; try omega))
  refine zAp (fun i : Nat => AS.of [(0, .one (.val (.sl .int) a)), (1, .one (.val (.sl .int) b)), (2, .one (.val (.sl (.sl .int)) c)), (3, .one (.fnv [.sl .int, .int] .bool q p)), (8, .one (.box 8)), (9, .one (.ref 22)), (24, .one (.val (.sl (.sl .int)) (stepP a b c k))), (25, .I (stepP a b c k).length), (26, .I i)] [(17, .flat 3 .int (zBA a b c k)), (22, .deep 25 3 .int (rowsC (stepP a b c k) a.length i))] [(8, .rcd [.val (.sl (.sl .int)) (stepP a b c k), .ref 17])])
    (fun i => i ≤ a.length) (fun i => a.length - i) 0 (Nat.zero_le _) ?_ ?_
  · refine zAj ?_ ?_ ?_ <;> simp only [push_cast, seval, reduceCtorEq, Int.cast_ofNat_Int]
    rw [zSq, hlen]
    exact .inl rfl
  intro i hi K2 hL2
  have hrl := zPL hlen hi
  rcases Nat.lt_or_ge i a.length with hia | hia
  · have hw := hst.way.shp.cols i (by omega)
    have hg := zPM hlen hia (List.replicate ((stepP a b c k).getD i []).length 0)
    have hgl : ((rowsC (stepP a b c k) a.length i).set i (List.replicate ((stepP a b c k).getD i []).length 0)).length = a.length := by rw [List.length_set, hrl]
    have hgg : ((rowsC (stepP a b c k) a.length i).set i (List.replicate ((stepP a b c k).getD i []).length 0)).getD i [] = List.replicate ((stepP a b c k).getD i []).length 0 := by
      rw [List.getD_eq_getElem?_getD, List.getElem?_set_self (by omega)]; rfl
    repeat' (first|((refine zRe hE 5 hu hs rfl rfl ?_; simp only [List.length_cons, List.length_nil, Nat.reduceAdd, Nat.reduceSub, List.take_succ_cons, List.take_zero, List.drop_succ_cons, List.drop_zero]; simp +contextual only [hnl, ↓kN, ↓kP, ↓kG, ↓qN, ↓qP, ↓qG, copyS, push_cast, seval, reduceCtorEq, Int.cast_ofNat_Int]))|first|(refine goK (by assumption) ?_; iterate 4 (try clear hK K))|(refine zAd fun K hK => ?_)|((first|refine zAb hE rfl ?_|refine zAh ?_); simp +contextual only [hnl, ↓kN, ↓kP, ↓kG, ↓qN, ↓qP, ↓qG, push_cast, seval, reduceCtorEq, Int.cast_ofNat_Int])|refine zAc ?_|((first|refine zAg ?_|refine zAf ?_); simp only [thenQ, zAk, if_true, if_false, Nat.reduceEqDiff, reduceCtorEq])|(refine zAe (by rfl) (fun hb => ?_) (fun hb => ?_) <;> (try simp only [b1, b2, b3, b4, reduceCtorEq, b5, b6] at hb) <;> (try omega))|refine zAi (by rfl) ?_ ?_|refine andS ?_|(refine ⟨fun hc => ?_, fun hc => ?_⟩)|(intro hc; try omega))
    refine ⟨by rw [hgg, List.length_replicate], ?_⟩
    repeat' (first|(refine goK (by assumption) ?_; iterate 4 (try clear hK K))|(refine zAd fun K hK => ?_)|((first|refine zAb hE rfl ?_|refine zAh ?_); simp +contextual only [hnl, ↓kN, ↓kP, ↓kG, ↓qN, ↓qP, ↓qG, push_cast, seval, reduceCtorEq, Int.cast_ofNat_Int])|refine zAc ?_|((first|refine zAg ?_|refine zAf ?_); simp only [thenQ, zAk, if_true, if_false, Nat.reduceEqDiff, reduceCtorEq])|(refine zAe (by rfl) (fun hb => ?_) (fun hb => ?_) <;> (try simp only [b1, b2, b3, b4, reduceCtorEq, b5, b6] at hb) <;> (try omega))|refine zAi (by rfl) ?_ ?_|refine andS ?_|(refine ⟨fun hc => ?_, fun hc => ?_⟩)|(intro hc; try omega))
    rw [hg]
    refine hL2 _ (i + 1) (by omega) (by omega) ?_
    refine zAj ?_ ?_ ?_ <;> simp only [push_cast, seval, reduceCtorEq, Int.cast_ofNat_Int]
    done
  · obtain rfl : i = a.length := by omega
    have hra := zPK hlen
    have hends : (nextP a b c (stepP a b c k)).isSome = true := by
      by_cases hb : bestV a b c (stepP a b c k) < 0
      · rw [(zGj hm.hc hst.way hb).1]; rfl
      · obtain ⟨p', h4, _⟩ := zFc hm.hc hst.way hb
        rw [h4]; rfl
    have hpre2 : NextPre a b c (.deep 25 3 .int (stepP a b c k)) := ⟨by rw [zFu], by rw [zFu]; exact hst.way.shp, hm.hc, by rw [zFu]; exact hends⟩
    rcases Nat.lt_or_ge k (maxU a b) with hk | hk
    · have hb0 := (hst.more hm).2 hk
      obtain ⟨n1, n2, n3, n4, n5⟩ := hst.next hm hk
      replace hnl := And.intro hnl (And.intro hra (And.intro n2 (eq_true (show 0 ≤ bestV a b c (stepP a b c k) by omega))))
      replace hnl := And.intro hnl (eq_true (hq (zBA a b c k, nextN a b c (stepP a b c k), ())))
      by_cases he : enK a b c p k = true
      · have hfk : zDV a b c p = k := zMo hI.le hI.no (.inr he)
        replace hnl := And.intro hnl (show p (zBA a b c k, nextN a b c (stepP a b c k), ()) = true from he)
        repeat' (first|(refine goK (by assumption) ?_; iterate 4 (try clear hK K))|(refine zAd fun K hK => ?_)|((first|refine zAb hE rfl ?_|refine zAh ?_); simp +contextual only [hnl, ↓kN, ↓kP, ↓kG, ↓qN, ↓qP, ↓qG, push_cast, seval, reduceCtorEq, Int.cast_ofNat_Int])|refine zAc ?_|((first|refine zAg ?_|refine zAf ?_); simp only [thenQ, zAk, if_true, if_false, Nat.reduceEqDiff, reduceCtorEq])|(refine zAe (by rfl) (fun hb => ?_) (fun hb => ?_) <;> (try simp only [b1, b2, b3, b4, reduceCtorEq, b5, b6] at hb) <;> (try omega))|refine zAi (by rfl) ?_ ?_|refine andS ?_|(refine ⟨fun hc => ?_, fun hc => ?_⟩)|(intro hc; try omega))
        repeat' (first|(refine goP (by assumption) ?_; iterate 4 (try clear hK K))|(refine zDo fun K hK => ?_)|(refine zBM ?_; refine zAb hE rfl ?_; simp +contextual only [hnl, ↓kN, ↓kP, ↓kG, ↓qN, ↓qP, ↓qG, push_cast, seval, reduceCtorEq, Int.cast_ofNat_Int])|(refine zBM ?_; (refine zDA hE 3 [0] rfl (by decide +kernel) ?_; simp only [List.length_cons, List.length_nil, Nat.reduceAdd, Nat.reduceSub, List.take_succ_cons, List.take_zero, List.drop_succ_cons, List.drop_zero, pickM, headM, List.filterMap_cons, List.filterMap_nil, List.getElem?_cons_zero, List.getElem?_cons_succ, List.contains_cons, List.contains_nil, Nat.reduceBEq, Bool.or_false, Bool.false_or, Bool.true_or, Bool.or_true, if_true, Bool.false_eq_true, if_false, List.cons_append, List.nil_append]; simp +contextual only [hnl, ↓kN, ↓kP, ↓kG, ↓qN, ↓qP, ↓qG, push_cast, seval, reduceCtorEq, Int.cast_ofNat_Int]))|first|(refine goK (by assumption) ?_; iterate 4 (try clear hK K))|(refine zAd fun K hK => ?_)|((first|refine zAb hE rfl ?_|refine zAh ?_); simp +contextual only [hnl, ↓kN, ↓kP, ↓kG, ↓qN, ↓qP, ↓qG, push_cast, seval, reduceCtorEq, Int.cast_ofNat_Int])|refine zAc ?_|((first|refine zAg ?_|refine zAf ?_); simp only [thenQ, zAk, if_true, if_false, Nat.reduceEqDiff, reduceCtorEq])|(refine zAe (by rfl) (fun hb => ?_) (fun hb => ?_) <;> (try simp only [b1, b2, b3, b4, reduceCtorEq, b5, b6] at hb) <;> (try omega))|refine zAi (by rfl) ?_ ?_|refine andS ?_|(refine ⟨fun hc => ?_, fun hc => ?_⟩)|(intro hc; try omega))
        rw [hfk]
        refine zG8 (b := true) (by rfl) (fun _ => ?_) (fun hb => absurd hb (by decide))
        refine zJ4 (t := AS.of [(8, .one (.box 8))] [] [(8, .rcd [.val (.sl (.sl .int)) (stepP a b c k), .val (.sl .int) (zBA a b c k)])]) (by refine zAj ?_ ?_ ?_ <;> simp only [push_cast, seval, reduceCtorEq, Int.cast_ofNat_Int]) ?_; obtain ⟨fs, hT⟩ := hT; refine zH4 hE hT rfl ?_; simp +contextual only [hnl, ↓kN, ↓kP, ↓kG, ↓qN, ↓qP, ↓qG, push_cast, seval, reduceCtorEq, Int.cast_ofNat_Int]
      · replace hnl := And.intro hnl (show p (zBA a b c k, nextN a b c (stepP a b c k), ()) = false from (Bool.not_eq_true _).mp he)
        have h17 := zHM a b c k
        have h18 := zJC a b c (Nat.le_refl k)
        have h19 := zGn hm k hI.le
        repeat' (first|(refine goK (by assumption) ?_; iterate 4 (try clear hK K))|(refine zAd fun K hK => ?_)|((first|refine zAb hE rfl ?_|refine zAh ?_); simp +contextual only [hnl, ↓kN, ↓kP, ↓kG, ↓qN, ↓qP, ↓qG, push_cast, seval, reduceCtorEq, Int.cast_ofNat_Int])|refine zAc ?_|((first|refine zAg ?_|refine zAf ?_); simp only [thenQ, zAk, if_true, if_false, Nat.reduceEqDiff, reduceCtorEq])|(refine zAe (by rfl) (fun hb => ?_) (fun hb => ?_) <;> (try simp only [b1, b2, b3, b4, reduceCtorEq, b5, b6] at hb) <;> (try omega))|refine zAi (by rfl) ?_ ?_|refine andS ?_|(refine ⟨fun hc => ?_, fun hc => ?_⟩)|(intro hc; try omega))
        repeat' (first|(refine goP (by assumption) ?_; iterate 4 (try clear hK K))|(refine zDo fun K hK => ?_)|(refine zBM ?_; refine zAb hE rfl ?_; simp +contextual only [hnl, ↓kN, ↓kP, ↓kG, ↓qN, ↓qP, ↓qG, push_cast, seval, reduceCtorEq, Int.cast_ofNat_Int])|(refine zBM ?_; (refine zDA hE 3 [0] rfl (by decide +kernel) ?_; simp only [List.length_cons, List.length_nil, Nat.reduceAdd, Nat.reduceSub, List.take_succ_cons, List.take_zero, List.drop_succ_cons, List.drop_zero, pickM, headM, List.filterMap_cons, List.filterMap_nil, List.getElem?_cons_zero, List.getElem?_cons_succ, List.contains_cons, List.contains_nil, Nat.reduceBEq, Bool.or_false, Bool.false_or, Bool.true_or, Bool.or_true, if_true, Bool.false_eq_true, if_false, List.cons_append, List.nil_append]; simp +contextual only [hnl, ↓kN, ↓kP, ↓kG, ↓qN, ↓qP, ↓qG, push_cast, seval, reduceCtorEq, Int.cast_ofNat_Int]))|first|(refine goK (by assumption) ?_; iterate 4 (try clear hK K))|(refine zAd fun K hK => ?_)|((first|refine zAb hE rfl ?_|refine zAh ?_); simp +contextual only [hnl, ↓kN, ↓kP, ↓kG, ↓qN, ↓qP, ↓qG, push_cast, seval, reduceCtorEq, Int.cast_ofNat_Int])|refine zAc ?_|((first|refine zAg ?_|refine zAf ?_); simp only [thenQ, zAk, if_true, if_false, Nat.reduceEqDiff, reduceCtorEq])|(refine zAe (by rfl) (fun hb => ?_) (fun hb => ?_) <;> (try simp only [b1, b2, b3, b4, reduceCtorEq, b5, b6] at hb) <;> (try omega))|refine zAi (by rfl) ?_ ?_|refine andS ?_|(refine ⟨fun hc => ?_, fun hc => ?_⟩)|(intro hc; try omega))
        refine zG8 (b := false) (by rfl) (fun hb => absurd hb (by decide)) (fun _ => zPW ?_)
        repeat' (first|(refine goP (by assumption) ?_; iterate 4 (try clear hK K))|(refine zDo fun K hK => ?_)|(refine zBM ?_; refine zAb hE rfl ?_; simp +contextual only [hnl, ↓kN, ↓kP, ↓kG, ↓qN, ↓qP, ↓qG, push_cast, seval, reduceCtorEq, Int.cast_ofNat_Int])|(refine zBM ?_; (refine zDA hE 3 [0] rfl (by decide +kernel) ?_; simp only [List.length_cons, List.length_nil, Nat.reduceAdd, Nat.reduceSub, List.take_succ_cons, List.take_zero, List.drop_succ_cons, List.drop_zero, pickM, headM, List.filterMap_cons, List.filterMap_nil, List.getElem?_cons_zero, List.getElem?_cons_succ, List.contains_cons, List.contains_nil, Nat.reduceBEq, Bool.or_false, Bool.false_or, Bool.true_or, Bool.or_true, if_true, Bool.false_eq_true, if_false, List.cons_append, List.nil_append]; simp +contextual only [hnl, ↓kN, ↓kP, ↓kG, ↓qN, ↓qP, ↓qG, push_cast, seval, reduceCtorEq, Int.cast_ofNat_Int]))|first|(refine goK (by assumption) ?_; iterate 4 (try clear hK K))|(refine zAd fun K hK => ?_)|((first|refine zAb hE rfl ?_|refine zAh ?_); simp +contextual only [hnl, ↓kN, ↓kP, ↓kG, ↓qN, ↓qP, ↓qG, push_cast, seval, reduceCtorEq, Int.cast_ofNat_Int])|refine zAc ?_|((first|refine zAg ?_|refine zAf ?_); simp only [thenQ, zAk, if_true, if_false, Nat.reduceEqDiff, reduceCtorEq])|(refine zAe (by rfl) (fun hb => ?_) (fun hb => ?_) <;> (try simp only [b1, b2, b3, b4, reduceCtorEq, b5, b6] at hb) <;> (try omega))|refine zAi (by rfl) ?_ ?_|refine andS ?_|(refine ⟨fun hc => ?_, fun hc => ?_⟩)|(intro hc; try omega))
        have e2 : (((zBA a b c k).length : Int) - 1).toNat = k := by omega
        have n4' : 0 ≤ nextN a b c (stepP a b c k) ∧ nextN a b c (stepP a b c k) ≤ 99 := ⟨n4, n5⟩
        have hmx := zL7 hm
        rw [e2, h18]
        refine ⟨by unfold InR; omega, ⟨by omega, by omega⟩, by omega, by unfold InR; omega, rfl, by omega, ?_⟩
        have e3 : zBA a b c k ++ [partV a b c k + nextN a b c (stepP a b c k)] = zBA a b c (k + 1) := (zK5 a b c k).symm
        refine hL _ (k + 1) ⟨by omega, fun m hmk => ?_⟩ (by omega) ?_
        · rcases Nat.lt_or_ge m k with h | h
          · exact hI.no m h
          · obtain rfl : m = k := by omega
            exact (Bool.not_eq_true _).mp he
        refine zAj ?_ ?_ ?_ <;> simp only [push_cast, seval, reduceCtorEq, Int.cast_ofNat_Int]
        rw [e3]
        exact .inl rfl
    · have hb0 : bestV a b c (stepP a b c k) < 0 := by
        have := (hst.more hm).1
        omega
      obtain ⟨n2, _, _⟩ := zGj hm.hc hst.way hb0
      replace hnl := And.intro hnl (And.intro hra (And.intro n2 (eq_false (show ¬ 0 ≤ bestV a b c (stepP a b c k) by omega))))
      have hfk : zDV a b c p = k := zMo hI.le hI.no (.inl (by have := hI.le; omega))
      repeat' (first|(refine goK (by assumption) ?_; iterate 4 (try clear hK K))|(refine zAd fun K hK => ?_)|((first|refine zAb hE rfl ?_|refine zAh ?_); simp +contextual only [hnl, ↓kN, ↓kP, ↓kG, ↓qN, ↓qP, ↓qG, push_cast, seval, reduceCtorEq, Int.cast_ofNat_Int])|refine zAc ?_|((first|refine zAg ?_|refine zAf ?_); simp only [thenQ, zAk, if_true, if_false, Nat.reduceEqDiff, reduceCtorEq])|(refine zAe (by rfl) (fun hb => ?_) (fun hb => ?_) <;> (try simp only [b1, b2, b3, b4, reduceCtorEq, b5, b6] at hb) <;> (try omega))|refine zAi (by rfl) ?_ ?_|refine andS ?_|(refine ⟨fun hc => ?_, fun hc => ?_⟩)|(intro hc; try omega))
      repeat' (first|(refine goP (by assumption) ?_; iterate 4 (try clear hK K))|(refine zDo fun K hK => ?_)|(refine zBM ?_; refine zAb hE rfl ?_; simp +contextual only [hnl, ↓kN, ↓kP, ↓kG, ↓qN, ↓qP, ↓qG, push_cast, seval, reduceCtorEq, Int.cast_ofNat_Int])|(refine zBM ?_; (refine zDA hE 3 [0] rfl (by decide +kernel) ?_; simp only [List.length_cons, List.length_nil, Nat.reduceAdd, Nat.reduceSub, List.take_succ_cons, List.take_zero, List.drop_succ_cons, List.drop_zero, pickM, headM, List.filterMap_cons, List.filterMap_nil, List.getElem?_cons_zero, List.getElem?_cons_succ, List.contains_cons, List.contains_nil, Nat.reduceBEq, Bool.or_false, Bool.false_or, Bool.true_or, Bool.or_true, if_true, Bool.false_eq_true, if_false, List.cons_append, List.nil_append]; simp +contextual only [hnl, ↓kN, ↓kP, ↓kG, ↓qN, ↓qP, ↓qG, push_cast, seval, reduceCtorEq, Int.cast_ofNat_Int]))|first|(refine goK (by assumption) ?_; iterate 4 (try clear hK K))|(refine zAd fun K hK => ?_)|((first|refine zAb hE rfl ?_|refine zAh ?_); simp +contextual only [hnl, ↓kN, ↓kP, ↓kG, ↓qN, ↓qP, ↓qG, push_cast, seval, reduceCtorEq, Int.cast_ofNat_Int])|refine zAc ?_|((first|refine zAg ?_|refine zAf ?_); simp only [thenQ, zAk, if_true, if_false, Nat.reduceEqDiff, reduceCtorEq])|(refine zAe (by rfl) (fun hb => ?_) (fun hb => ?_) <;> (try simp only [b1, b2, b3, b4, reduceCtorEq, b5, b6] at hb) <;> (try omega))|refine zAi (by rfl) ?_ ?_|refine andS ?_|(refine ⟨fun hc => ?_, fun hc => ?_⟩)|(intro hc; try omega))
      rw [hfk]
      refine zG8 (b := true) (by rfl) (fun _ => ?_) (fun hb => absurd hb (by decide))
      refine zJ4 (t := AS.of [(8, .one (.box 8))] [] [(8, .rcd [.val (.sl (.sl .int)) (stepP a b c k), .val (.sl .int) (zBA a b c k)])]) (by refine zAj ?_ ?_ ?_ <;> simp only [push_cast, seval, reduceCtorEq, Int.cast_ofNat_Int]) ?_; obtain ⟨fs, hT⟩ := hT; refine zH4 hE hT rfl ?_; simp +contextual only [hnl, ↓kN, ↓kP, ↓kG, ↓qN, ↓qP, ↓qG, push_cast, seval, reduceCtorEq, Int.cast_ofNat_Int]
end Go.Proofs.YtlgkplnifaoeeaaGreatDoor
namespace Go.Proofs.YtlgkplnifaoeeaaGreatDoor
open Go.RowKit Go.VS Go.OT
theorem zRc (xt : TypeId) (v : Value) (w : World) : (Instr.typeAssert (.iface 183 v) xt 183 true).run Tryz.prog w = .ok (.tuple #[v, .bool true]) w := by
  have hu := run_underlying (P := Tryz.prog) Tryz.underlying183 w
  simp [Instr.typeAssert, hu]
theorem zP0 {w : World} {g : Nat} {t : TypeId} {x y : Value} (h : w.heap[g]? = some (.cells #[x, y] t (0, 0))) (u v : Value) :
    w.cell? ⟨g, 0, none⟩ = some x ∧ w.frozen? ⟨g, 0, none⟩ = false ∧ (w.setCell ⟨g, 0, none⟩ u).cell? ⟨g, 1, none⟩ = some y ∧ (w.setCell ⟨g, 0, none⟩ u).frozen? ⟨g, 1, none⟩ = false ∧
    ((w.setCell ⟨g, 0, none⟩ u).setCell ⟨g, 1, none⟩ v).heap[g]? = some (.cells #[u, v] t (0, 0)) ∧ Keep (fun k => k = g) w ((w.setCell ⟨g, 0, none⟩ u).setCell ⟨g, 1, none⟩ v) := by
  have e1 : w.setCell ⟨g, 0, none⟩ u = w.setRow g #[u, y] := setCell_eq_setRow w g 0 #[x, y] t (0, 0) u h
  have h1 : (w.setRow g #[u, y]).heap[g]? = some (.cells #[u, y] t (0, 0)) := setRow_heap w g _ _ t _ h
  have e2 : (w.setRow g #[u, y]).setCell ⟨g, 1, none⟩ v = (w.setRow g #[u, y]).setRow g #[u, v] := setCell_eq_setRow _ g 1 #[u, y] t (0, 0) v h1
  rw [e1, e2]
  refine ⟨by simp [World.cell?, h], by simp [World.frozen?, h], by simp [World.cell?, h1], by simp [World.frozen?, h1], setRow_heap _ g _ _ t _ h1, ⟨rfl, rfl, rfl, by simp [World.setRow], fun k hk hne => ?_⟩⟩
  rw [setRow_other _ g k _ hne, setRow_other _ g k _ hne]
theorem zKB (b : Nat) (a1 a2 : Option Addr) (n1 c1 n2 c2 : Nat) (w : World) (t : TypeId) (x y : Value) (hb : w.heap[b]? = some (.cells #[x, y] t (0, 0))) :
    CallsD Tryz.prog 215 #[.pointer (some ⟨b, 0, none⟩)] (.panicking [{ v := .iface 183 (.agg #[.slice a1 n1 c1, .slice a2 n2 c2]), recovered := false }]) w fun e u' w' =>
      e = .returned (.tuple #[]) ∧ u' = .panicking [{ v := .iface 183 (.agg #[.slice a1 n1 c1, .slice a2 n2 c2]), recovered := true }] ∧
      Keep (fun k => k = b) w w' ∧ w'.heap[b]? = some (.cells #[.slice a1 n1 c1, .slice a2 n2 c2] t (0, 0)) := by
  refine callsD_of_wpS Tryz.func215 rfl fun c₀ cs hu => ?_
  apply wpS_seq
  apply wpS_region
  simp [wpOpsS, go_sem, recoverD, hu, Tryz.ntmps215, Exit.thenS]
  apply wpS_seq
  apply wpS_region
  simp [wpOpsS, go_sem, Exit.thenS, zRc]
  have hblt : b < w.heap.size := (Array.getElem?_eq_some_iff.1 hb).1
  have h1 : (w.alloc (.cells #[.slice a1 n1 c1, .slice a2 n2 c2] 183)).heap[w.heap.size]? = some (.cells #[.slice a1 n1 c1, .slice a2 n2 c2] 183 (0, 0)) := by simp only [World.alloc, Array.getElem?_push, if_true]
  have h2 : (w.alloc (.cells #[.slice a1 n1 c1, .slice a2 n2 c2] 183)).heap[b]? = some (.cells #[x, y] t (0, 0)) := by
    simp only [World.alloc, Array.getElem?_push]
    rw [if_neg (by omega)]
    exact hb
  obtain ⟨W, hW⟩ : ∃ W, W = w.alloc (.cells #[.slice a1 n1 c1, .slice a2 n2 c2] 183) := ⟨_, rfl⟩
  have hkW : Keep (fun k => k = b) w W := by
    rw [hW]
    exact ⟨rfl, rfl, rfl, by simp only [World.alloc, Array.size_push]; omega, fun k hk _ => by simp only [World.alloc, Array.getElem?_push]; rw [if_neg (by omega)]⟩
  rw [← hW] at h1 h2 ⊢
  have l0 : W.cell? ⟨w.heap.size, 0, none⟩ = some (.slice a1 n1 c1) := by simp [World.cell?, h1]
  have l1 : W.cell? ⟨w.heap.size, 1, none⟩ = some (.slice a2 n2 c2) := by simp [World.cell?, h1]
  obtain ⟨e1, e2, e3, e4, e5, e6⟩ := zP0 h2 (.slice a1 n1 c1) (.slice a2 n2 c2)
  apply wpS_seq
  apply wpS_seq
  apply wpS_region
  simp [wpOpsS, go_sem, Exit.thenS]
  refine wpS_cond (t := false) (by simp [Act.eval, Array.replicate]) ?_
  simp only [Bool.false_eq_true, if_false]
  refine wpS_of_wp (wp_skip ?_)
  simp only [Exit.thenS]
  apply wpS_region
  simp [wpOpsS, go_sem, Exit.thenS, l0, l1, e1, e2, e3, e4, bodyPostS, results, Tryz.results215]
  exact ⟨hkW.step e6 (fun k hk _ => hk), e5⟩
@[push_cast] def zO1 : Con := ⟨zMj, fun (x : zNT) => MC x.1 x.2.1 x.2.2.1 ∧ ∀ y, x.2.2.2.1.1 y,
  fun (x : zNT) => { res := [.val (.prod (.sl (.sl .int)) (.sl .int)) (stepP x.1 x.2.1 x.2.2.1 (zDV x.1 x.2.1 x.2.2.1 x.2.2.2.1.2), zBA x.1 x.2.1 x.2.2.1 (zDV x.1 x.2.1 x.2.2.1 x.2.2.2.1.2))] }⟩
set_option maxRecDepth 20000 in
theorem zO2 : FnSpec Tryz.prog 182 zO1 := by
  refine ⟨⟨_, Tryz.func182, by kernel_rfl, rfl⟩, fun C γ x vs hpre hen => ?_⟩
  have hP := hen.P
  have hlt := hen.ownlt
  obtain ⟨hm, hq⟩ := hpre
  have hargs := hen.args
  obtain ⟨(a : List Int), (b : List Int), (c : List (List Int)), ⟨(q : List Int × Int × Unit → Prop), (p : List Int × Int × Unit → Bool)⟩, _⟩ := x
  dsimp only at hm hq
  obtain ⟨va, _, rfl, ha, vb, _, rfl, hb, vc, _, rfl, hc, vf, _, rfl, hf, rfl⟩ := hargs
  have hmf : ∀ (fn : Fn) (first cap : Array Value) (w : World), (Instr.makeFunc fn first cap).run Tryz.prog w = .ok (.func fn first cap) w := fun _ _ _ _ => rfl
  show Calls _ _ #[va, vb, vc, vf] C.w0 _
  obtain ⟨w, hw⟩ : ∃ w, w = C.w0 := ⟨_, rfl⟩
  obtain ⟨W, hW⟩ : ∃ W, W = w.alloc (.cells #[.slice none 0 0, .slice none 0 0] 183) := ⟨_, rfl⟩
  have hsz : W.heap.size = w.heap.size + 1 := by rw [hW]; simp only [World.alloc, Array.size_push]
  have hold : ∀ k, k < w.heap.size → W.heap[k]? = w.heap[k]? := fun k hk => by rw [hW]; simp only [World.alloc, Array.getElem?_push]; rw [if_neg (by omega)]
  have hnew : W.heap[w.heap.size]? = some (.cells #[.slice none 0 0, .slice none 0 0] 183 (0, 0)) := by rw [hW]; simp only [World.alloc, Array.getElem?_push, if_true]
  have hkW : ∀ L, Keep L w W := fun L => ⟨by rw [hW]; rfl, by rw [hW]; rfl, by rw [hW]; rfl, by omega, fun k hk _ => hold k hk⟩
  let C1 : Ctx := ⟨Tryz.prog, fun _ => False, W, fun b => C.zn γ b ∧ b < w.heap.size, 0, fun _ => undef, fun _ => 0, []⟩
  let γ1 : Gam := ⟨fun _ => ⟨none, 0, 0⟩, fun _ _ => ⟨none, 0, 0⟩, fun _ => 0, fun _ => none⟩
  have hmono : ∀ (s : Sh) (x : s.T) v, vrep w (C.zn γ) s x v → vrep W (C1.zn γ1) s x v := fun s x v ⟨cs, h1, h2⟩ => ⟨cs, zAs (by omega) (fun b hb hz => ⟨⟨.inl ⟨hz, hb⟩, rfl⟩, hold b hb⟩) s x cs h1, h2⟩
  rw [← hw] at ha hb hc
  have hf' : FnOK C1.P C1.L C1.w0 [.sl .int, .int] .bool q p vf := by
    obtain ⟨f, pre, caps, e1, e2, e3⟩ := hf
    rw [hP] at e2 e3
    exact ⟨f, pre, caps, e1, e2, fun w1 Z x vs hk hg hqx hargs => e3 w1 Z x vs (by rw [← hw]; exact (hkW C.L).step hk (fun b hb _ => hb.elim)) hg hqx hargs⟩
  have hgd : Gd C1.P C1.w0 := by
    have h1 := hen.ds.2.gd
    rw [hP, ← hw] at h1
    exact h1.later (hkW _)
  have hcall := zNu C1 γ1 (a, b, c, (q, p), ()) [va, vb, vc, vf] hm hq ⟨rfl, rfl, ⟨rfl, hgd, fun k hk => hk.elim⟩, fun r hr => absurd hr (Nat.not_lt_zero _), fun k l h => (by cases h), ⟨va, _, rfl, hmono _ _ _ ha, vb, _, rfl, hmono _ _ _ hb, vc, _, rfl, hmono _ _ _ hc, vf, _, rfl, hf', rfl⟩, fun p hp => (by cases hp), fun p hp => (by cases hp)⟩
  rw [← hw]
  go_enter_defers Tryz.func182, Tryz.ntmps182
  rw [show [va, vb, vc, vf].toArray = #[va, vb, vc, vf] from rfl] at hcall
  have hcall' : Calls Tryz.prog 216 #[va, vb, vc, vf] (C.w0.alloc (.cells #[.slice none 0 0, .slice none 0 0] 183)) (fun e w' => ∃ ch, e = .panicked ch ∧ zGr C1 183 (.sl (.sl .int)) (.sl .int) (stepP a b c (zDV a b c p)) (zBA a b c (zDV a b c p)) ch w') := by rw [← hw, ← hW]; exact hcall
  go_wp2_with (go_at_call 216; refine hcall'.mono ?_; rintro e w2 ⟨ch, rfl, g1, u, v, rfl, ⟨cu, hu, rfl⟩, ⟨cv, hv, rfl⟩, hk⟩)
  rw [← hw]
  have hu' := hu
  have hv' := hv
  obtain ⟨a1, c1, rfl, _⟩ := hu'
  obtain ⟨a2, c2, rfl, _⟩ := hv'
  have hb2 : w2.heap[w.heap.size]? = some (.cells #[.slice none 0 0, .slice none 0 0] 183 (0, 0)) := (hk.block w.heap.size (show w.heap.size < W.heap.size by omega) (fun h => h)).trans hnew
  have hk2 : Keep C.L w w2 := (hkW C.L).step hk (fun b hb _ => hb.elim)
  have hmono2 : ∀ (w3 : World), Keep (fun k => k = w.heap.size) w2 w3 → ∀ (s : Sh) (x : s.T) cs, pers w2 (C1.zn g1) s x cs → pers w3 (C.zn γ) s x cs := fun w3 hk3 s x cs hx => by
    refine zAs hk3.size (fun b hb hz => ?_) s x cs hx
    obtain ⟨hz1, _⟩ := hz
    rcases hz1 with ⟨h1, h2⟩ | h1 | h1
    · exact ⟨h1, hk3.block b hb (by omega)⟩
    · have h1' : W.heap.size ≤ b := h1
      refine ⟨⟨.inr (.inl (by rw [← hw]; omega)), ?_⟩, hk3.block b hb (by omega)⟩
      cases ho : γ.own b with
      | none => rfl
      | some l => exact absurd (hlt b l ho) (by rw [← hw]; omega)
    · exact h1.elim
  show Leaves Tryz.prog _ _ _ _ (.panicking _) w2
  refine leaves_cons (f := 215) (args := #[.pointer (some ⟨w.heap.size, 0, none⟩)]) (by simp) (by simp [go_sem]) ?_
  refine (zKB w.heap.size a1 a2 _ c1 _ c2 w2 _ _ _ hb2).mono ?_
  rintro e u' w3 ⟨rfl, rfl, hk3, hc3⟩
  have k0 : w3.cell? ⟨w.heap.size, 0, none⟩ = some (.slice a1 (stepP a b c (zDV a b c p)).length c1) := by simp [World.cell?, hc3]
  have k1 : w3.cell? ⟨w.heap.size, 1, none⟩ = some (.slice a2 (zBA a b c (zDV a b c p)).length c2) := by simp [World.cell?, hc3]
  have hu3 := hmono2 w3 hk3 _ _ _ hu
  have hv3 := hmono2 w3 hk3 _ _ _ hv
  have hkeep : Keep C.L w w3 := hk2.step hk3 (fun b hb hlt => absurd hlt (by omega))
  simp [Leaves, settle, results, Tryz.results182, go_sem, k0, k1]
  exact ⟨⟨γ, ⟨[], [], [_], rfl, ⟨_, [], rfl, ⟨_, ⟨_, _, rfl, hu3, hv3⟩, rfl⟩, rfl, rfl, rfl⟩, List.nodup_nil, List.nodup_nil⟩, fun p hp => absurd hp (List.not_mem_nil), fun p hp => absurd hp (List.not_mem_nil), fun k l hl => by have h1 := hlt k l hl; rw [← hw] at h1; have := hkeep.size; omega⟩, hkeep⟩
end Go.Proofs.YtlgkplnifaoeeaaGreatDoor
