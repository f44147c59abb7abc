import Derived.Test.YtlgkplnifaoeeaaGreatDoorJ18
import Derived.Test.YtlgkplnifaoeeaaGreatDoorJ17
set_option linter.unusedSimpArgs false
set_option linter.unusedVariables false
namespace Go.Proofs.YtlgkplnifaoeeaaGreatDoor
open Go.RowKit Go.VS
theorem zIu {α β : Type} (f : α → β) (l : List α) (i : Nat) (d : α) : (l.map f).getD i (f d) = f (l.getD i d) := by
  rw [List.getD_eq_getElem?_getD, List.getD_eq_getElem?_getD, List.getElem?_map]
  cases l[i]? <;> rfl
set_option maxHeartbeats 4000000 in
theorem zNc : FnSpec Tryz.prog 40 zGi := by
  refine FnSpec.of_tri' (E := know [(33, zGW)] [] [] []) (zAn (all_cons zJI all_nil) all_nil all_nil) Tryz.func40 rfl rfl (by kernel_rfl) ?_
  intro C x hE hnl hfit hpre
  simp only [Tryz.ntmps40, Tryz.results40, maxLen, Nat.reduceSub, Nat.reducePow, Nat.reduceAdd, Int.cast_ofNat_Int, push_cast] at hnl hfit hpre ⊢
  obtain ⟨(a : ByteArray), (b : ByteArray), _⟩ := x
  dsimp only at hfit hpre ⊢
  have hem : ({ data := #[] } : ByteArray) = ByteArray.empty := rfl
  have hl1 := zCJ 60 a 0
  have hl2 := zCJ 60 b 0
  obtain ⟨⟨l, r⟩, h1⟩ : ∃ p, zAU 60 a 0 = p := ⟨_, rfl⟩
  obtain ⟨⟨m, o⟩, h2⟩ : ∃ p, zAU 60 b 0 = p := ⟨_, rfl⟩
  rw [h1] at hl1
  rw [h2] at hl2
  dsimp only at hl1 hl2
  have z1 : (l.map Prod.fst).length = l.length := List.length_map ..
  have z2 : (l.map Prod.snd).length = l.length := List.length_map ..
  have z3 : (m.map Prod.fst).length = m.length := List.length_map ..
  have z4 : (m.map Prod.snd).length = m.length := List.length_map ..
  replace hnl := And.intro hnl (And.intro z1 (And.intro z2 (And.intro z3 z4)))
  by_cases hro : r = ByteArray.empty ∧ o = ByteArray.empty
  rotate_left
  · have hv := zRD (a := a) (b := b) (l := l) (m := m) hro
    by_cases hr : r = ByteArray.empty
    · have ho : ¬ o = ByteArray.empty := fun h => hro ⟨hr, h⟩
      subst hr
      replace hnl := And.intro hnl (And.intro hem (And.intro h1 (And.intro h2 (And.intro (eq_false ho) hv))))
      exact auB
    · replace hnl := And.intro hnl (And.intro hem (And.intro h1 (And.intro h2 (And.intro (eq_false hr) hv))))
      exact auB
  obtain ⟨rfl, rfl⟩ := hro
  have hnl0 := hnl
  replace hnl := And.intro hnl (And.intro hem (And.intro h1 h2))
  repeat' (first|(refine goK (by assumption) ?_; iterate 4 (try clear hK K))|(refine zAd fun K hK => ?_)|((first|refine zAb hE rfl ?_|refine zAh ?_|((first|refine zAa hE 1 rfl rfl (by kernel_rfl) ?_|refine zAa hE 2 rfl rfl (by kernel_rfl) ?_|refine zAa hE 3 rfl rfl (by kernel_rfl) ?_|refine zAa hE 4 rfl rfl (by kernel_rfl) ?_); simp only [List.length_cons, List.length_nil, Nat.reduceAdd, Nat.reduceSub, List.take_succ_cons, List.take_zero, List.drop_succ_cons, List.drop_zero])); simp +contextual only [hnl, ↓kN, ↓kP, ↓kG, ↓qN, ↓qP, ↓qG, push_cast, seval, reduceCtorEq, Int.cast_ofNat_Int])|refine zAc ?_|((first|refine zAg ?_|refine zAf ?_); simp only [thenQ, zAk, if_true, if_false, Nat.reduceEqDiff, reduceCtorEq])|(refine zAe (by rfl) (fun hb => ?_) (fun hb => ?_) <;> (try simp only [b1, b2, b3, b4, reduceCtorEq, b5, b6] at hb) <;> (try omega))|refine zAi (by rfl) ?_ ?_|refine andS ?_|(refine ⟨fun hc => ?_, fun hc => ?_⟩)|(intro hc; try omega))
  refine zAE (t := AS.of [(0, .one (.val .str a)), (1, .one (.val .str b)), (7, .one (.val (.sl .str) (l.map Prod.fst))), (8, .one (.val (.sl .int) (l.map Prod.snd))), (10, .one (.val (.sl .str) (m.map Prod.fst))), (11, .one (.val (.sl .int) (m.map Prod.snd))), (36, .I (min (l.length : Int) m.length)), (37, .I 0)] [] []) ?_ ?_
  · refine zAj ?_ ?_ ?_ <;> simp only [push_cast, seval, reduceCtorEq, Int.cast_ofNat_Int]
  refine zAp (fun i : Nat => AS.of [(0, .one (.val .str a)), (1, .one (.val .str b)), (7, .one (.val (.sl .str) (l.map Prod.fst))), (8, .one (.val (.sl .int) (l.map Prod.snd))), (10, .one (.val (.sl .str) (m.map Prod.fst))), (11, .one (.val (.sl .int) (m.map Prod.snd))), (36, .I (min (l.length : Int) m.length)), (37, .I i)] [] []) (fun i => i ≤ fdiff l m) (fun i => fdiff l m - i) 0 (Nat.zero_le _) ?_ ?_
  · refine zAj ?_ ?_ ?_ <;> simp only [push_cast, seval, reduceCtorEq, Int.cast_ofNat_Int]
  intro i hi K' hL
  have hfl := zIm l m
  have q1 := zIu Prod.fst l i (ByteArray.empty, (0 : Int))
  have q2 := zIu Prod.snd l i (ByteArray.empty, (0 : Int))
  have q3 := zIu Prod.fst m i (ByteArray.empty, (0 : Int))
  have q4 := zIu Prod.snd m i (ByteArray.empty, (0 : Int))
  dsimp only at q1 q2 q3 q4
  rcases Nat.lt_or_ge i (fdiff l m) with hi2 | hi2
  · have he := zIl (ByteArray.empty, 0) l m i hi2
    have c1 : i < l.length := by omega
    have c2 : i < m.length := by omega
    replace hnl := And.intro hnl0 (And.intro hem (And.intro q1 (And.intro q2 (And.intro q3 (And.intro q4 he)))))
    repeat' (first|(refine goK (by assumption) ?_; iterate 4 (try clear hK K))|(refine zAd fun K hK => ?_)|((first|refine zAb hE rfl ?_|refine zAh ?_|((first|refine zAa hE 1 rfl rfl (by kernel_rfl) ?_|refine zAa hE 2 rfl rfl (by kernel_rfl) ?_|refine zAa hE 3 rfl rfl (by kernel_rfl) ?_|refine zAa hE 4 rfl rfl (by kernel_rfl) ?_); simp only [List.length_cons, List.length_nil, Nat.reduceAdd, Nat.reduceSub, List.take_succ_cons, List.take_zero, List.drop_succ_cons, List.drop_zero])); simp +contextual only [hnl, ↓kN, ↓kP, ↓kG, ↓qN, ↓qP, ↓qG, push_cast, seval, reduceCtorEq, Int.cast_ofNat_Int])|refine zAc ?_|((first|refine zAg ?_|refine zAf ?_); simp only [thenQ, zAk, if_true, if_false, Nat.reduceEqDiff, reduceCtorEq])|(refine zAe (by rfl) (fun hb => ?_) (fun hb => ?_) <;> (try simp only [b1, b2, b3, b4, reduceCtorEq, b5, b6] at hb) <;> (try omega))|refine zAi (by rfl) ?_ ?_|refine andS ?_|(refine ⟨fun hc => ?_, fun hc => ?_⟩)|(intro hc; try omega))
    refine hL _ (i + 1) hi2 (by omega) ?_
    refine zAj ?_ ?_ ?_ <;> simp only [push_cast, seval, reduceCtorEq, Int.cast_ofNat_Int]
  · obtain rfl : i = fdiff l m := by omega
    by_cases hd : fdiff l m < l.length ∧ fdiff l m < m.length
    · have he := zIn (ByteArray.empty, 0) l m hd.1 hd.2
      have hv := zRE (a := a) (b := b) (r := ByteArray.empty) (o := ByteArray.empty) ⟨rfl, rfl⟩ hd
      have hd1 := hd.1
      have hd2 := hd.2
      by_cases hf : (l.getD (fdiff l m) (ByteArray.empty, 0)).1 = (m.getD (fdiff l m) (ByteArray.empty, 0)).1
      · have hs : ¬ (l.getD (fdiff l m) (ByteArray.empty, 0)).2 = (m.getD (fdiff l m) (ByteArray.empty, 0)).2 := fun h => he (Prod.ext hf h)
        replace hnl := And.intro hnl0 (And.intro hem (And.intro q1 (And.intro q2 (And.intro q3 (And.intro q4 (And.intro (eq_true hf) (And.intro (eq_false hs) (And.intro h1 (And.intro h2 hv)))))))))
        exact auB
      · replace hnl := And.intro hnl0 (And.intro hem (And.intro q1 (And.intro q2 (And.intro q3 (And.intro q4 (And.intro (eq_false hf) (And.intro h1 (And.intro h2 hv))))))))
        exact auB
    · by_cases h3 : l.length < m.length
      · have hv := zRF (a := a) (b := b) (r := ByteArray.empty) (o := ByteArray.empty) ⟨rfl, rfl⟩ hd h3
        replace hnl := And.intro hnl0 (And.intro hem (And.intro h1 (And.intro h2 hv)))
        exact auB
      · have hv := zRG (a := a) (b := b) (r := ByteArray.empty) (o := ByteArray.empty) ⟨rfl, rfl⟩ hd h3
        replace hnl := And.intro hnl0 (And.intro hem (And.intro h1 (And.intro h2 hv)))
        exact auB
@[push_cast] def zNd : Con := ⟨[.dat .str, .dat .str], fun _ => True, fun _ => { res := [.val .bool true] }⟩
theorem zJu : FnSpec Tryz.prog 9 zNd := by
  refine FnSpec.of_tri' (E := know [(18, zGG), (40, zGi), (41, zGi)] [] [] []) (zAn (all_cons zGH (all_cons zNc (all_cons zLe all_nil))) all_nil all_nil) Tryz.func9 rfl rfl (by kernel_rfl) ?_
  intro C x hE hnl hfit hpre
  simp only [Tryz.ntmps9, Tryz.results9, maxLen, Nat.reduceSub, Nat.reducePow, Nat.reduceAdd, Int.cast_ofNat_Int, push_cast] at hnl hfit hpre ⊢
  obtain ⟨(a : ByteArray), (b : ByteArray), _⟩ := x
  dsimp only at hfit hpre ⊢
  exact auA
end Go.Proofs.YtlgkplnifaoeeaaGreatDoor
namespace Go.Proofs.YtlgkplnifaoeeaaGreatDoor
open Go.RowKit Go.VS
@[push_cast] def zPE : Con := ⟨[.dat .str], fun _ => True, fun _ => { res := [.val .bool true] }⟩
theorem zK9 : FnSpec Tryz.prog 7 zPE := by
  refine FnSpec.of_tri' (E := know [(18, zGG), (33, zGW), (34, zGW), (35, zMi), (23, zLh)] [] [] []) (zAn (all_cons zGH (all_cons zJI (all_cons zNr (all_cons zNt (all_cons zHP all_nil))))) all_nil all_nil) Tryz.func7 rfl rfl (by kernel_rfl) ?_
  intro C x hE hnl hfit hpre
  simp only [Tryz.ntmps7, Tryz.results7, maxLen, Nat.reduceSub, Nat.reducePow, Nat.reduceAdd, Int.cast_ofNat_Int, push_cast] at hnl hfit hpre ⊢
  obtain ⟨(s : ByteArray), _⟩ := x
  dsimp only at hfit hpre ⊢
  exact auA
end Go.Proofs.YtlgkplnifaoeeaaGreatDoor
