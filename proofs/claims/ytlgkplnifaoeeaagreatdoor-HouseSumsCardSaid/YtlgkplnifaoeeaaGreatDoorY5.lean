import Derived.Test.YtlgkplnifaoeeaaGreatDoorY4
set_option linter.unusedSimpArgs false
set_option linter.unusedVariables false
namespace Go.Proofs.YtlgkplnifaoeeaaGreatDoor
open Go.RowKit Go.VS Go.OT
def deepI : RC → List (List Int)
  | .deep _ _ s xss => (zAM (.sl (.sl s)) (.sl (.sl .int)) xss).getD []
  | _ => []
@[push_cast] theorem zFv (e e2 : TypeId) (p : List (List Int)) : deepI (.deep e e2 .int p) = p := by
  simp only [deepI, zC8, Option.getD_some]
abbrev zLV := List Int × List Int × List (List Int) × RC × Unit
structure NextPre (a b : List Int) (c : List (List Int)) (rc : RC) : Prop where
  hrc : rc = .deep 25 3 .int (deepI rc)
  shp : Shp a b (deepI rc)
  hc : Tb a.length b.length 0 99 c
  ends : (nextP a b c (deepI rc)).isSome = true
@[push_cast] def zPy : Con := ⟨[.dat (.sl .int), .dat (.sl .int), .dat (.sl (.sl .int)), .lend], fun (x : zLV) => NextPre x.1 x.2.1 x.2.2.1 x.2.2.2.1,
  fun (x : zLV) => Out.mk [.val .int (nextN x.1 x.2.1 x.2.2.1 (deepI x.2.2.2.1)), .val .bool (decide (0 ≤ bestV x.1 x.2.1 x.2.2.1 (deepI x.2.2.2.1)))]
    [(0, .deep 25 3 .int ((nextP x.1 x.2.1 x.2.2.1 (deepI x.2.2.2.1)).getD []))] []⟩
section
variable {c p : List (List Int)} {i j : Nat} {s : Dst}
theorem zRo (h1 : s.ra.getD i 0 < far) (h2 : s.ra.getD i 0 + (c.getD i []).getD j 0 < s.ca.getD j 0) (hj : j < s.ca.length) :
    relax c p i j s = ⟨s.ra, s.rf, s.ca.set j (s.ra.getD i 0 + (c.getD i []).getD j 0), s.cf.set j (i : Int)⟩ := by
  unfold relax relaxC
  rw [if_pos ⟨h1, h2⟩]
  unfold relaxR
  dsimp only
  rw [zCt hj, if_pos rfl, if_neg (by omega)]
theorem zRn (h1 : ¬ (s.ra.getD i 0 < far ∧ s.ra.getD i 0 + (c.getD i []).getD j 0 < s.ca.getD j 0)) (h2 : 0 < (p.getD i []).getD j 0) (h3 : s.ca.getD j 0 < far) (h4 : s.ca.getD j 0 - (c.getD i []).getD j 0 < s.ra.getD i 0) :
    relax c p i j s = ⟨s.ra.set i (s.ca.getD j 0 - (c.getD i []).getD j 0), s.rf.set i (j : Int), s.ca, s.cf⟩ := by
  unfold relax relaxC
  rw [if_neg h1]
  unfold relaxR
  rw [if_pos ⟨h2, h3, h4⟩]
theorem zRm (h1 : ¬ (s.ra.getD i 0 < far ∧ s.ra.getD i 0 + (c.getD i []).getD j 0 < s.ca.getD j 0)) (h2 : ¬ (0 < (p.getD i []).getD j 0 ∧ s.ca.getD j 0 < far ∧ s.ca.getD j 0 - (c.getD i []).getD j 0 < s.ra.getD i 0)) :
    relax c p i j s = s := by
  unfold relax relaxC
  rw [if_neg h1]
  unfold relaxR
  rw [if_neg h2]
end
structure ChI (x : Dst) (R C : Nat) (p' : List (List Int)) (y : Nat × Int × List (List Int)) : Prop where
  n12 : y.1 ≤ 12
  tab : Tb R C (-(12 - (y.1 : Int))) (200 + (12 - (y.1 : Int))) y.2.2
  lo : -1 ≤ y.2.1
  hi : y.2.1 < C
  fol : Go.OT.follow x.rf x.cf y.1 y.2.1 y.2.2 = some p'
theorem Tb.addAt {R C : Nat} {lo hi d : Int} {q : List (List Int)} (h : Tb R C lo hi q) {i j : Nat} (hi' : i < R) (hj : j < C) (hd : -1 ≤ d ∧ d ≤ 1) : Tb R C (lo - 1) (hi + 1) (Go.OT.addAt q i j d) := by
  have h1 := h.sz.add (j := j) (d := d) hi'
  refine ⟨h1.rows, h1.cols, fun i' j' h2 h3 => ?_⟩
  have h4 := congrFun (congrFun (zEe (d := d) h.sz hi' hj) i') j'
  unfold gt bump at h4
  dsimp only at h4
  rw [h4]
  have := h.at' i' j' h2 h3
  split <;> omega
theorem Tb.mono {R C : Nat} {lo hi lo' hi' : Int} {q : List (List Int)} (h : Tb R C lo hi q) (h1 : lo' ≤ lo) (h2 : hi ≤ hi') : Tb R C lo' hi' q := ⟨h.rows, h.cols, fun i j a b => by have := h.at' i j a b; omega⟩
theorem Tb.addAt2 {R C : Nat} {lo hi d e : Int} {q : List (List Int)} (h : Tb R C lo hi q) {i j j' : Nat} (hi' : i < R) (hj : j < C) (hj' : j' < C) : Tb R C (lo - 1) (hi + 1) (Go.OT.addAt (Go.OT.addAt q i j 1) i j' (-1)) := by
  have h1 := (h.sz.add (j := j) (d := 1) hi').add (j := j') (d := -1) hi'
  refine ⟨h1.rows, h1.cols, fun i' j2 h2 h3 => ?_⟩
  have h4 := congrFun (congrFun (zEe (d := -1) (h.sz.add (j := j) (d := 1) hi') hi' hj') i') j2
  rw [zEe h.sz hi' hj] at h4
  unfold gt bump at h4
  dsimp only at h4
  rw [h4]
  have := h.at' i' j2 h2 h3
  split <;> split <;> omega
theorem zNe {rf cf : List Int} {n : Nat} {j : Int} {q p' : List (List Int)} (hj : 0 ≤ j) (h : Go.OT.follow rf cf n j q = some p') : ∃ m, n = m + 1 ∧ Go.OT.follow rf cf m (zCI rf cf j) (zBn rf cf j q) = some p' := by
  cases n with
  | zero =>
    have e : Go.OT.follow rf cf 0 j q = if j < 0 then some q else none := rfl
    rw [e, if_neg (by omega)] at h
    exact absurd h (by simp)
  | succ n =>
    have e : Go.OT.follow rf cf (n + 1) j q = if j < 0 then some q else Go.OT.follow rf cf n (zCI rf cf j) (zBn rf cf j q) := rfl
    rw [e, if_neg (by omega)] at h
    exact ⟨n, rfl, h⟩
set_option maxHeartbeats 4000000 in
theorem zPz : FnSpec Tryz.prog 189 zPy := by
  refine FnSpec.of_tri' (E := know [(218, zPd)] [] [] [37, 40, 43, 46]) (zAm (all_cons zPf all_nil) all_nil all_nil) Tryz.func189 rfl rfl (by kernel_rfl) ?_
  intro C x hE hnl hfit hpre
  simp only [Tryz.ntmps189, Tryz.results189, maxLen, Nat.reduceSub, Nat.reducePow, Nat.reduceAdd, Int.cast_ofNat_Int, push_cast] at hnl hfit hpre ⊢
  obtain ⟨(a : List Int), (b : List Int), (c : List (List Int)), (rc : RC), _⟩ := x
  dsimp only at hfit hpre ⊢
  obtain ⟨h1, h2, h3, h6⟩ := hpre
  generalize deepI rc = p at *
  subst h1
  have ha5 := h2.a5
  have hb5 := h2.b5
  have hrw := h2.rows
  have hcr := h3.rows
  have hls := LSt.all h2 p.length (Nat.le_refl _)
  have hl1 : (leftV a b p).1.length = a.length := hls.l1
  have hl2 : (leftV a b p).2.length = b.length := hls.l2
  repeat' (first|(refine goK (by assumption) ?_; iterate 4 (try clear hK K))|(refine zAd fun K hK => ?_)|((first|refine zAb hE rfl ?_|refine zAh ?_|((first|refine zAa hE 1 rfl rfl (by kernel_rfl) ?_|refine zAa hE 2 rfl rfl (by kernel_rfl) ?_|refine zAa hE 3 rfl rfl (by kernel_rfl) ?_|refine zAa hE 4 rfl rfl (by kernel_rfl) ?_); simp only [List.length_cons, List.length_nil, Nat.reduceAdd, Nat.reduceSub, List.take_succ_cons, List.take_zero, List.drop_succ_cons, List.drop_zero])); simp +contextual only [hnl, ↓kN, ↓kP, ↓kG, ↓qN, ↓qP, ↓qG, push_cast, seval, reduceCtorEq, Int.cast_ofNat_Int])|refine zAc ?_|((first|refine zAg ?_|refine zAf ?_); simp only [thenQ, zAk, if_true, if_false, Nat.reduceEqDiff, reduceCtorEq])|(refine zAe (by rfl) (fun hb => ?_) (fun hb => ?_) <;> (try simp only [b1, b2, b3, b4, reduceCtorEq, b5, b6] at hb) <;> (try omega))|refine zAi (by rfl) ?_ ?_|refine andS ?_|(refine ⟨fun hc => ?_, fun hc => ?_⟩)|(intro hc; try omega))
  refine zEx 12 37 37 (by simp only [push_cast, seval, reduceCtorEq, Int.cast_ofNat_Int]; rfl) (by omega) ?_
  refine zEx 13 40 40 (by simp only [push_cast, seval, reduceCtorEq, Int.cast_ofNat_Int]; rfl) (by omega) ?_
  refine zEx 14 43 43 (by simp only [push_cast, seval, reduceCtorEq, Int.cast_ofNat_Int]; rfl) (by omega) ?_
  refine zEx 15 46 46 (by simp only [push_cast, seval, reduceCtorEq, Int.cast_ofNat_Int]; rfl) (by omega) ?_
  refine zAl (fun k : Nat => AS.of [(0, .one (.val (.sl .int) a)), (1, .one (.val (.sl .int) b)), (2, .one (.val (.sl (.sl .int)) c)), (3, .one (.ref 0)), (11, .one (.ref 1032)), (10, .one (.ref 32)), (12, .one (.ref 37)), (13, .one (.ref 40)), (14, .one (.ref 43)), (15, .one (.ref 46)), (47, .one (.ref 32)), (48, .I (leftV a b p).1.length), (49, .I k)]
    [(0, .deep 25 3 .int p), (1032, .flat 3 .int (leftV a b p).2), (32, .flat 3 .int (leftV a b p).1), (37, .flat 3 .int (zBG (leftV a b p).1 a.length k).1), (40, .flat 3 .int (zBG (leftV a b p).1 a.length k).2), (43, .flat 3 .int (List.replicate b.length 0)), (46, .flat 3 .int (List.replicate b.length 0))] [])
    (fun k => k ≤ a.length) (fun k => a.length - k) 0 (Nat.zero_le _) ?_ ?_
  · refine zAj ?_ ?_ ?_ <;> simp only [push_cast, seval, reduceCtorEq, Int.cast_ofNat_Int]
    exact ⟨.inl rfl, .inl rfl⟩
  intro k hk K' hL
  have hsr := zDj (leftV a b p).1 a.length k
  have hst : zBG (leftV a b p).1 a.length (k + 1) = zB1 (leftV a b p).1 k (zBG (leftV a b p).1 a.length k) := rfl
  repeat' (first|(refine goK (by assumption) ?_; iterate 4 (try clear hK K))|(refine zAd fun K hK => ?_)|((first|refine zAb hE rfl ?_|refine zAh ?_|((first|refine zAa hE 1 rfl rfl (by kernel_rfl) ?_|refine zAa hE 2 rfl rfl (by kernel_rfl) ?_|refine zAa hE 3 rfl rfl (by kernel_rfl) ?_|refine zAa hE 4 rfl rfl (by kernel_rfl) ?_); simp only [List.length_cons, List.length_nil, Nat.reduceAdd, Nat.reduceSub, List.take_succ_cons, List.take_zero, List.drop_succ_cons, List.drop_zero])); simp +contextual only [hnl, ↓kN, ↓kP, ↓kG, ↓qN, ↓qP, ↓qG, push_cast, seval, reduceCtorEq, Int.cast_ofNat_Int])|refine zAc ?_|((first|refine zAg ?_|refine zAf ?_); simp only [thenQ, zAk, if_true, if_false, Nat.reduceEqDiff, reduceCtorEq])|(refine zAe (by rfl) (fun hb => ?_) (fun hb => ?_) <;> (try simp only [b1, b2, b3, b4, reduceCtorEq, b5, b6] at hb) <;> (try omega))|refine zAi (by rfl) ?_ ?_|refine andS ?_|(refine ⟨fun hc => ?_, fun hc => ?_⟩)|(intro hc; try omega))
  · refine hL _ (k + 1) (by omega) (by omega) ?_
    refine zAj ?_ ?_ ?_ <;> simp only [push_cast, seval, reduceCtorEq, Int.cast_ofNat_Int]
    rw [hst, zB1, if_pos hb]
    exact ⟨.inl rfl, .inl rfl⟩
  · refine hL _ (k + 1) (by omega) (by omega) ?_
    refine zAj ?_ ?_ ?_ <;> simp only [push_cast, seval, reduceCtorEq, Int.cast_ofNat_Int]
    rw [hst, zB1, if_neg hb]
    exact ⟨.inl rfl, .inl rfl⟩
  obtain rfl : k = a.length := by omega
  clear hb hL hst
  refine zAl (fun k : Nat => AS.of [(0, .one (.val (.sl .int) a)), (1, .one (.val (.sl .int) b)), (2, .one (.val (.sl (.sl .int)) c)), (3, .one (.ref 0)), (11, .one (.ref 1032)), (12, .one (.ref 37)), (13, .one (.ref 40)), (14, .one (.ref 43)), (15, .one (.ref 46)), (64, .I (leftV a b p).2.length), (65, .I k)]
    [(0, .deep 25 3 .int p), (1032, .flat 3 .int (leftV a b p).2), (37, .flat 3 .int (zBG (leftV a b p).1 a.length a.length).1), (40, .flat 3 .int (zBG (leftV a b p).1 a.length a.length).2), (43, .flat 3 .int (zEG b.length k)), (46, .flat 3 .int (List.replicate b.length 0))] [])
    (fun k => k ≤ b.length) (fun k => b.length - k) 0 (Nat.zero_le _) ?_ ?_
  · refine zAj ?_ ?_ ?_ <;> simp only [push_cast, seval, reduceCtorEq, Int.cast_ofNat_Int]
    exact .inl rfl
  intro k hk K2 hL
  have hsc := zEv b.length k
  have hst : zEG b.length (k + 1) = (zEG b.length k).set k far := rfl
  repeat' (first|(refine goK (by assumption) ?_; iterate 4 (try clear hK K))|(refine zAd fun K hK => ?_)|((first|refine zAb hE rfl ?_|refine zAh ?_|((first|refine zAa hE 1 rfl rfl (by kernel_rfl) ?_|refine zAa hE 2 rfl rfl (by kernel_rfl) ?_|refine zAa hE 3 rfl rfl (by kernel_rfl) ?_|refine zAa hE 4 rfl rfl (by kernel_rfl) ?_); simp only [List.length_cons, List.length_nil, Nat.reduceAdd, Nat.reduceSub, List.take_succ_cons, List.take_zero, List.drop_succ_cons, List.drop_zero])); simp +contextual only [hnl, ↓kN, ↓kP, ↓kG, ↓qN, ↓qP, ↓qG, push_cast, seval, reduceCtorEq, Int.cast_ofNat_Int])|refine zAc ?_|((first|refine zAg ?_|refine zAf ?_); simp only [thenQ, zAk, if_true, if_false, Nat.reduceEqDiff, reduceCtorEq])|(refine zAe (by rfl) (fun hb => ?_) (fun hb => ?_) <;> (try simp only [b1, b2, b3, b4, reduceCtorEq, b5, b6] at hb) <;> (try omega))|refine zAi (by rfl) ?_ ?_|refine andS ?_|(refine ⟨fun hc => ?_, fun hc => ?_⟩)|(intro hc; try omega))
  · refine hL _ (k + 1) (by omega) (by omega) ?_
    refine zAj ?_ ?_ ?_ <;> simp only [push_cast, seval, reduceCtorEq, Int.cast_ofNat_Int]
    rw [hst]
    exact .inl rfl
  obtain rfl : k = b.length := by omega
  clear hb hL hst
  refine zAl (fun k : Nat => AS.of [(0, .one (.val (.sl .int) a)), (1, .one (.val (.sl .int) b)), (2, .one (.val (.sl (.sl .int)) c)), (3, .one (.ref 0)), (11, .one (.ref 1032)), (12, .one (.ref 37)), (13, .one (.ref 40)), (14, .one (.ref 43)), (15, .one (.ref 46)), (76, .I (a.length + b.length : Nat)), (77, .I k)]
    [(0, .deep 25 3 .int p), (1032, .flat 3 .int (leftV a b p).2), (37, .flat 3 .int (distK a b c p k).ra), (40, .flat 3 .int (distK a b c p k).rf), (43, .flat 3 .int (distK a b c p k).ca), (46, .flat 3 .int (distK a b c p k).cf)] [])
    (fun k => k ≤ a.length + b.length) (fun k => a.length + b.length - k) 0 (Nat.zero_le _) ?_ ?_
  · refine zAj ?_ ?_ ?_ <;> simp only [push_cast, seval, reduceCtorEq, Int.cast_ofNat_Int]
    exact ⟨.inl rfl, .inl rfl, .inl rfl, .inl rfl⟩
  intro k hk K3 hL
  have hD := zGj h3 h2 k
  repeat' (first|(refine goK (by assumption) ?_; iterate 4 (try clear hK K))|(refine zAd fun K hK => ?_)|((first|refine zAb hE rfl ?_|refine zAh ?_|((first|refine zAa hE 1 rfl rfl (by kernel_rfl) ?_|refine zAa hE 2 rfl rfl (by kernel_rfl) ?_|refine zAa hE 3 rfl rfl (by kernel_rfl) ?_|refine zAa hE 4 rfl rfl (by kernel_rfl) ?_); simp only [List.length_cons, List.length_nil, Nat.reduceAdd, Nat.reduceSub, List.take_succ_cons, List.take_zero, List.drop_succ_cons, List.drop_zero])); simp +contextual only [hnl, ↓kN, ↓kP, ↓kG, ↓qN, ↓qP, ↓qG, push_cast, seval, reduceCtorEq, Int.cast_ofNat_Int])|refine zAc ?_|((first|refine zAg ?_|refine zAf ?_); simp only [thenQ, zAk, if_true, if_false, Nat.reduceEqDiff, reduceCtorEq])|(refine zAe (by rfl) (fun hb => ?_) (fun hb => ?_) <;> (try simp only [b1, b2, b3, b4, reduceCtorEq, b5, b6] at hb) <;> (try omega))|refine zAi (by rfl) ?_ ?_|refine andS ?_|(refine ⟨fun hc => ?_, fun hc => ?_⟩)|(intro hc; try omega))
  · have hDn : distK a b c p (k + 1) = upto (zA7 c p) c.length (distK a b c p k) := rfl
    generalize distK a b c p k = s0 at hD hDn ⊢
    refine zAl (fun i : Nat => AS.of [(0, .one (.val (.sl .int) a)), (1, .one (.val (.sl .int) b)), (2, .one (.val (.sl (.sl .int)) c)), (3, .one (.ref 0)), (11, .one (.ref 1032)), (12, .one (.ref 37)), (13, .one (.ref 40)), (14, .one (.ref 43)), (15, .one (.ref 46)), (76, .I (a.length + b.length : Nat)), (77, .I k), (79, .one (.val (.sl (.sl .int)) c)), (80, .I c.length), (81, .I i)]
      [(0, .deep 25 3 .int p), (1032, .flat 3 .int (leftV a b p).2), (37, .flat 3 .int (upto (zA7 c p) i s0).ra), (40, .flat 3 .int (upto (zA7 c p) i s0).rf), (43, .flat 3 .int (upto (zA7 c p) i s0).ca), (46, .flat 3 .int (upto (zA7 c p) i s0).cf)] [])
      (fun i => i ≤ c.length) (fun i => c.length - i) 0 (Nat.zero_le _) ?_ ?_
    · refine zAj ?_ ?_ ?_ <;> simp only [push_cast, seval, reduceCtorEq, Int.cast_ofNat_Int]
      exact ⟨.inl rfl, .inl rfl, .inl rfl, .inl rfl⟩
    intro i hi K4 hL4
    repeat' (first|(refine goK (by assumption) ?_; iterate 4 (try clear hK K))|(refine zAd fun K hK => ?_)|((first|refine zAb hE rfl ?_|refine zAh ?_|((first|refine zAa hE 1 rfl rfl (by kernel_rfl) ?_|refine zAa hE 2 rfl rfl (by kernel_rfl) ?_|refine zAa hE 3 rfl rfl (by kernel_rfl) ?_|refine zAa hE 4 rfl rfl (by kernel_rfl) ?_); simp only [List.length_cons, List.length_nil, Nat.reduceAdd, Nat.reduceSub, List.take_succ_cons, List.take_zero, List.drop_succ_cons, List.drop_zero])); simp +contextual only [hnl, ↓kN, ↓kP, ↓kG, ↓qN, ↓qP, ↓qG, push_cast, seval, reduceCtorEq, Int.cast_ofNat_Int])|refine zAc ?_|((first|refine zAg ?_|refine zAf ?_); simp only [thenQ, zAk, if_true, if_false, Nat.reduceEqDiff, reduceCtorEq])|(refine zAe (by rfl) (fun hb => ?_) (fun hb => ?_) <;> (try simp only [b1, b2, b3, b4, reduceCtorEq, b5, b6] at hb) <;> (try omega))|refine zAi (by rfl) ?_ ?_|refine andS ?_|(refine ⟨fun hc => ?_, fun hc => ?_⟩)|(intro hc; try omega))
    · have hi' : i < a.length := by omega
      have hci := h3.cols i hi'
      have hpi := h2.tab.cols i hi'
      have hQ := DSt.tab p h3 hb5.2 hD i (by omega)
      have hQn : upto (zA7 c p) (i + 1) s0 = upto (relax c p i) (c.getD i []).length (upto (zA7 c p) i s0) := rfl
      generalize upto (zA7 c p) i s0 = s1 at hQ hQn ⊢
      refine zAl (fun j : Nat => AS.of [(0, .one (.val (.sl .int) a)), (1, .one (.val (.sl .int) b)), (2, .one (.val (.sl (.sl .int)) c)), (3, .one (.ref 0)), (11, .one (.ref 1032)), (12, .one (.ref 37)), (13, .one (.ref 40)), (14, .one (.ref 43)), (15, .one (.ref 46)), (19, .I i), (76, .I (a.length + b.length : Nat)), (77, .I k), (79, .one (.val (.sl (.sl .int)) c)), (80, .I c.length), (81, .I i), (86, .one (.val (.sl .int) (c.getD i []))), (87, .I (c.getD i []).length), (88, .I j)]
        [(0, .deep 25 3 .int p), (1032, .flat 3 .int (leftV a b p).2), (37, .flat 3 .int (upto (relax c p i) j s1).ra), (40, .flat 3 .int (upto (relax c p i) j s1).rf), (43, .flat 3 .int (upto (relax c p i) j s1).ca), (46, .flat 3 .int (upto (relax c p i) j s1).cf)] [])
        (fun j => j ≤ (c.getD i []).length) (fun j => (c.getD i []).length - j) 0 (Nat.zero_le _) ?_ ?_
      · refine zAj ?_ ?_ ?_ <;> simp only [push_cast, seval, reduceCtorEq, Int.cast_ofNat_Int]
        exact ⟨.inl rfl, .inl rfl, .inl rfl, .inl rfl⟩
      intro j hj K5 hL5
      have hF := DSt.row p h3 hQ hi' j (by omega)
      have hFn : upto (relax c p i) (j + 1) s1 = relax c p i j (upto (relax c p i) j s1) := rfl
      generalize hs2 : upto (relax c p i) j s1 = s2 at hF hFn ⊢
      have g1 := hF.l1
      have g2 := hF.l2
      have g3 := hF.l3
      have g4 := hF.l4
      have g5 := hF.b1.at (i := i) (by omega)
      have hfar : far = 1099511627776 := rfl
      rcases Nat.lt_or_ge j b.length with hjb | hjb
      · have g6 := hF.b3.at (i := j) (by omega)
        have g7 := h3.at' i j hi' hjb
        have g8 : ∀ x : Int, (s2.ca.set j x).getD j 0 = x := fun x => by rw [zCt (by omega), if_pos rfl]
        have g9 : ∀ x : Int, (s2.ca.set j x).length = s2.ca.length := fun x => List.length_set
        replace hnl := And.intro hnl (And.intro g8 g9)
        repeat' (first|(refine goK (by assumption) ?_; iterate 4 (try clear hK K))|(refine zAd fun K hK => ?_)|((first|refine zAb hE rfl ?_|refine zAh ?_|((first|refine zAa hE 1 rfl rfl (by kernel_rfl) ?_|refine zAa hE 2 rfl rfl (by kernel_rfl) ?_|refine zAa hE 3 rfl rfl (by kernel_rfl) ?_|refine zAa hE 4 rfl rfl (by kernel_rfl) ?_); simp only [List.length_cons, List.length_nil, Nat.reduceAdd, Nat.reduceSub, List.take_succ_cons, List.take_zero, List.drop_succ_cons, List.drop_zero])); simp +contextual only [hnl, ↓kN, ↓kP, ↓kG, ↓qN, ↓qP, ↓qG, push_cast, seval, reduceCtorEq, Int.cast_ofNat_Int])|refine zAc ?_|((first|refine zAg ?_|refine zAf ?_); simp only [thenQ, zAk, if_true, if_false, Nat.reduceEqDiff, reduceCtorEq])|(refine zAe (by rfl) (fun hb => ?_) (fun hb => ?_) <;> (try simp only [b1, b2, b3, b4, reduceCtorEq, b5, b6] at hb) <;> (try omega))|refine zAi (by rfl) ?_ ?_|refine andS ?_|(refine ⟨fun hc => ?_, fun hc => ?_⟩)|(intro hc; try omega))
        all_goals refine hL5 _ (j + 1) (by omega) (by omega) ?_
        all_goals refine zAj ?_ ?_ ?_ <;> simp only [push_cast, seval, reduceCtorEq, Int.cast_ofNat_Int]
        all_goals rw [hFn]
        all_goals first | rw [zRo (by omega) (by omega) (by omega)] | rw [zRn (by omega) (by omega) (by omega) (by omega)] | rw [zRm (by omega) (by omega)]
        all_goals exact ⟨.inl rfl, .inl rfl, .inl rfl, .inl rfl⟩
      · repeat' (first|(refine goK (by assumption) ?_; iterate 4 (try clear hK K))|(refine zAd fun K hK => ?_)|((first|refine zAb hE rfl ?_|refine zAh ?_|((first|refine zAa hE 1 rfl rfl (by kernel_rfl) ?_|refine zAa hE 2 rfl rfl (by kernel_rfl) ?_|refine zAa hE 3 rfl rfl (by kernel_rfl) ?_|refine zAa hE 4 rfl rfl (by kernel_rfl) ?_); simp only [List.length_cons, List.length_nil, Nat.reduceAdd, Nat.reduceSub, List.take_succ_cons, List.take_zero, List.drop_succ_cons, List.drop_zero])); simp +contextual only [hnl, ↓kN, ↓kP, ↓kG, ↓qN, ↓qP, ↓qG, push_cast, seval, reduceCtorEq, Int.cast_ofNat_Int])|refine zAc ?_|((first|refine zAg ?_|refine zAf ?_); simp only [thenQ, zAk, if_true, if_false, Nat.reduceEqDiff, reduceCtorEq])|(refine zAe (by rfl) (fun hb => ?_) (fun hb => ?_) <;> (try simp only [b1, b2, b3, b4, reduceCtorEq, b5, b6] at hb) <;> (try omega))|refine zAi (by rfl) ?_ ?_|refine andS ?_|(refine ⟨fun hc => ?_, fun hc => ?_⟩)|(intro hc; try omega))
        obtain rfl : j = (c.getD i []).length := by omega
        rw [hs2] at hQn
        refine hL4 _ (i + 1) (by omega) (by omega) ?_
        refine zAj ?_ ?_ ?_ <;> simp only [push_cast, seval, reduceCtorEq, Int.cast_ofNat_Int]
        rw [hQn]
        exact ⟨.inl rfl, .inl rfl, .inl rfl, .inl rfl⟩
    · obtain rfl : i = c.length := by omega
      refine hL _ (k + 1) (by omega) (by omega) ?_
      refine zAj ?_ ?_ ?_ <;> simp only [push_cast, seval, reduceCtorEq, Int.cast_ofNat_Int]
      rw [hDn]
      exact ⟨.inl rfl, .inl rfl, .inl rfl, .inl rfl⟩
  obtain rfl : k = a.length + b.length := by omega
  clear hb hL
  have hE0 : distK a b c p (a.length + b.length) = dist a b c p := rfl
  rw [hE0] at hD ⊢
  have hV0 : bestV a b c p = zBr (leftV a b p).2 (dist a b c p).ca b.length := rfl
  have hN0 : nextN a b c p = if bestV a b c p < 0 then 0 else (dist a b c p).ca.getD (bestV a b c p).toNat 0 := rfl
  have hP0 : nextP a b c p = if bestV a b c p < 0 then some p else Go.OT.follow (dist a b c p).rf (dist a b c p).cf (a.length + b.length) (bestV a b c p) p := rfl
  generalize dist a b c p = x at hD hV0 hN0 hP0 ⊢
  have hfar : far = 1099511627776 := rfl
  have hx1 := hD.l1
  have hx2 := hD.l2
  have hx3 := hD.l3
  have hx4 := hD.l4
  refine zAl (fun j : Nat => AS.of [(0, .one (.val (.sl .int) a)), (1, .one (.val (.sl .int) b)), (2, .one (.val (.sl (.sl .int)) c)), (3, .one (.ref 0)), (11, .one (.ref 1032)), (12, .one (.ref 37)), (13, .one (.ref 40)), (14, .one (.ref 43)), (15, .one (.ref 46)), (23, .I (zBr (leftV a b p).2 x.ca j)), (168, .one (.ref 1032)), (169, .I (leftV a b p).2.length), (170, .I j)]
    [(0, .deep 25 3 .int p), (1032, .flat 3 .int (leftV a b p).2), (37, .flat 3 .int x.ra), (40, .flat 3 .int x.rf), (43, .flat 3 .int x.ca), (46, .flat 3 .int x.cf)] [])
    (fun j => j ≤ b.length) (fun j => b.length - j) 0 (Nat.zero_le _) ?_ ?_
  · refine zAj ?_ ?_ ?_ <;> simp only [push_cast, seval, reduceCtorEq, Int.cast_ofNat_Int]
    rfl
  intro j hj K6 hL6
  have hbs := zCW (leftV a b p).2 x.ca j
  have hbn : zBr (leftV a b p).2 x.ca (j + 1) = if 0 < (leftV a b p).2.getD j 0 ∧ x.ca.getD j 0 < far ∧ (zBr (leftV a b p).2 x.ca j < 0 ∨ x.ca.getD j 0 < x.ca.getD (zBr (leftV a b p).2 x.ca j).toNat 0) then (j : Int) else zBr (leftV a b p).2 x.ca j := rfl
  have hbl : -1 ≤ zBr (leftV a b p).2 x.ca j ∧ zBr (leftV a b p).2 x.ca j < b.length := by
    rcases hbs with ⟨h, _⟩ | ⟨m, h, h', _⟩ <;> omega
  repeat' (first|(refine goK (by assumption) ?_; iterate 4 (try clear hK K))|(refine zAd fun K hK => ?_)|((first|refine zAb hE rfl ?_|refine zAh ?_|((first|refine zAa hE 1 rfl rfl (by kernel_rfl) ?_|refine zAa hE 2 rfl rfl (by kernel_rfl) ?_|refine zAa hE 3 rfl rfl (by kernel_rfl) ?_|refine zAa hE 4 rfl rfl (by kernel_rfl) ?_); simp only [List.length_cons, List.length_nil, Nat.reduceAdd, Nat.reduceSub, List.take_succ_cons, List.take_zero, List.drop_succ_cons, List.drop_zero])); simp +contextual only [hnl, ↓kN, ↓kP, ↓kG, ↓qN, ↓qP, ↓qG, push_cast, seval, reduceCtorEq, Int.cast_ofNat_Int])|refine zAc ?_|((first|refine zAg ?_|refine zAf ?_); simp only [thenQ, zAk, if_true, if_false, Nat.reduceEqDiff, reduceCtorEq])|(refine zAe (by rfl) (fun hb => ?_) (fun hb => ?_) <;> (try simp only [b1, b2, b3, b4, reduceCtorEq, b5, b6] at hb) <;> (try omega))|refine zAi (by rfl) ?_ ?_|refine andS ?_|(refine ⟨fun hc => ?_, fun hc => ?_⟩)|(intro hc; try omega))
  iterate 5
    · refine hL6 _ (j + 1) (by omega) (by omega) ?_
      refine zAj ?_ ?_ ?_ <;> simp only [push_cast, seval, reduceCtorEq, Int.cast_ofNat_Int]
      rw [hbn]
      first | rw [if_pos (by omega)] | rw [if_neg (by omega)]
  · obtain rfl : j = b.length := by omega
    have hbv : bestV a b c p < 0 := by rw [hV0]; exact hb
    rw [hN0, hP0, if_pos hbv, if_pos hbv]
    exact ⟨⟨rfl, (decide_eq_false (by omega)).symm⟩, rfl⟩
  obtain rfl : j = b.length := by omega
  have hbv : ¬ bestV a b c p < 0 := by rw [hV0]; exact hb
  obtain ⟨m, hm, hbm⟩ : ∃ m : Nat, m < b.length ∧ bestV a b c p = m := by
    rcases hbs with ⟨h, _⟩ | ⟨m, h, h', _⟩
    · omega
    · exact ⟨m, h, by rw [hV0, h']⟩
  rw [if_neg hbv, hbm] at hP0 hN0
  rw [Int.toNat_natCast] at hN0
  rw [← hV0, hbm]
  obtain ⟨p', hp'⟩ := Option.isSome_iff_exists.1 h6
  rw [hP0] at hp'
  clear hbs hbn hbl hL6
  refine zAl (fun y : Nat × Int × List (List Int) => AS.of [(0, .one (.val (.sl .int) a)), (1, .one (.val (.sl .int) b)), (2, .one (.val (.sl (.sl .int)) c)), (3, .one (.ref 0)), (11, .one (.ref 1032)), (12, .one (.ref 37)), (13, .one (.ref 40)), (14, .one (.ref 43)), (15, .one (.ref 46)), (23, .I m), (26, .I y.2.1)]
    [(0, .deep 25 3 .int y.2.2), (37, .flat 3 .int x.ra), (40, .flat 3 .int x.rf), (43, .flat 3 .int x.ca), (46, .flat 3 .int x.cf)] [])
    (ChI x a.length b.length p') (fun y => y.1) (a.length + b.length, (m : Int), p) ⟨by dsimp only; omega, Tb.mono h2.tab (by dsimp only; omega) (by dsimp only; omega), by dsimp only; omega, by dsimp only; omega, hp'⟩ ?_ ?_
  · refine zAj ?_ ?_ ?_ <;> simp only [push_cast, seval, reduceCtorEq, Int.cast_ofNat_Int]
  intro y hI K7 hL7
  obtain ⟨n, j, q⟩ := y
  obtain ⟨i1, i2, i3, i4, i5⟩ := hI
  dsimp only at i1 i2 i3 i4 i5 ⊢
  have hql := i2.rows
  by_cases hj0 : 0 ≤ j
  · obtain ⟨n, rfl, hfol⟩ := zNe hj0 i5
    obtain ⟨jn, rfl⟩ := Int.eq_ofNat_of_zero_le hj0
    have hc4 := hD.b4.at (i := jn) (by omega)
    obtain ⟨i, hi⟩ := Int.eq_ofNat_of_zero_le hc4.1
    rw [hi] at hc4
    have hr2 := hD.b2.at (i := i) (by omega)
    have hqi := i2.cols i (by omega)
    have hqe := i2.at' i jn (by omega) (by omega)
    have hq1 : ∀ r : List Int, (q.set i r).getD i [] = r := fun r => by rw [zGm, if_pos ⟨rfl, by omega⟩]
    have hq2 : ∀ r : List Int, (q.set i r).length = q.length := fun r => List.length_set
    have hq3 : ∀ v : Int, ((q.getD i []).set jn v).length = (q.getD i []).length := fun v => List.length_set
    have hnx : zCI x.rf x.cf (jn : Int) = x.rf.getD i 0 := by
      unfold zCI
      rw [Int.toNat_natCast, hi, Int.toNat_natCast]
    rw [hnx] at hfol
    by_cases hr0 : 0 ≤ x.rf.getD i 0
    · obtain ⟨j2, hj2⟩ := Int.eq_ofNat_of_zero_le hr0
      have hst : zBn x.rf x.cf (jn : Int) q = Go.OT.addAt (Go.OT.addAt q i jn 1) i j2 (-1) := by
        unfold zBn
        dsimp only
        rw [Int.toNat_natCast, hi, Int.toNat_natCast, hj2, if_pos (by omega), Int.toNat_natCast]
      rw [hst, hj2] at hfol
      rw [hj2] at hr2 hr0
      have hAA : Go.OT.addAt (Go.OT.addAt q i jn 1) i j2 (-1) = (q.set i ((q.getD i []).set jn ((q.getD i []).getD jn 0 + 1))).set i (((q.getD i []).set jn ((q.getD i []).getD jn 0 + 1)).set j2 (((q.getD i []).set jn ((q.getD i []).getD jn 0 + 1)).getD j2 0 - 1)) := by
        unfold Go.OT.addAt
        rw [hq1]
        rfl
      have hq4 : -14 ≤ ((q.getD i []).set jn ((q.getD i []).getD jn 0 + 1)).getD j2 0 ∧ ((q.getD i []).set jn ((q.getD i []).getD jn 0 + 1)).getD j2 0 ≤ 214 := by
        have := i2.at' i j2 (by omega) (by omega)
        rw [zCt (by omega)]
        split <;> omega
      have hI' : ChI x a.length b.length p' (n, (j2 : Int), Go.OT.addAt (Go.OT.addAt q i jn 1) i j2 (-1)) := ⟨by dsimp only; omega, Tb.mono (Tb.addAt2 (d := 0) (e := 0) (i := i) (j := jn) (j' := j2) i2 (by omega) (by omega) (by omega)) (by dsimp only; omega) (by dsimp only; omega), by dsimp only; omega, by dsimp only; omega, hfol⟩
      replace hnl := And.intro hnl (And.intro hi (And.intro hj2 (And.intro hq1 (And.intro hq2 hq3))))
      repeat' (first|(refine goK (by assumption) ?_; iterate 4 (try clear hK K))|(refine zAd fun K hK => ?_)|((first|refine zAb hE rfl ?_|refine zAh ?_|((first|refine zAa hE 1 rfl rfl (by kernel_rfl) ?_|refine zAa hE 2 rfl rfl (by kernel_rfl) ?_|refine zAa hE 3 rfl rfl (by kernel_rfl) ?_|refine zAa hE 4 rfl rfl (by kernel_rfl) ?_); simp only [List.length_cons, List.length_nil, Nat.reduceAdd, Nat.reduceSub, List.take_succ_cons, List.take_zero, List.drop_succ_cons, List.drop_zero])); simp +contextual only [hnl, ↓kN, ↓kP, ↓kG, ↓qN, ↓qP, ↓qG, push_cast, seval, reduceCtorEq, Int.cast_ofNat_Int])|refine zAc ?_|((first|refine zAg ?_|refine zAf ?_); simp only [thenQ, zAk, if_true, if_false, Nat.reduceEqDiff, reduceCtorEq])|(refine zAe (by rfl) (fun hb => ?_) (fun hb => ?_) <;> (try simp only [b1, b2, b3, b4, reduceCtorEq, b5, b6] at hb) <;> (try omega))|refine zAi (by rfl) ?_ ?_|refine andS ?_|(refine ⟨fun hc => ?_, fun hc => ?_⟩)|(intro hc; try omega))
      refine hL7 _ _ hI' (Nat.lt_succ_self n) ?_
      refine zAj ?_ ?_ ?_ <;> simp only [push_cast, seval, reduceCtorEq, Int.cast_ofNat_Int]
      rw [hAA]
      exact .inl rfl
    · have hst : zBn x.rf x.cf (jn : Int) q = Go.OT.addAt q i jn 1 := by
        unfold zBn
        dsimp only
        rw [Int.toNat_natCast, hi, Int.toNat_natCast, if_neg hr0]
      rw [hst] at hfol
      have hI' : ChI x a.length b.length p' (n, x.rf.getD i 0, Go.OT.addAt q i jn 1) := ⟨by dsimp only; omega, Tb.mono (Tb.addAt (d := 1) (i := i) (j := jn) i2 (by omega) (by omega) (by omega)) (by dsimp only; omega) (by dsimp only; omega), by dsimp only; omega, by dsimp only; omega, hfol⟩
      replace hnl := And.intro hnl (And.intro hi (And.intro hq1 (And.intro hq2 hq3)))
      repeat' (first|(refine goK (by assumption) ?_; iterate 4 (try clear hK K))|(refine zAd fun K hK => ?_)|((first|refine zAb hE rfl ?_|refine zAh ?_|((first|refine zAa hE 1 rfl rfl (by kernel_rfl) ?_|refine zAa hE 2 rfl rfl (by kernel_rfl) ?_|refine zAa hE 3 rfl rfl (by kernel_rfl) ?_|refine zAa hE 4 rfl rfl (by kernel_rfl) ?_); simp only [List.length_cons, List.length_nil, Nat.reduceAdd, Nat.reduceSub, List.take_succ_cons, List.take_zero, List.drop_succ_cons, List.drop_zero])); simp +contextual only [hnl, ↓kN, ↓kP, ↓kG, ↓qN, ↓qP, ↓qG, push_cast, seval, reduceCtorEq, Int.cast_ofNat_Int])|refine zAc ?_|((first|refine zAg ?_|refine zAf ?_); simp only [thenQ, zAk, if_true, if_false, Nat.reduceEqDiff, reduceCtorEq])|(refine zAe (by rfl) (fun hb => ?_) (fun hb => ?_) <;> (try simp only [b1, b2, b3, b4, reduceCtorEq, b5, b6] at hb) <;> (try omega))|refine zAi (by rfl) ?_ ?_|refine andS ?_|(refine ⟨fun hc => ?_, fun hc => ?_⟩)|(intro hc; try omega))
      refine hL7 _ _ hI' (Nat.lt_succ_self n) ?_
      refine zAj ?_ ?_ ?_ <;> simp only [push_cast, seval, reduceCtorEq, Int.cast_ofNat_Int]
      exact .inl rfl
  · rw [zHF _ _ (by omega)] at i5
    repeat' (first|(refine goK (by assumption) ?_; iterate 4 (try clear hK K))|(refine zAd fun K hK => ?_)|((first|refine zAb hE rfl ?_|refine zAh ?_|((first|refine zAa hE 1 rfl rfl (by kernel_rfl) ?_|refine zAa hE 2 rfl rfl (by kernel_rfl) ?_|refine zAa hE 3 rfl rfl (by kernel_rfl) ?_|refine zAa hE 4 rfl rfl (by kernel_rfl) ?_); simp only [List.length_cons, List.length_nil, Nat.reduceAdd, Nat.reduceSub, List.take_succ_cons, List.take_zero, List.drop_succ_cons, List.drop_zero])); simp +contextual only [hnl, ↓kN, ↓kP, ↓kG, ↓qN, ↓qP, ↓qG, push_cast, seval, reduceCtorEq, Int.cast_ofNat_Int])|refine zAc ?_|((first|refine zAg ?_|refine zAf ?_); simp only [thenQ, zAk, if_true, if_false, Nat.reduceEqDiff, reduceCtorEq])|(refine zAe (by rfl) (fun hb => ?_) (fun hb => ?_) <;> (try simp only [b1, b2, b3, b4, reduceCtorEq, b5, b6] at hb) <;> (try omega))|refine zAi (by rfl) ?_ ?_|refine andS ?_|(refine ⟨fun hc => ?_, fun hc => ?_⟩)|(intro hc; try omega))
    rw [hN0, hP0, hp', Option.getD_some, ← Option.some.inj i5, hbm]
    exact ⟨⟨rfl, (decide_eq_true (by omega)).symm⟩, rfl⟩
end Go.Proofs.YtlgkplnifaoeeaaGreatDoor
