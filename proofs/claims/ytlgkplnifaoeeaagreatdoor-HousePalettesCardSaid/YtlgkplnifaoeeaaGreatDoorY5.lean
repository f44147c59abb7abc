import Derived.Test.YtlgkplnifaoeeaaGreatDoorY4
import Derived.Test.YtlgkplnifaoeeaaGreatDoorY3
import Derived.Tactics2
import Derived.Laws.CopyOwn
import Derived.Laws.Bits64b
import Derived.WalkKit
import Derived.Shelf.Utf8.RuneCount
import Derived.Shelf.Strconv.Atoi
import Derived.Shelf.Strconv.Itoa0
import Derived.Shelf.Strconv.Itoa1
import Derived.Shelf.LaysM
import Derived.Shelf.Strconv.Itoa2
import Derived.Shelf.Strconv.Itoa3
import Derived.Shelf.Strconv.AtoiErrFast
import Derived.Shelf.Strconv.ParseIntEmpty
import Derived.Shelf.Strconv.AtoiFail
import Derived.Shelf.Strconv.Clone
import Derived.Shelf.Strconv.SyntaxError
import Derived.Shelf.LaysC
import Derived.Shelf.Strconv.ToError
import Derived.Shelf.Strconv.Lower
import Derived.Shelf.Strconv.ParseUint10
import Derived.Shelf.Strconv.ParseUint10Empty
import Derived.Shelf.Strconv.ParseUint10Any
import Derived.Shelf.Strconv.ParseInt10
import Derived.Shelf.Strconv.AtoiLong
import Derived.Shelf.Strconv.AtoiInnerAll
import Derived.Shelf.Strconv.RangeError
import Derived.Shelf.Strconv.ToErrorRange
import Derived.Shelf.Strconv.AtoiAll
import Derived.Shelf.Strconv.ErrVarAll
import Derived.Shelf.Strconv.ParseUintEmpty
import Derived.Shelf.Strconv.ParseUint10b64
import Derived.Shelf.Strconv.ParseUint10b32
import Derived.Shelf.Strconv.ParseUint10b16
import Derived.Shelf.Strconv.ParseUint10b8
import Derived.Shelf.Strings.Search1
import Derived.Shelf.Strings.Search2
import Derived.Shelf.Strings.Search3
import Derived.Shelf.Strings.Cut
import Derived.Shelf.Strings.Count
import Derived.Shelf.Strings.Shaped
import Derived.Shelf.Strings.Prefix
import Derived.Shelf.Strings.Split
import Derived.Shelf.Strings.SplitShaped
import Derived.Shelf.Unicode.Decode
import Derived.Shelf.Strings.RuneCount
import Derived.Shelf.Strings.Explode
import Derived.Shelf.Bits.Mul64
import Derived.Shelf.Unicode.DecodeSlow
import Derived.Shelf.Unicode.DecodeAny
import Derived.Shelf.Slices.Turned
import Derived.Shelf.Slices.Equal
import Derived.Ground.Names2Prog
import Derived.Shelf.Slices.Clone
import Derived.Shelf.Slices.Empties2
import Derived.Ground.SlgnProg
import Derived.Shelf.SlicesE.Clone
import Derived.Test.YtlgkplnifaoeeaaGreatDoorProg
import Derived.Lib.AppendIntMem
import Derived.Lib.SmallJoins
import Derived.Lib.ConvBytes
import Derived.Lib.SplitLaws
import Derived.Lib.ItoaLen
import Derived.Lib.AtoiAllCases
import Derived.Recover
import Derived.Laws.Pointers
set_option linter.unusedSimpArgs false
set_option linter.unusedVariables false
namespace Go.Proofs.YtlgkplnifaoeeaaGreatDoor
open Go.RowKit Go.VS Go.OT
def deepI : RC → List (List Int)
  | .deep _ _ s xss => (zAM (.sl (.sl s)) (.sl (.sl .int)) xss).getD []
  | _ => []
@[push_cast] theorem zFv (e e2 : TypeId) (p : List (List Int)) : deepI (.deep e e2 .int p) = p := by
  simp only [deepI, zC8, Option.getD_some]
abbrev zLV := List Int × List Int × List (List Int) × RC × Unit
structure NextPre (a b : List Int) (c : List (List Int)) (rc : RC) : Prop where
  hrc : rc = .deep 25 3 .int (deepI rc)
  shp : Shp a b (deepI rc)
  hc : Tb a.length b.length 0 99 c
  ends : (nextP a b c (deepI rc)).isSome = true
@[push_cast] def zPy : Con := ⟨[.dat (.sl .int), .dat (.sl .int), .dat (.sl (.sl .int)), .lend], fun (x : zLV) => NextPre x.1 x.2.1 x.2.2.1 x.2.2.2.1,
  fun (x : zLV) => Out.mk [.val .int (nextN x.1 x.2.1 x.2.2.1 (deepI x.2.2.2.1)), .val .bool (decide (0 ≤ bestV x.1 x.2.1 x.2.2.1 (deepI x.2.2.2.1)))]
    [(0, .deep 25 3 .int ((nextP x.1 x.2.1 x.2.2.1 (deepI x.2.2.2.1)).getD []))] []⟩
section
variable {c p : List (List Int)} {i j : Nat} {s : Dst}
theorem zRo (h1 : s.ra.getD i 0 < far) (h2 : s.ra.getD i 0 + (c.getD i []).getD j 0 < s.ca.getD j 0) (hj : j < s.ca.length) :
    relax c p i j s = ⟨s.ra, s.rf, s.ca.set j (s.ra.getD i 0 + (c.getD i []).getD j 0), s.cf.set j (i : Int)⟩ := by
  unfold relax relaxC
  rw [if_pos ⟨h1, h2⟩]
  unfold relaxR
  dsimp only
  rw [zCt hj, if_pos rfl, if_neg (by omega)]
theorem zRn (h1 : ¬ (s.ra.getD i 0 < far ∧ s.ra.getD i 0 + (c.getD i []).getD j 0 < s.ca.getD j 0)) (h2 : 0 < (p.getD i []).getD j 0) (h3 : s.ca.getD j 0 < far) (h4 : s.ca.getD j 0 - (c.getD i []).getD j 0 < s.ra.getD i 0) :
    relax c p i j s = ⟨s.ra.set i (s.ca.getD j 0 - (c.getD i []).getD j 0), s.rf.set i (j : Int), s.ca, s.cf⟩ := by
  unfold relax relaxC
  rw [if_neg h1]
  unfold relaxR
  rw [if_pos ⟨h2, h3, h4⟩]
theorem zRm (h1 : ¬ (s.ra.getD i 0 < far ∧ s.ra.getD i 0 + (c.getD i []).getD j 0 < s.ca.getD j 0)) (h2 : ¬ (0 < (p.getD i []).getD j 0 ∧ s.ca.getD j 0 < far ∧ s.ca.getD j 0 - (c.getD i []).getD j 0 < s.ra.getD i 0)) :
    relax c p i j s = s := by
  unfold relax relaxC
  rw [if_neg h1]
  unfold relaxR
  rw [if_neg h2]
end
structure ChI (x : Dst) (R C : Nat) (p' : List (List Int)) (y : Nat × Int × List (List Int)) : Prop where
  n12 : y.1 ≤ 12
  tab : Tb R C (-(12 - (y.1 : Int))) (200 + (12 - (y.1 : Int))) y.2.2
  lo : -1 ≤ y.2.1
  hi : y.2.1 < C
  fol : Go.OT.follow x.rf x.cf y.1 y.2.1 y.2.2 = some p'
theorem Tb.addAt {R C : Nat} {lo hi d : Int} {q : List (List Int)} (h : Tb R C lo hi q) {i j : Nat} (hi' : i < R) (hj : j < C) (hd : -1 ≤ d ∧ d ≤ 1) : Tb R C (lo - 1) (hi + 1) (Go.OT.addAt q i j d) := by
  have h1 := h.sz.add (j := j) (d := d) hi'
  refine ⟨h1.rows, h1.cols, fun i' j' h2 h3 => ?_⟩
  have h4 := congrFun (congrFun (zEe (d := d) h.sz hi' hj) i') j'
  unfold gt bump at h4
  dsimp only at h4
  rw [h4]
  have := h.at' i' j' h2 h3
  split <;> omega
theorem Tb.mono {R C : Nat} {lo hi lo' hi' : Int} {q : List (List Int)} (h : Tb R C lo hi q) (h1 : lo' ≤ lo) (h2 : hi ≤ hi') : Tb R C lo' hi' q := ⟨h.rows, h.cols, fun i j a b => by have := h.at' i j a b; omega⟩
theorem Tb.addAt2 {R C : Nat} {lo hi d e : Int} {q : List (List Int)} (h : Tb R C lo hi q) {i j j' : Nat} (hi' : i < R) (hj : j < C) (hj' : j' < C) : Tb R C (lo - 1) (hi + 1) (Go.OT.addAt (Go.OT.addAt q i j 1) i j' (-1)) := by
  have h1 := (h.sz.add (j := j) (d := 1) hi').add (j := j') (d := -1) hi'
  refine ⟨h1.rows, h1.cols, fun i' j2 h2 h3 => ?_⟩
  have h4 := congrFun (congrFun (zEe (d := -1) (h.sz.add (j := j) (d := 1) hi') hi' hj') i') j2
  rw [zEe h.sz hi' hj] at h4
  unfold gt bump at h4
  dsimp only at h4
  rw [h4]
  have := h.at' i' j2 h2 h3
  split <;> split <;> omega
theorem zNe {rf cf : List Int} {n : Nat} {j : Int} {q p' : List (List Int)} (hj : 0 ≤ j) (h : Go.OT.follow rf cf n j q = some p') : ∃ m, n = m + 1 ∧ Go.OT.follow rf cf m (zCI rf cf j) (zBn rf cf j q) = some p' := by
  cases n with
  | zero =>
    have e : Go.OT.follow rf cf 0 j q = if j < 0 then some q else none := rfl
    rw [e, if_neg (by omega)] at h
    exact absurd h (by simp)
  | succ n =>
    have e : Go.OT.follow rf cf (n + 1) j q = if j < 0 then some q else Go.OT.follow rf cf n (zCI rf cf j) (zBn rf cf j q) := rfl
    rw [e, if_neg (by omega)] at h
    exact ⟨n, rfl, h⟩
set_option maxHeartbeats 4000000 in
theorem zPz : FnSpec Tryz.prog 189 zPy := by
  refine FnSpec.of_tri' (E := know [(218, zPd)] [] [] [37, 40, 43, 46]) (zAm (all_cons zPf all_nil) all_nil all_nil) Tryz.func189 rfl rfl (by kernel_rfl) ?_
  intro C x hE hnl hfit hpre
  simp only [Tryz.ntmps189, Tryz.results189, maxLen, Nat.reduceSub, Nat.reducePow, Nat.reduceAdd, Int.cast_ofNat_Int, push_cast] at hnl hfit hpre ⊢
  obtain ⟨(a : List Int), (b : List Int), (c : List (List Int)), (rc : RC), _⟩ := x
  dsimp only at hfit hpre ⊢
  obtain ⟨h1, h2, h3, h6⟩ := hpre
  generalize deepI rc = p at *
  subst h1
  have ha5 := h2.a5
  have hb5 := h2.b5
  have hrw := h2.rows
  have hcr := h3.rows
  have hls := LSt.all h2 p.length (Nat.le_refl _)
  have hl1 : (leftV a b p).1.length = a.length := hls.l1
  have hl2 : (leftV a b p).2.length = b.length := hls.l2
  repeat' (first|(refine goK (by assumption) ?_; iterate 4 (try clear hK K))|(refine zAd fun K hK => ?_)|((first|refine zAb hE rfl ?_|refine zAh ?_|((first|refine zAa hE 1 rfl rfl (by kernel_rfl) ?_|refine zAa hE 2 rfl rfl (by kernel_rfl) ?_|refine zAa hE 3 rfl rfl (by kernel_rfl) ?_|refine zAa hE 4 rfl rfl (by kernel_rfl) ?_); simp only [List.length_cons, List.length_nil, Nat.reduceAdd, Nat.reduceSub, List.take_succ_cons, List.take_zero, List.drop_succ_cons, List.drop_zero])); simp +contextual only [hnl, ↓kN, ↓kP, ↓kG, ↓qN, ↓qP, ↓qG, push_cast, seval, reduceCtorEq, Int.cast_ofNat_Int])|refine zAc ?_|((first|refine zAg ?_|refine zAf ?_); simp only [thenQ, zAk, if_true, if_false, Nat.reduceEqDiff, reduceCtorEq])|(refine zAe (by rfl) (fun hb => ?_) (fun hb => ?_) <;> (try simp only [b1, b2, b3, b4, reduceCtorEq, b5, b6] at hb) <;> (try omega))|refine zAi (by rfl) ?_ ?_|refine andS ?_|(refine ⟨fun hc => ?_, fun hc => ?_⟩)|(intro hc; try omega))
  refine zEx 12 37 37 (by simp only [push_cast, seval, reduceCtorEq, Int.cast_ofNat_Int]; rfl) (by omega) ?_
  refine zEx 13 40 40 (by simp only [push_cast, seval, reduceCtorEq, Int.cast_ofNat_Int]; rfl) (by omega) ?_
  refine zEx 14 43 43 (by simp only [push_cast, seval, reduceCtorEq, Int.cast_ofNat_Int]; rfl) (by omega) ?_
  refine zEx 15 46 46 (by simp only [push_cast, seval, reduceCtorEq, Int.cast_ofNat_Int]; rfl) (by omega) ?_
  refine zAl (fun k : Nat => AS.of [(0, .one (.val (.sl .int) a)), (1, .one (.val (.sl .int) b)), (2, .one (.val (.sl (.sl .int)) c)), (3, .one (.ref 0)), (11, .one (.ref 1032)), (10, .one (.ref 32)), (12, .one (.ref 37)), (13, .one (.ref 40)), (14, .one (.ref 43)), (15, .one (.ref 46)), (47, .one (.ref 32)), (48, .I (leftV a b p).1.length), (49, .I k)]
    [(0, .deep 25 3 .int p), (1032, .flat 3 .int (leftV a b p).2), (32, .flat 3 .int (leftV a b p).1), (37, .flat 3 .int (zBG (leftV a b p).1 a.length k).1), (40, .flat 3 .int (zBG (leftV a b p).1 a.length k).2), (43, .flat 3 .int (List.replicate b.length 0)), (46, .flat 3 .int (List.replicate b.length 0))] [])
    (fun k => k ≤ a.length) (fun k => a.length - k) 0 (Nat.zero_le _) ?_ ?_
  · refine zAj ?_ ?_ ?_ <;> simp only [push_cast, seval, reduceCtorEq, Int.cast_ofNat_Int]
    exact ⟨.inl rfl, .inl rfl⟩
  intro k hk K' hL
  have hsr := zDj (leftV a b p).1 a.length k
  have hst : zBG (leftV a b p).1 a.length (k + 1) = zB1 (leftV a b p).1 k (zBG (leftV a b p).1 a.length k) := rfl
  repeat' (first|(refine goK (by assumption) ?_; iterate 4 (try clear hK K))|(refine zAd fun K hK => ?_)|((first|refine zAb hE rfl ?_|refine zAh ?_|((first|refine zAa hE 1 rfl rfl (by kernel_rfl) ?_|refine zAa hE 2 rfl rfl (by kernel_rfl) ?_|refine zAa hE 3 rfl rfl (by kernel_rfl) ?_|refine zAa hE 4 rfl rfl (by kernel_rfl) ?_); simp only [List.length_cons, List.length_nil, Nat.reduceAdd, Nat.reduceSub, List.take_succ_cons, List.take_zero, List.drop_succ_cons, List.drop_zero])); simp +contextual only [hnl, ↓kN, ↓kP, ↓kG, ↓qN, ↓qP, ↓qG, push_cast, seval, reduceCtorEq, Int.cast_ofNat_Int])|refine zAc ?_|((first|refine zAg ?_|refine zAf ?_); simp only [thenQ, zAk, if_true, if_false, Nat.reduceEqDiff, reduceCtorEq])|(refine zAe (by rfl) (fun hb => ?_) (fun hb => ?_) <;> (try simp only [b1, b2, b3, b4, reduceCtorEq, b5, b6] at hb) <;> (try omega))|refine zAi (by rfl) ?_ ?_|refine andS ?_|(refine ⟨fun hc => ?_, fun hc => ?_⟩)|(intro hc; try omega))
  · refine hL _ (k + 1) (by omega) (by omega) ?_
    refine zAj ?_ ?_ ?_ <;> simp only [push_cast, seval, reduceCtorEq, Int.cast_ofNat_Int]
    rw [hst, zB1, if_pos hb]
    exact ⟨.inl rfl, .inl rfl⟩
  · refine hL _ (k + 1) (by omega) (by omega) ?_
    refine zAj ?_ ?_ ?_ <;> simp only [push_cast, seval, reduceCtorEq, Int.cast_ofNat_Int]
    rw [hst, zB1, if_neg hb]
    exact ⟨.inl rfl, .inl rfl⟩
  obtain rfl : k = a.length := by omega
  clear hb hL hst
  refine zAl (fun k : Nat => AS.of [(0, .one (.val (.sl .int) a)), (1, .one (.val (.sl .int) b)), (2, .one (.val (.sl (.sl .int)) c)), (3, .one (.ref 0)), (11, .one (.ref 1032)), (12, .one (.ref 37)), (13, .one (.ref 40)), (14, .one (.ref 43)), (15, .one (.ref 46)), (64, .I (leftV a b p).2.length), (65, .I k)]
    [(0, .deep 25 3 .int p), (1032, .flat 3 .int (leftV a b p).2), (37, .flat 3 .int (zBG (leftV a b p).1 a.length a.length).1), (40, .flat 3 .int (zBG (leftV a b p).1 a.length a.length).2), (43, .flat 3 .int (zEG b.length k)), (46, .flat 3 .int (List.replicate b.length 0))] [])
    (fun k => k ≤ b.length) (fun k => b.length - k) 0 (Nat.zero_le _) ?_ ?_
  · refine zAj ?_ ?_ ?_ <;> simp only [push_cast, seval, reduceCtorEq, Int.cast_ofNat_Int]
    exact .inl rfl
  intro k hk K2 hL
  have hsc := zEv b.length k
  have hst : zEG b.length (k + 1) = (zEG b.length k).set k far := rfl
  repeat' (first|(refine goK (by assumption) ?_; iterate 4 (try clear hK K))|(refine zAd fun K hK => ?_)|((first|refine zAb hE rfl ?_|refine zAh ?_|((first|refine zAa hE 1 rfl rfl (by kernel_rfl) ?_|refine zAa hE 2 rfl rfl (by kernel_rfl) ?_|refine zAa hE 3 rfl rfl (by kernel_rfl) ?_|refine zAa hE 4 rfl rfl (by kernel_rfl) ?_); simp only [List.length_cons, List.length_nil, Nat.reduceAdd, Nat.reduceSub, List.take_succ_cons, List.take_zero, List.drop_succ_cons, List.drop_zero])); simp +contextual only [hnl, ↓kN, ↓kP, ↓kG, ↓qN, ↓qP, ↓qG, push_cast, seval, reduceCtorEq, Int.cast_ofNat_Int])|refine zAc ?_|((first|refine zAg ?_|refine zAf ?_); simp only [thenQ, zAk, if_true, if_false, Nat.reduceEqDiff, reduceCtorEq])|(refine zAe (by rfl) (fun hb => ?_) (fun hb => ?_) <;> (try simp only [b1, b2, b3, b4, reduceCtorEq, b5, b6] at hb) <;> (try omega))|refine zAi (by rfl) ?_ ?_|refine andS ?_|(refine ⟨fun hc => ?_, fun hc => ?_⟩)|(intro hc; try omega))
  · refine hL _ (k + 1) (by omega) (by omega) ?_
    refine zAj ?_ ?_ ?_ <;> simp only [push_cast, seval, reduceCtorEq, Int.cast_ofNat_Int]
    rw [hst]
    exact .inl rfl
  obtain rfl : k = b.length := by omega
  clear hb hL hst
  refine zAl (fun k : Nat => AS.of [(0, .one (.val (.sl .int) a)), (1, .one (.val (.sl .int) b)), (2, .one (.val (.sl (.sl .int)) c)), (3, .one (.ref 0)), (11, .one (.ref 1032)), (12, .one (.ref 37)), (13, .one (.ref 40)), (14, .one (.ref 43)), (15, .one (.ref 46)), (76, .I (a.length + b.length : Nat)), (77, .I k)]
    [(0, .deep 25 3 .int p), (1032, .flat 3 .int (leftV a b p).2), (37, .flat 3 .int (distK a b c p k).ra), (40, .flat 3 .int (distK a b c p k).rf), (43, .flat 3 .int (distK a b c p k).ca), (46, .flat 3 .int (distK a b c p k).cf)] [])
    (fun k => k ≤ a.length + b.length) (fun k => a.length + b.length - k) 0 (Nat.zero_le _) ?_ ?_
  · refine zAj ?_ ?_ ?_ <;> simp only [push_cast, seval, reduceCtorEq, Int.cast_ofNat_Int]
    exact ⟨.inl rfl, .inl rfl, .inl rfl, .inl rfl⟩
  intro k hk K3 hL
  have hD := zGj h3 h2 k
  repeat' (first|(refine goK (by assumption) ?_; iterate 4 (try clear hK K))|(refine zAd fun K hK => ?_)|((first|refine zAb hE rfl ?_|refine zAh ?_|((first|refine zAa hE 1 rfl rfl (by kernel_rfl) ?_|refine zAa hE 2 rfl rfl (by kernel_rfl) ?_|refine zAa hE 3 rfl rfl (by kernel_rfl) ?_|refine zAa hE 4 rfl rfl (by kernel_rfl) ?_); simp only [List.length_cons, List.length_nil, Nat.reduceAdd, Nat.reduceSub, List.take_succ_cons, List.take_zero, List.drop_succ_cons, List.drop_zero])); simp +contextual only [hnl, ↓kN, ↓kP, ↓kG, ↓qN, ↓qP, ↓qG, push_cast, seval, reduceCtorEq, Int.cast_ofNat_Int])|refine zAc ?_|((first|refine zAg ?_|refine zAf ?_); simp only [thenQ, zAk, if_true, if_false, Nat.reduceEqDiff, reduceCtorEq])|(refine zAe (by rfl) (fun hb => ?_) (fun hb => ?_) <;> (try simp only [b1, b2, b3, b4, reduceCtorEq, b5, b6] at hb) <;> (try omega))|refine zAi (by rfl) ?_ ?_|refine andS ?_|(refine ⟨fun hc => ?_, fun hc => ?_⟩)|(intro hc; try omega))
  · have hDn : distK a b c p (k + 1) = upto (zA7 c p) c.length (distK a b c p k) := rfl
    generalize distK a b c p k = s0 at hD hDn ⊢
    refine zAl (fun i : Nat => AS.of [(0, .one (.val (.sl .int) a)), (1, .one (.val (.sl .int) b)), (2, .one (.val (.sl (.sl .int)) c)), (3, .one (.ref 0)), (11, .one (.ref 1032)), (12, .one (.ref 37)), (13, .one (.ref 40)), (14, .one (.ref 43)), (15, .one (.ref 46)), (76, .I (a.length + b.length : Nat)), (77, .I k), (79, .one (.val (.sl (.sl .int)) c)), (80, .I c.length), (81, .I i)]
      [(0, .deep 25 3 .int p), (1032, .flat 3 .int (leftV a b p).2), (37, .flat 3 .int (upto (zA7 c p) i s0).ra), (40, .flat 3 .int (upto (zA7 c p) i s0).rf), (43, .flat 3 .int (upto (zA7 c p) i s0).ca), (46, .flat 3 .int (upto (zA7 c p) i s0).cf)] [])
      (fun i => i ≤ c.length) (fun i => c.length - i) 0 (Nat.zero_le _) ?_ ?_
    · refine zAj ?_ ?_ ?_ <;> simp only [push_cast, seval, reduceCtorEq, Int.cast_ofNat_Int]
      exact ⟨.inl rfl, .inl rfl, .inl rfl, .inl rfl⟩
    intro i hi K4 hL4
    repeat' (first|(refine goK (by assumption) ?_; iterate 4 (try clear hK K))|(refine zAd fun K hK => ?_)|((first|refine zAb hE rfl ?_|refine zAh ?_|((first|refine zAa hE 1 rfl rfl (by kernel_rfl) ?_|refine zAa hE 2 rfl rfl (by kernel_rfl) ?_|refine zAa hE 3 rfl rfl (by kernel_rfl) ?_|refine zAa hE 4 rfl rfl (by kernel_rfl) ?_); simp only [List.length_cons, List.length_nil, Nat.reduceAdd, Nat.reduceSub, List.take_succ_cons, List.take_zero, List.drop_succ_cons, List.drop_zero])); simp +contextual only [hnl, ↓kN, ↓kP, ↓kG, ↓qN, ↓qP, ↓qG, push_cast, seval, reduceCtorEq, Int.cast_ofNat_Int])|refine zAc ?_|((first|refine zAg ?_|refine zAf ?_); simp only [thenQ, zAk, if_true, if_false, Nat.reduceEqDiff, reduceCtorEq])|(refine zAe (by rfl) (fun hb => ?_) (fun hb => ?_) <;> (try simp only [b1, b2, b3, b4, reduceCtorEq, b5, b6] at hb) <;> (try omega))|refine zAi (by rfl) ?_ ?_|refine andS ?_|(refine ⟨fun hc => ?_, fun hc => ?_⟩)|(intro hc; try omega))
    · have hi' : i < a.length := by omega
      have hci := h3.cols i hi'
      have hpi := h2.tab.cols i hi'
      have hQ := DSt.tab p h3 hb5.2 hD i (by omega)
      have hQn : upto (zA7 c p) (i + 1) s0 = upto (relax c p i) (c.getD i []).length (upto (zA7 c p) i s0) := rfl
      generalize upto (zA7 c p) i s0 = s1 at hQ hQn ⊢
      refine zAl (fun j : Nat => AS.of [(0, .one (.val (.sl .int) a)), (1, .one (.val (.sl .int) b)), (2, .one (.val (.sl (.sl .int)) c)), (3, .one (.ref 0)), (11, .one (.ref 1032)), (12, .one (.ref 37)), (13, .one (.ref 40)), (14, .one (.ref 43)), (15, .one (.ref 46)), (19, .I i), (76, .I (a.length + b.length : Nat)), (77, .I k), (79, .one (.val (.sl (.sl .int)) c)), (80, .I c.length), (81, .I i), (86, .one (.val (.sl .int) (c.getD i []))), (87, .I (c.getD i []).length), (88, .I j)]
        [(0, .deep 25 3 .int p), (1032, .flat 3 .int (leftV a b p).2), (37, .flat 3 .int (upto (relax c p i) j s1).ra), (40, .flat 3 .int (upto (relax c p i) j s1).rf), (43, .flat 3 .int (upto (relax c p i) j s1).ca), (46, .flat 3 .int (upto (relax c p i) j s1).cf)] [])
        (fun j => j ≤ (c.getD i []).length) (fun j => (c.getD i []).length - j) 0 (Nat.zero_le _) ?_ ?_
      · refine zAj ?_ ?_ ?_ <;> simp only [push_cast, seval, reduceCtorEq, Int.cast_ofNat_Int]
        exact ⟨.inl rfl, .inl rfl, .inl rfl, .inl rfl⟩
      intro j hj K5 hL5
      have hF := DSt.row p h3 hQ hi' j (by omega)
      have hFn : upto (relax c p i) (j + 1) s1 = relax c p i j (upto (relax c p i) j s1) := rfl
      generalize hs2 : upto (relax c p i) j s1 = s2 at hF hFn ⊢
      have g1 := hF.l1
      have g2 := hF.l2
      have g3 := hF.l3
      have g4 := hF.l4
      have g5 := hF.b1.at (i := i) (by omega)
      have hfar : far = 1099511627776 := rfl
      rcases Nat.lt_or_ge j b.length with hjb | hjb
      · have g6 := hF.b3.at (i := j) (by omega)
        have g7 := h3.at' i j hi' hjb
        have g8 : ∀ x : Int, (s2.ca.set j x).getD j 0 = x := fun x => by rw [zCt (by omega), if_pos rfl]
        have g9 : ∀ x : Int, (s2.ca.set j x).length = s2.ca.length := fun x => List.length_set
        replace hnl := And.intro hnl (And.intro g8 g9)
        repeat' (first|(refine goK (by assumption) ?_; iterate 4 (try clear hK K))|(refine zAd fun K hK => ?_)|((first|refine zAb hE rfl ?_|refine zAh ?_|((first|refine zAa hE 1 rfl rfl (by kernel_rfl) ?_|refine zAa hE 2 rfl rfl (by kernel_rfl) ?_|refine zAa hE 3 rfl rfl (by kernel_rfl) ?_|refine zAa hE 4 rfl rfl (by kernel_rfl) ?_); simp only [List.length_cons, List.length_nil, Nat.reduceAdd, Nat.reduceSub, List.take_succ_cons, List.take_zero, List.drop_succ_cons, List.drop_zero])); simp +contextual only [hnl, ↓kN, ↓kP, ↓kG, ↓qN, ↓qP, ↓qG, push_cast, seval, reduceCtorEq, Int.cast_ofNat_Int])|refine zAc ?_|((first|refine zAg ?_|refine zAf ?_); simp only [thenQ, zAk, if_true, if_false, Nat.reduceEqDiff, reduceCtorEq])|(refine zAe (by rfl) (fun hb => ?_) (fun hb => ?_) <;> (try simp only [b1, b2, b3, b4, reduceCtorEq, b5, b6] at hb) <;> (try omega))|refine zAi (by rfl) ?_ ?_|refine andS ?_|(refine ⟨fun hc => ?_, fun hc => ?_⟩)|(intro hc; try omega))
        all_goals refine hL5 _ (j + 1) (by omega) (by omega) ?_
        all_goals refine zAj ?_ ?_ ?_ <;> simp only [push_cast, seval, reduceCtorEq, Int.cast_ofNat_Int]
        all_goals rw [hFn]
        all_goals first | rw [zRo (by omega) (by omega) (by omega)] | rw [zRn (by omega) (by omega) (by omega) (by omega)] | rw [zRm (by omega) (by omega)]
        all_goals exact ⟨.inl rfl, .inl rfl, .inl rfl, .inl rfl⟩
      · repeat' (first|(refine goK (by assumption) ?_; iterate 4 (try clear hK K))|(refine zAd fun K hK => ?_)|((first|refine zAb hE rfl ?_|refine zAh ?_|((first|refine zAa hE 1 rfl rfl (by kernel_rfl) ?_|refine zAa hE 2 rfl rfl (by kernel_rfl) ?_|refine zAa hE 3 rfl rfl (by kernel_rfl) ?_|refine zAa hE 4 rfl rfl (by kernel_rfl) ?_); simp only [List.length_cons, List.length_nil, Nat.reduceAdd, Nat.reduceSub, List.take_succ_cons, List.take_zero, List.drop_succ_cons, List.drop_zero])); simp +contextual only [hnl, ↓kN, ↓kP, ↓kG, ↓qN, ↓qP, ↓qG, push_cast, seval, reduceCtorEq, Int.cast_ofNat_Int])|refine zAc ?_|((first|refine zAg ?_|refine zAf ?_); simp only [thenQ, zAk, if_true, if_false, Nat.reduceEqDiff, reduceCtorEq])|(refine zAe (by rfl) (fun hb => ?_) (fun hb => ?_) <;> (try simp only [b1, b2, b3, b4, reduceCtorEq, b5, b6] at hb) <;> (try omega))|refine zAi (by rfl) ?_ ?_|refine andS ?_|(refine ⟨fun hc => ?_, fun hc => ?_⟩)|(intro hc; try omega))
        obtain rfl : j = (c.getD i []).length := by omega
        rw [hs2] at hQn
        refine hL4 _ (i + 1) (by omega) (by omega) ?_
        refine zAj ?_ ?_ ?_ <;> simp only [push_cast, seval, reduceCtorEq, Int.cast_ofNat_Int]
        rw [hQn]
        exact ⟨.inl rfl, .inl rfl, .inl rfl, .inl rfl⟩
    · obtain rfl : i = c.length := by omega
      refine hL _ (k + 1) (by omega) (by omega) ?_
      refine zAj ?_ ?_ ?_ <;> simp only [push_cast, seval, reduceCtorEq, Int.cast_ofNat_Int]
      rw [hDn]
      exact ⟨.inl rfl, .inl rfl, .inl rfl, .inl rfl⟩
  obtain rfl : k = a.length + b.length := by omega
  clear hb hL
  have hE0 : distK a b c p (a.length + b.length) = dist a b c p := rfl
  rw [hE0] at hD ⊢
  have hV0 : bestV a b c p = zBr (leftV a b p).2 (dist a b c p).ca b.length := rfl
  have hN0 : nextN a b c p = if bestV a b c p < 0 then 0 else (dist a b c p).ca.getD (bestV a b c p).toNat 0 := rfl
  have hP0 : nextP a b c p = if bestV a b c p < 0 then some p else Go.OT.follow (dist a b c p).rf (dist a b c p).cf (a.length + b.length) (bestV a b c p) p := rfl
  generalize dist a b c p = x at hD hV0 hN0 hP0 ⊢
  have hfar : far = 1099511627776 := rfl
  have hx1 := hD.l1
  have hx2 := hD.l2
  have hx3 := hD.l3
  have hx4 := hD.l4
  refine zAl (fun j : Nat => AS.of [(0, .one (.val (.sl .int) a)), (1, .one (.val (.sl .int) b)), (2, .one (.val (.sl (.sl .int)) c)), (3, .one (.ref 0)), (11, .one (.ref 1032)), (12, .one (.ref 37)), (13, .one (.ref 40)), (14, .one (.ref 43)), (15, .one (.ref 46)), (23, .I (zBr (leftV a b p).2 x.ca j)), (168, .one (.ref 1032)), (169, .I (leftV a b p).2.length), (170, .I j)]
    [(0, .deep 25 3 .int p), (1032, .flat 3 .int (leftV a b p).2), (37, .flat 3 .int x.ra), (40, .flat 3 .int x.rf), (43, .flat 3 .int x.ca), (46, .flat 3 .int x.cf)] [])
    (fun j => j ≤ b.length) (fun j => b.length - j) 0 (Nat.zero_le _) ?_ ?_
  · refine zAj ?_ ?_ ?_ <;> simp only [push_cast, seval, reduceCtorEq, Int.cast_ofNat_Int]
    rfl
  intro j hj K6 hL6
  have hbs := zCW (leftV a b p).2 x.ca j
  have hbn : zBr (leftV a b p).2 x.ca (j + 1) = if 0 < (leftV a b p).2.getD j 0 ∧ x.ca.getD j 0 < far ∧ (zBr (leftV a b p).2 x.ca j < 0 ∨ x.ca.getD j 0 < x.ca.getD (zBr (leftV a b p).2 x.ca j).toNat 0) then (j : Int) else zBr (leftV a b p).2 x.ca j := rfl
  have hbl : -1 ≤ zBr (leftV a b p).2 x.ca j ∧ zBr (leftV a b p).2 x.ca j < b.length := by
    rcases hbs with ⟨h, _⟩ | ⟨m, h, h', _⟩ <;> omega
  repeat' (first|(refine goK (by assumption) ?_; iterate 4 (try clear hK K))|(refine zAd fun K hK => ?_)|((first|refine zAb hE rfl ?_|refine zAh ?_|((first|refine zAa hE 1 rfl rfl (by kernel_rfl) ?_|refine zAa hE 2 rfl rfl (by kernel_rfl) ?_|refine zAa hE 3 rfl rfl (by kernel_rfl) ?_|refine zAa hE 4 rfl rfl (by kernel_rfl) ?_); simp only [List.length_cons, List.length_nil, Nat.reduceAdd, Nat.reduceSub, List.take_succ_cons, List.take_zero, List.drop_succ_cons, List.drop_zero])); simp +contextual only [hnl, ↓kN, ↓kP, ↓kG, ↓qN, ↓qP, ↓qG, push_cast, seval, reduceCtorEq, Int.cast_ofNat_Int])|refine zAc ?_|((first|refine zAg ?_|refine zAf ?_); simp only [thenQ, zAk, if_true, if_false, Nat.reduceEqDiff, reduceCtorEq])|(refine zAe (by rfl) (fun hb => ?_) (fun hb => ?_) <;> (try simp only [b1, b2, b3, b4, reduceCtorEq, b5, b6] at hb) <;> (try omega))|refine zAi (by rfl) ?_ ?_|refine andS ?_|(refine ⟨fun hc => ?_, fun hc => ?_⟩)|(intro hc; try omega))
  iterate 5
    · refine hL6 _ (j + 1) (by omega) (by omega) ?_
      refine zAj ?_ ?_ ?_ <;> simp only [push_cast, seval, reduceCtorEq, Int.cast_ofNat_Int]
      rw [hbn]
      first | rw [if_pos (by omega)] | rw [if_neg (by omega)]
  · obtain rfl : j = b.length := by omega
    have hbv : bestV a b c p < 0 := by rw [hV0]; exact hb
    rw [hN0, hP0, if_pos hbv, if_pos hbv]
    exact ⟨⟨rfl, (decide_eq_false (by omega)).symm⟩, rfl⟩
  obtain rfl : j = b.length := by omega
  have hbv : ¬ bestV a b c p < 0 := by rw [hV0]; exact hb
  obtain ⟨m, hm, hbm⟩ : ∃ m : Nat, m < b.length ∧ bestV a b c p = m := by
    rcases hbs with ⟨h, _⟩ | ⟨m, h, h', _⟩
    · omega
    · exact ⟨m, h, by rw [hV0, h']⟩
  rw [if_neg hbv, hbm] at hP0 hN0
  rw [Int.toNat_natCast] at hN0
  rw [← hV0, hbm]
  obtain ⟨p', hp'⟩ := Option.isSome_iff_exists.1 h6
  rw [hP0] at hp'
  clear hbs hbn hbl hL6
  refine zAl (fun y : Nat × Int × List (List Int) => AS.of [(0, .one (.val (.sl .int) a)), (1, .one (.val (.sl .int) b)), (2, .one (.val (.sl (.sl .int)) c)), (3, .one (.ref 0)), (11, .one (.ref 1032)), (12, .one (.ref 37)), (13, .one (.ref 40)), (14, .one (.ref 43)), (15, .one (.ref 46)), (23, .I m), (26, .I y.2.1)]
    [(0, .deep 25 3 .int y.2.2), (37, .flat 3 .int x.ra), (40, .flat 3 .int x.rf), (43, .flat 3 .int x.ca), (46, .flat 3 .int x.cf)] [])
    (ChI x a.length b.length p') (fun y => y.1) (a.length + b.length, (m : Int), p) ⟨by dsimp only; omega, Tb.mono h2.tab (by dsimp only; omega) (by dsimp only; omega), by dsimp only; omega, by dsimp only; omega, hp'⟩ ?_ ?_
  · refine zAj ?_ ?_ ?_ <;> simp only [push_cast, seval, reduceCtorEq, Int.cast_ofNat_Int]
  intro y hI K7 hL7
  obtain ⟨n, j, q⟩ := y
  obtain ⟨i1, i2, i3, i4, i5⟩ := hI
  dsimp only at i1 i2 i3 i4 i5 ⊢
  have hql := i2.rows
  by_cases hj0 : 0 ≤ j
  · obtain ⟨n, rfl, hfol⟩ := zNe hj0 i5
    obtain ⟨jn, rfl⟩ := Int.eq_ofNat_of_zero_le hj0
    have hc4 := hD.b4.at (i := jn) (by omega)
    obtain ⟨i, hi⟩ := Int.eq_ofNat_of_zero_le hc4.1
    rw [hi] at hc4
    have hr2 := hD.b2.at (i := i) (by omega)
    have hqi := i2.cols i (by omega)
    have hqe := i2.at' i jn (by omega) (by omega)
    have hq1 : ∀ r : List Int, (q.set i r).getD i [] = r := fun r => by rw [zGm, if_pos ⟨rfl, by omega⟩]
    have hq2 : ∀ r : List Int, (q.set i r).length = q.length := fun r => List.length_set
    have hq3 : ∀ v : Int, ((q.getD i []).set jn v).length = (q.getD i []).length := fun v => List.length_set
    have hnx : zCI x.rf x.cf (jn : Int) = x.rf.getD i 0 := by
      unfold zCI
      rw [Int.toNat_natCast, hi, Int.toNat_natCast]
    rw [hnx] at hfol
    by_cases hr0 : 0 ≤ x.rf.getD i 0
    · obtain ⟨j2, hj2⟩ := Int.eq_ofNat_of_zero_le hr0
      have hst : zBn x.rf x.cf (jn : Int) q = Go.OT.addAt (Go.OT.addAt q i jn 1) i j2 (-1) := by
        unfold zBn
        dsimp only
        rw [Int.toNat_natCast, hi, Int.toNat_natCast, hj2, if_pos (by omega), Int.toNat_natCast]
      rw [hst, hj2] at hfol
      rw [hj2] at hr2 hr0
      have hAA : Go.OT.addAt (Go.OT.addAt q i jn 1) i j2 (-1) = (q.set i ((q.getD i []).set jn ((q.getD i []).getD jn 0 + 1))).set i (((q.getD i []).set jn ((q.getD i []).getD jn 0 + 1)).set j2 (((q.getD i []).set jn ((q.getD i []).getD jn 0 + 1)).getD j2 0 - 1)) := by
        unfold Go.OT.addAt
        rw [hq1]
        rfl
      have hq4 : -14 ≤ ((q.getD i []).set jn ((q.getD i []).getD jn 0 + 1)).getD j2 0 ∧ ((q.getD i []).set jn ((q.getD i []).getD jn 0 + 1)).getD j2 0 ≤ 214 := by
        have := i2.at' i j2 (by omega) (by omega)
        rw [zCt (by omega)]
        split <;> omega
      have hI' : ChI x a.length b.length p' (n, (j2 : Int), Go.OT.addAt (Go.OT.addAt q i jn 1) i j2 (-1)) := ⟨by dsimp only; omega, Tb.mono (Tb.addAt2 (d := 0) (e := 0) (i := i) (j := jn) (j' := j2) i2 (by omega) (by omega) (by omega)) (by dsimp only; omega) (by dsimp only; omega), by dsimp only; omega, by dsimp only; omega, hfol⟩
      replace hnl := And.intro hnl (And.intro hi (And.intro hj2 (And.intro hq1 (And.intro hq2 hq3))))
      repeat' (first|(refine goK (by assumption) ?_; iterate 4 (try clear hK K))|(refine zAd fun K hK => ?_)|((first|refine zAb hE rfl ?_|refine zAh ?_|((first|refine zAa hE 1 rfl rfl (by kernel_rfl) ?_|refine zAa hE 2 rfl rfl (by kernel_rfl) ?_|refine zAa hE 3 rfl rfl (by kernel_rfl) ?_|refine zAa hE 4 rfl rfl (by kernel_rfl) ?_); simp only [List.length_cons, List.length_nil, Nat.reduceAdd, Nat.reduceSub, List.take_succ_cons, List.take_zero, List.drop_succ_cons, List.drop_zero])); simp +contextual only [hnl, ↓kN, ↓kP, ↓kG, ↓qN, ↓qP, ↓qG, push_cast, seval, reduceCtorEq, Int.cast_ofNat_Int])|refine zAc ?_|((first|refine zAg ?_|refine zAf ?_); simp only [thenQ, zAk, if_true, if_false, Nat.reduceEqDiff, reduceCtorEq])|(refine zAe (by rfl) (fun hb => ?_) (fun hb => ?_) <;> (try simp only [b1, b2, b3, b4, reduceCtorEq, b5, b6] at hb) <;> (try omega))|refine zAi (by rfl) ?_ ?_|refine andS ?_|(refine ⟨fun hc => ?_, fun hc => ?_⟩)|(intro hc; try omega))
      refine hL7 _ _ hI' (Nat.lt_succ_self n) ?_
      refine zAj ?_ ?_ ?_ <;> simp only [push_cast, seval, reduceCtorEq, Int.cast_ofNat_Int]
      rw [hAA]
      exact .inl rfl
    · have hst : zBn x.rf x.cf (jn : Int) q = Go.OT.addAt q i jn 1 := by
        unfold zBn
        dsimp only
        rw [Int.toNat_natCast, hi, Int.toNat_natCast, if_neg hr0]
      rw [hst] at hfol
      have hI' : ChI x a.length b.length p' (n, x.rf.getD i 0, Go.OT.addAt q i jn 1) := ⟨by dsimp only; omega, Tb.mono (Tb.addAt (d := 1) (i := i) (j := jn) i2 (by omega) (by omega) (by omega)) (by dsimp only; omega) (by dsimp only; omega), by dsimp only; omega, by dsimp only; omega, hfol⟩
      replace hnl := And.intro hnl (And.intro hi (And.intro hq1 (And.intro hq2 hq3)))
      repeat' (first|(refine goK (by assumption) ?_; iterate 4 (try clear hK K))|(refine zAd fun K hK => ?_)|((first|refine zAb hE rfl ?_|refine zAh ?_|((first|refine zAa hE 1 rfl rfl (by kernel_rfl) ?_|refine zAa hE 2 rfl rfl (by kernel_rfl) ?_|refine zAa hE 3 rfl rfl (by kernel_rfl) ?_|refine zAa hE 4 rfl rfl (by kernel_rfl) ?_); simp only [List.length_cons, List.length_nil, Nat.reduceAdd, Nat.reduceSub, List.take_succ_cons, List.take_zero, List.drop_succ_cons, List.drop_zero])); simp +contextual only [hnl, ↓kN, ↓kP, ↓kG, ↓qN, ↓qP, ↓qG, push_cast, seval, reduceCtorEq, Int.cast_ofNat_Int])|refine zAc ?_|((first|refine zAg ?_|refine zAf ?_); simp only [thenQ, zAk, if_true, if_false, Nat.reduceEqDiff, reduceCtorEq])|(refine zAe (by rfl) (fun hb => ?_) (fun hb => ?_) <;> (try simp only [b1, b2, b3, b4, reduceCtorEq, b5, b6] at hb) <;> (try omega))|refine zAi (by rfl) ?_ ?_|refine andS ?_|(refine ⟨fun hc => ?_, fun hc => ?_⟩)|(intro hc; try omega))
      refine hL7 _ _ hI' (Nat.lt_succ_self n) ?_
      refine zAj ?_ ?_ ?_ <;> simp only [push_cast, seval, reduceCtorEq, Int.cast_ofNat_Int]
      exact .inl rfl
  · rw [zHF _ _ (by omega)] at i5
    repeat' (first|(refine goK (by assumption) ?_; iterate 4 (try clear hK K))|(refine zAd fun K hK => ?_)|((first|refine zAb hE rfl ?_|refine zAh ?_|((first|refine zAa hE 1 rfl rfl (by kernel_rfl) ?_|refine zAa hE 2 rfl rfl (by kernel_rfl) ?_|refine zAa hE 3 rfl rfl (by kernel_rfl) ?_|refine zAa hE 4 rfl rfl (by kernel_rfl) ?_); simp only [List.length_cons, List.length_nil, Nat.reduceAdd, Nat.reduceSub, List.take_succ_cons, List.take_zero, List.drop_succ_cons, List.drop_zero])); simp +contextual only [hnl, ↓kN, ↓kP, ↓kG, ↓qN, ↓qP, ↓qG, push_cast, seval, reduceCtorEq, Int.cast_ofNat_Int])|refine zAc ?_|((first|refine zAg ?_|refine zAf ?_); simp only [thenQ, zAk, if_true, if_false, Nat.reduceEqDiff, reduceCtorEq])|(refine zAe (by rfl) (fun hb => ?_) (fun hb => ?_) <;> (try simp only [b1, b2, b3, b4, reduceCtorEq, b5, b6] at hb) <;> (try omega))|refine zAi (by rfl) ?_ ?_|refine andS ?_|(refine ⟨fun hc => ?_, fun hc => ?_⟩)|(intro hc; try omega))
    rw [hN0, hP0, hp', Option.getD_some, ← Option.some.inj i5, hbm]
    exact ⟨⟨rfl, (decide_eq_true (by omega)).symm⟩, rfl⟩
end Go.Proofs.YtlgkplnifaoeeaaGreatDoor
namespace Go.Proofs.YtlgkplnifaoeeaaGreatDoor
open Go.RowKit Go.VS
def tbl {α : Type} (n : Nat) (f : Nat → α) : List α := (List.range n).map f
theorem zBK {α : Type} (n : Nat) (f : Nat → α) : (tbl n f).length = n := by simp [tbl]
theorem zCa {α : Type} {n i : Nat} (f : Nat → α) (d : α) (h : i < n) : (tbl n f).getD i d = f i := by simp [tbl, List.getD_eq_getElem?_getD, h]
theorem zAB {α : Type} {n : Nat} {f g : Nat → α} (h : ∀ i, i < n → f i = g i) : tbl n f = tbl n g := List.map_congr_left fun i hi => h i (List.mem_range.1 hi)
theorem zFr {α : Type} (n : Nat) (f : Nat → α) : tbl (n + 1) f = tbl n f ++ [f n] := by simp [tbl, List.range_succ]
theorem zMQ {α : Type} (f : Nat → α) : tbl 0 f = [] := rfl
theorem zD7 {α : Type} {n i : Nat} (f : Nat → α) (v : α) : (tbl n f).set i v = tbl n (fun j => if j = i then v else f j) := by
  apply List.ext_getElem?
  intro j
  rw [List.getElem?_set]
  simp only [tbl, List.length_map, List.length_range, List.getElem?_map]
  by_cases hj : j < n
  · by_cases h : i = j
    · subst h; simp [hj]
    · have h' : ¬ j = i := fun e => h e.symm
      simp [h, h', hj]
  · have : (List.range n)[j]? = none := by simp; omega
    by_cases h : i = j
    · subst h; simp [hj]
    · simp [h, hj]
theorem zDk {α : Type} (n : Nat) (v : α) : tbl n (fun _ => v) = List.replicate n v := by simp [tbl, List.map_const']
theorem zGo {α : Type} (l : List α) (d : α) : l = tbl l.length (fun i => l.getD i d) := by
  apply List.ext_getElem (by simp [tbl])
  intro i h1 h2
  simp [tbl, List.getD_eq_getElem?_getD, h1]
theorem zSr {α β : Type} (l : List α) (d : α) (g : α → β) : l.map g = tbl l.length (fun i => g (l.getD i d)) := by
  conv => lhs; rw [zGo l d]
  simp [tbl]
def rowsP (p : List (List Int)) : List Int := p.map lsum
def colP (p : List (List Int)) (c : Nat) : Int := lsum (p.map fun r => r.getD c 0)
def colsP (p : List (List Int)) : List Int := tbl (wid p) (colP p)
theorem zJi {p : List (List Int)} {i : Nat} (h : i < p.length) (c : Nat) : colP (p.take (i + 1)) c = colP (p.take i) c + (p.getD i []).getD c 0 := by
  unfold colP
  rw [List.map_take, List.map_take, zB0 _ _ (by simpa using h)]
  congr 1
  simp [List.getD_eq_getElem?_getD, h]
theorem InPlan.sumR {p : List (List Int)} (h : InPlan p) {i : Nat} (hi : i < p.length) (j : Nat) : 0 ≤ lsum ((p.getD i []).take j) ∧ lsum ((p.getD i []).take j) ≤ 750 := by
  have h1 := zEi 150 (by omega) ((p.getD i []).take j) (fun x hx => h.mem _ (zAw [] hi) x (List.mem_of_mem_take hx))
  have h2 := h.row hi
  have h3 := h.cols
  have h4 : ((p.getD i []).take j).length ≤ 5 := by rw [List.length_take]; omega
  omega
theorem InPlan.sumC {p : List (List Int)} (h : InPlan p) {c : Nat} (hc : c < wid p) (i : Nat) : 0 ≤ colP (p.take i) c ∧ colP (p.take i) c ≤ 750 := by
  unfold colP
  have h1 := zEi 150 (by omega) ((p.take i).map fun r => r.getD c 0) (fun x hx => by
    obtain ⟨r, hr, rfl⟩ := List.mem_map.1 hx
    have hr' := List.mem_of_mem_take hr
    exact h.mem r hr' _ (zAw 0 (by rw [h.len r hr']; exact hc)))
  have h3 := h.rows
  have h4 : ((p.take i).map fun r => r.getD c 0).length ≤ 5 := by rw [List.length_map, List.length_take]; omega
  omega
@[push_cast] def zOL : Con := ⟨[.dat (.sl (.sl .int))], fun (x : List (List Int) × Unit) => InPlan x.1, fun (x : List (List Int) × Unit) => { res := [.own (.flat 3 .int (rowsP x.1)), .own (.flat 3 .int (colsP x.1))] }⟩
theorem zOM : FnSpec Tryz.prog 113 zOL := by
  refine FnSpec.of_tri' (E := know [] [] [] [12, 17]) (zAm all_nil all_nil all_nil) Tryz.func113 rfl rfl (by kernel_rfl) ?_
  intro C x hE hnl hfit hpre
  simp only [Tryz.ntmps113, Tryz.results113, maxLen, Nat.reduceSub, Nat.reducePow, Nat.reduceAdd, Int.cast_ofNat_Int, push_cast] at hnl hfit hpre ⊢
  obtain ⟨(p : List (List Int)), _⟩ := x
  dsimp only at hfit hpre ⊢
  have hr := hpre.rows
  have hc := hpre.cols
  have hw : (p.getD 0 []).length = wid p := rfl
  repeat' (first|(refine goK (by assumption) ?_; iterate 4 (try clear hK K))|(refine zAd fun K hK => ?_)|((first|refine zAb hE rfl ?_|refine zAh ?_|((first|refine zAa hE 1 rfl rfl (by kernel_rfl) ?_|refine zAa hE 2 rfl rfl (by kernel_rfl) ?_|refine zAa hE 3 rfl rfl (by kernel_rfl) ?_|refine zAa hE 4 rfl rfl (by kernel_rfl) ?_); simp only [List.length_cons, List.length_nil, Nat.reduceAdd, Nat.reduceSub, List.take_succ_cons, List.take_zero, List.drop_succ_cons, List.drop_zero])); simp +contextual only [hnl, ↓kN, ↓kP, ↓kG, ↓qN, ↓qP, ↓qG, push_cast, seval, reduceCtorEq, Int.cast_ofNat_Int])|refine zAc ?_|((first|refine zAg ?_|refine zAf ?_); simp only [thenQ, zAk, if_true, if_false, Nat.reduceEqDiff, reduceCtorEq])|(refine zAe (by rfl) (fun hb => ?_) (fun hb => ?_) <;> (try simp only [b1, b2, b3, b4, reduceCtorEq, b5, b6] at hb) <;> (try omega))|refine zAi (by rfl) ?_ ?_|refine andS ?_|(refine ⟨fun hc => ?_, fun hc => ?_⟩)|(intro hc; try omega))
  refine zEx 4 12 12 (by simp only [push_cast, seval, reduceCtorEq, Int.cast_ofNat_Int]; rfl) (by omega) ?_
  refine zEx 5 17 17 (by simp only [push_cast, seval, reduceCtorEq, Int.cast_ofNat_Int]; rfl) (by omega) ?_
  refine zAl (fun i : Nat => AS.of [(4, .one (.ref 12)), (5, .one (.ref 17)), (18, .one (.val (.sl (.sl .int)) p)), (19, .I p.length), (20, .I i)]
    [(12, .flat 3 .int (tbl p.length fun r => if r < i then lsum (p.getD r []) else 0)), (17, .flat 3 .int (tbl (wid p) fun c => colP (p.take i) c))] []) (fun i => i ≤ p.length) (fun i => p.length - i) 0 (Nat.zero_le _) ?_ ?_
  · refine zAj ?_ ?_ ?_ <;> simp only [push_cast, seval, reduceCtorEq, Int.cast_ofNat_Int]
    refine ⟨.inl (congrArg _ ?_), .inl (congrArg _ ?_)⟩
    · rw [← zDk]
      exact zAB fun r _ => by rw [if_neg (Nat.not_lt_zero r)]
    · rw [← zDk]
      exact zAB fun c _ => by simp [colP, lsum]
  intro i hi K' hL
  repeat' (first|(refine goK (by assumption) ?_; iterate 4 (try clear hK K))|(refine zAd fun K hK => ?_)|((first|refine zAb hE rfl ?_|refine zAh ?_|((first|refine zAa hE 1 rfl rfl (by kernel_rfl) ?_|refine zAa hE 2 rfl rfl (by kernel_rfl) ?_|refine zAa hE 3 rfl rfl (by kernel_rfl) ?_|refine zAa hE 4 rfl rfl (by kernel_rfl) ?_); simp only [List.length_cons, List.length_nil, Nat.reduceAdd, Nat.reduceSub, List.take_succ_cons, List.take_zero, List.drop_succ_cons, List.drop_zero])); simp +contextual only [hnl, ↓kN, ↓kP, ↓kG, ↓qN, ↓qP, ↓qG, push_cast, seval, reduceCtorEq, Int.cast_ofNat_Int])|refine zAc ?_|((first|refine zAg ?_|refine zAf ?_); simp only [thenQ, zAk, if_true, if_false, Nat.reduceEqDiff, reduceCtorEq])|(refine zAe (by rfl) (fun hb => ?_) (fun hb => ?_) <;> (try simp only [b1, b2, b3, b4, reduceCtorEq, b5, b6] at hb) <;> (try omega))|refine zAi (by rfl) ?_ ?_|refine andS ?_|(refine ⟨fun hc => ?_, fun hc => ?_⟩)|(intro hc; try omega))
  · have hi' : i < p.length := by omega
    have hwi := hpre.row hi'
    refine zAl (fun j : Nat => AS.of [(4, .one (.ref 12)), (5, .one (.ref 17)), (6, .I i), (18, .one (.val (.sl (.sl .int)) p)), (19, .I p.length), (20, .I i), (25, .one (.val (.sl .int) (p.getD i []))), (26, .I (p.getD i []).length), (27, .I j)]
      [(12, .flat 3 .int (tbl p.length fun r => if r < i then lsum (p.getD r []) else if r = i then lsum ((p.getD i []).take j) else 0)), (17, .flat 3 .int (tbl (wid p) fun c => colP (p.take i) c + if c < j then (p.getD i []).getD c 0 else 0))] [])
      (fun j => j ≤ wid p) (fun j => wid p - j) 0 (Nat.zero_le _) ?_ ?_
    · refine zAj ?_ ?_ ?_ <;> simp only [push_cast, seval, reduceCtorEq, Int.cast_ofNat_Int]
      refine ⟨.inl (congrArg _ (zAB fun r _ => ?_)), .inl (congrArg _ (zAB fun c _ => ?_))⟩
      · simp only [lsum, ite_self]
      · rw [if_neg (Nat.not_lt_zero c), Int.add_zero]
    intro j hj K2 hL2
    have e1 : (tbl p.length fun r => if r < i then lsum (p.getD r []) else if r = i then lsum ((p.getD i []).take j) else 0).getD i 0 = lsum ((p.getD i []).take j) := by
      rw [zCa _ _ hi', if_neg (Nat.lt_irrefl _), if_pos rfl]
    have e2 : j < wid p → (tbl (wid p) fun c => colP (p.take i) c + if c < j then (p.getD i []).getD c 0 else 0).getD j 0 = colP (p.take i) j := fun hj' => by
      rw [zCa _ _ hj', if_neg (Nat.lt_irrefl _), Int.add_zero]
    have s1 := hpre.sumR hi' j
    replace hnl := And.intro hnl (And.intro e1 (And.intro (zBK p.length fun r => if r < i then lsum (p.getD r []) else if r = i then lsum ((p.getD i []).take j) else 0) (zBK (wid p) fun c => colP (p.take i) c + if c < j then (p.getD i []).getD c 0 else 0)))
    repeat' (first|(refine goK (by assumption) ?_; iterate 4 (try clear hK K))|(refine zAd fun K hK => ?_)|((first|refine zAb hE rfl ?_|refine zAh ?_|((first|refine zAa hE 1 rfl rfl (by kernel_rfl) ?_|refine zAa hE 2 rfl rfl (by kernel_rfl) ?_|refine zAa hE 3 rfl rfl (by kernel_rfl) ?_|refine zAa hE 4 rfl rfl (by kernel_rfl) ?_); simp only [List.length_cons, List.length_nil, Nat.reduceAdd, Nat.reduceSub, List.take_succ_cons, List.take_zero, List.drop_succ_cons, List.drop_zero])); simp +contextual only [hnl, ↓kN, ↓kP, ↓kG, ↓qN, ↓qP, ↓qG, push_cast, seval, reduceCtorEq, Int.cast_ofNat_Int])|refine zAc ?_|((first|refine zAg ?_|refine zAf ?_); simp only [thenQ, zAk, if_true, if_false, Nat.reduceEqDiff, reduceCtorEq])|(refine zAe (by rfl) (fun hb => ?_) (fun hb => ?_) <;> (try simp only [b1, b2, b3, b4, reduceCtorEq, b5, b6] at hb) <;> (try omega))|refine zAi (by rfl) ?_ ?_|refine andS ?_|(refine ⟨fun hc => ?_, fun hc => ?_⟩)|(intro hc; try omega))
    · have hj' : j < wid p := by omega
      have s2 := hpre.at hi' hj'
      have s3 := hpre.sumC hj' i
      have s4 : InR ((tbl (wid p) fun c => colP (p.take i) c + if c < j then (p.getD i []).getD c 0 else 0).getD j 0 + (p.getD i []).getD j 0) := by
        rw [e2 hj']
        unfold InR
        omega
      refine ⟨by unfold InR; omega, ?_⟩
      repeat' (first|(refine goK (by assumption) ?_; iterate 4 (try clear hK K))|(refine zAd fun K hK => ?_)|((first|refine zAb hE rfl ?_|refine zAh ?_|((first|refine zAa hE 1 rfl rfl (by kernel_rfl) ?_|refine zAa hE 2 rfl rfl (by kernel_rfl) ?_|refine zAa hE 3 rfl rfl (by kernel_rfl) ?_|refine zAa hE 4 rfl rfl (by kernel_rfl) ?_); simp only [List.length_cons, List.length_nil, Nat.reduceAdd, Nat.reduceSub, List.take_succ_cons, List.take_zero, List.drop_succ_cons, List.drop_zero])); simp +contextual only [hnl, ↓kN, ↓kP, ↓kG, ↓qN, ↓qP, ↓qG, push_cast, seval, reduceCtorEq, Int.cast_ofNat_Int])|refine zAc ?_|((first|refine zAg ?_|refine zAf ?_); simp only [thenQ, zAk, if_true, if_false, Nat.reduceEqDiff, reduceCtorEq])|(refine zAe (by rfl) (fun hb => ?_) (fun hb => ?_) <;> (try simp only [b1, b2, b3, b4, reduceCtorEq, b5, b6] at hb) <;> (try omega))|refine zAi (by rfl) ?_ ?_|refine andS ?_|(refine ⟨fun hc => ?_, fun hc => ?_⟩)|(intro hc; try omega))
      refine hL2 _ (j + 1) (by omega) (by omega) ?_
      refine zAj ?_ ?_ ?_ <;> simp only [push_cast, seval, reduceCtorEq, Int.cast_ofNat_Int]
      rw [e2 hj', zD7, zD7]
      refine ⟨.inl (congrArg _ (zAB fun r _ => ?_)), .inl (congrArg _ (zAB fun c _ => ?_))⟩
      · by_cases h : r = i
        · subst h
          rw [if_pos rfl, if_neg (Nat.lt_irrefl _), if_pos rfl, zB0 _ _ (by omega)]
        · rw [if_neg h, if_neg h, if_neg h]
      · by_cases h : c = j
        · subst h
          rw [if_pos rfl, if_pos (Nat.lt_succ_self _)]
        · rw [if_neg h]
          by_cases h2 : c < j
          · rw [if_pos h2, if_pos (by omega)]
          · rw [if_neg h2, if_neg (by omega)]
    · have hjw : j = wid p := by omega
      refine hL _ (i + 1) (by omega) (by omega) ?_
      refine zAj ?_ ?_ ?_ <;> simp only [push_cast, seval, reduceCtorEq, Int.cast_ofNat_Int]
      refine ⟨.inl (congrArg _ (zAB fun r _ => ?_)), .inl (congrArg _ (zAB fun c hc => ?_))⟩
      · by_cases h : r = i
        · subst h
          rw [if_neg (Nat.lt_irrefl _), if_pos rfl, if_pos (Nat.lt_succ_self _), List.take_of_length_le (by omega)]
        · rw [if_neg h]
          by_cases h2 : r < i
          · rw [if_pos h2, if_pos (by omega)]
          · rw [if_neg h2, if_neg (by omega)]
      · rw [if_pos (by omega), zJi hi']
  · obtain rfl : i = p.length := by omega
    refine ⟨congrArg _ ?_, congrArg _ ?_⟩
    · rw [rowsP, zSr p []]
      exact zAB fun r hr => if_pos hr
    · rw [List.take_of_length_le (Nat.le_refl _)]
      rfl
@[push_cast] def zL6 : Con := ⟨[.dat (.sl .int), .dat (.sl .int)], fun _ => True, fun (x : List Int × List Int × Unit) => { res := [.val .bool (decide (x.1 = x.2.1))] }⟩
theorem zM9 : FnSpec Tryz.prog 67 zL6 := by
  refine FnSpec.of_tri' (E := know [] [] [] []) (zAm all_nil all_nil all_nil) Tryz.func67 rfl rfl (by kernel_rfl) ?_
  intro C x hE hnl hfit hpre
  simp only [Tryz.ntmps67, Tryz.results67, maxLen, Nat.reduceSub, Nat.reducePow, Nat.reduceAdd, Int.cast_ofNat_Int, push_cast] at hnl hfit hpre ⊢
  obtain ⟨(a : List Int), (b : List Int), _⟩ := x
  dsimp only at hfit hpre ⊢
  repeat' (first|(refine goK (by assumption) ?_; iterate 4 (try clear hK K))|(refine zAd fun K hK => ?_)|((first|refine zAb hE rfl ?_|refine zAh ?_|((first|refine zAa hE 1 rfl rfl (by kernel_rfl) ?_|refine zAa hE 2 rfl rfl (by kernel_rfl) ?_|refine zAa hE 3 rfl rfl (by kernel_rfl) ?_|refine zAa hE 4 rfl rfl (by kernel_rfl) ?_); simp only [List.length_cons, List.length_nil, Nat.reduceAdd, Nat.reduceSub, List.take_succ_cons, List.take_zero, List.drop_succ_cons, List.drop_zero])); simp +contextual only [hnl, ↓kN, ↓kP, ↓kG, ↓qN, ↓qP, ↓qG, push_cast, seval, reduceCtorEq, Int.cast_ofNat_Int])|refine zAc ?_|((first|refine zAg ?_|refine zAf ?_); simp only [thenQ, zAk, if_true, if_false, Nat.reduceEqDiff, reduceCtorEq])|(refine zAe (by rfl) (fun hb => ?_) (fun hb => ?_) <;> (try simp only [b1, b2, b3, b4, reduceCtorEq, b5, b6] at hb) <;> (try omega))|refine zAi (by rfl) ?_ ?_|refine andS ?_|(refine ⟨fun hc => ?_, fun hc => ?_⟩)|(intro hc; try omega))
  · exact (decide_eq_false fun e => hb (by rw [e])).symm
  have hlen := hb; clear hb
  refine zAl (fun k : Nat => AS.of [(0, .one (.val (.sl .int) a)), (1, .one (.val (.sl .int) b)), (12, .I a.length), (13, .I k)] [] []) (fun k => k ≤ a.length ∧ ∀ j, j < k → a.getD j 0 = b.getD j 0) (fun k => a.length - k) 0 ⟨Nat.zero_le _, by omega⟩ ?_ ?_
  · refine zAj ?_ ?_ ?_ <;> simp only [push_cast, seval, reduceCtorEq, Int.cast_ofNat_Int]
  intro k ⟨hk, hj⟩ K' hL
  repeat' (first|(refine goK (by assumption) ?_; iterate 4 (try clear hK K))|(refine zAd fun K hK => ?_)|((first|refine zAb hE rfl ?_|refine zAh ?_|((first|refine zAa hE 1 rfl rfl (by kernel_rfl) ?_|refine zAa hE 2 rfl rfl (by kernel_rfl) ?_|refine zAa hE 3 rfl rfl (by kernel_rfl) ?_|refine zAa hE 4 rfl rfl (by kernel_rfl) ?_); simp only [List.length_cons, List.length_nil, Nat.reduceAdd, Nat.reduceSub, List.take_succ_cons, List.take_zero, List.drop_succ_cons, List.drop_zero])); simp +contextual only [hnl, ↓kN, ↓kP, ↓kG, ↓qN, ↓qP, ↓qG, push_cast, seval, reduceCtorEq, Int.cast_ofNat_Int])|refine zAc ?_|((first|refine zAg ?_|refine zAf ?_); simp only [thenQ, zAk, if_true, if_false, Nat.reduceEqDiff, reduceCtorEq])|(refine zAe (by rfl) (fun hb => ?_) (fun hb => ?_) <;> (try simp only [b1, b2, b3, b4, reduceCtorEq, b5, b6] at hb) <;> (try omega))|refine zAi (by rfl) ?_ ?_|refine andS ?_|(refine ⟨fun hc => ?_, fun hc => ?_⟩)|(intro hc; try omega))
  · exact (decide_eq_false (zHL 0 hb)).symm
  · refine hL _ (k + 1) ⟨by omega, fun j hj' => ?_⟩ (by omega) ?_
    · rcases Nat.lt_or_ge j k with h3 | h3
      · exact hj j h3
      · have : j = k := by omega
        subst this
        exact hb
    refine zAj ?_ ?_ ?_ <;> simp only [push_cast, seval, reduceCtorEq, Int.cast_ofNat_Int]
  · exact (decide_eq_true (zFw 0 (by omega) fun j hj' => hj j (by omega))).symm
end Go.Proofs.YtlgkplnifaoeeaaGreatDoor
namespace Go.Proofs.YtlgkplnifaoeeaaGreatDoor
open Go.RowKit Go.VS
theorem zO8 {n lo hi : Int} {l : List Int} (h : InL n lo hi l) : ∀ j, j < l.length → lo ≤ l.getD j 0 ∧ l.getD j 0 ≤ hi := fun j hj => h.2 _ (zAw 0 hj)
section
variable {c : List (List Int)} {ps : List Int}
end
end Go.Proofs.YtlgkplnifaoeeaaGreatDoor
namespace Go.Proofs.YtlgkplnifaoeeaaGreatDoor
open Go.RowKit Go.VS
@[push_cast] def zJV : Con := ⟨[.dat (.sl .int), .dat .int], fun _ => True, fun (x : List Int × Int × Unit) => { res := [.val .bool (decide (InL x.2.1 (-1000) 1000 x.1))] }⟩
theorem zLo : FnSpec Tryz.prog 180 zJV := by
  refine FnSpec.of_tri' (E := know [(157, zBc)] [] [] []) (zAm (all_cons zF7 all_nil) all_nil all_nil) Tryz.func180 rfl rfl (by kernel_rfl) ?_
  intro C x hE hnl hfit hpre
  simp only [Tryz.ntmps180, Tryz.results180, maxLen, Nat.reduceSub, Nat.reducePow, Nat.reduceAdd, Int.cast_ofNat_Int, push_cast] at hnl hfit hpre ⊢
  obtain ⟨(l : List Int), (n : Int), _⟩ := x
  dsimp only at hfit hpre ⊢
  repeat' (first|(refine goK (by assumption) ?_; iterate 4 (try clear hK K))|(refine zAd fun K hK => ?_)|((first|refine zAb hE rfl ?_|refine zAh ?_); simp +contextual only [hnl, ↓kN, ↓kP, ↓kG, ↓qN, ↓qP, ↓qG, push_cast, seval, reduceCtorEq, Int.cast_ofNat_Int])|refine zAc ?_|((first|refine zAg ?_|refine zAf ?_); simp only [thenQ, zAk, if_true, if_false, Nat.reduceEqDiff, reduceCtorEq])|(refine zAe (by rfl) (fun hb => ?_) (fun hb => ?_) <;> (try simp only [b1, b2, b3, b4, reduceCtorEq, b5, b6] at hb) <;> (try omega))|refine zAi (by rfl) ?_ ?_|refine andS ?_|(refine ⟨fun hc => ?_, fun hc => ?_⟩)|(intro hc; try omega))
  · exact (decide_eq_false fun h => by have := h.1; omega).symm
  · refine zAl (fun k : Nat => AS.of [(0, .one (.val (.sl .int) l)), (1, .I n), (5, .I k)] [] []) (fun k => k ≤ l.length ∧ ∀ j, j < k → -1000 ≤ l.getD j 0 ∧ l.getD j 0 ≤ 1000) (fun k => l.length - k) 0 ⟨Nat.zero_le _, by omega⟩ ?_ ?_
    · refine zAj ?_ ?_ ?_ <;> simp only [push_cast, seval, reduceCtorEq, Int.cast_ofNat_Int]
    intro k ⟨hk, hall⟩ K' hL
    repeat' (first|(refine goK (by assumption) ?_; iterate 4 (try clear hK K))|(refine zAd fun K hK => ?_)|((first|refine zAb hE rfl ?_|refine zAh ?_); simp +contextual only [hnl, ↓kN, ↓kP, ↓kG, ↓qN, ↓qP, ↓qG, push_cast, seval, reduceCtorEq, Int.cast_ofNat_Int])|refine zAc ?_|((first|refine zAg ?_|refine zAf ?_); simp only [thenQ, zAk, if_true, if_false, Nat.reduceEqDiff, reduceCtorEq])|(refine zAe (by rfl) (fun hb => ?_) (fun hb => ?_) <;> (try simp only [b1, b2, b3, b4, reduceCtorEq, b5, b6] at hb) <;> (try omega))|refine zAi (by rfl) ?_ ?_|refine andS ?_|(refine ⟨fun hc => ?_, fun hc => ?_⟩)|(intro hc; try omega))
    · exact (decide_eq_false fun h => hb (zO8 h k (by omega))).symm
    · refine hL _ (k + 1) ⟨by omega, fun j hj => ?_⟩ (by omega) ?_
      · rcases Nat.lt_or_ge j k with h3 | h3
        · exact hall j h3
        · obtain rfl : j = k := by omega
          exact hb
      refine zAj ?_ ?_ ?_ <;> simp only [push_cast, seval, reduceCtorEq, Int.cast_ofNat_Int]
    · refine (decide_eq_true ⟨by omega, fun x hx => ?_⟩).symm
      obtain ⟨i, h1, rfl⟩ := List.getElem_of_mem hx
      have := hall i (by omega)
      rwa [List.getD_eq_getElem?_getD, List.getElem?_eq_getElem h1] at this
end Go.Proofs.YtlgkplnifaoeeaaGreatDoor
namespace Go.Proofs.YtlgkplnifaoeeaaGreatDoor
open Go.RowKit Go.VS
abbrev Pr := Int × Int
def toP (l : List Pr) (i : Nat) : Pr := l.getD i (0, 0)
end Go.Proofs.YtlgkplnifaoeeaaGreatDoor
namespace Go.Proofs.YtlgkplnifaoeeaaGreatDoor
open Go.RowKit Go.VS
def cAt (c : List (List Int)) (i j : Int) : Int := (c.getD i.toNat []).getD j.toNat 0
structure InT (c : List (List Int)) (x : Pr) : Prop where
  r0 : 0 ≤ x.1
  r1 : x.1 < c.length
  c0 : 0 ≤ x.2
  c1 : x.2 < wid c
theorem inT_iff {c : List (List Int)} {x : Pr} : InT c x ↔ (0 ≤ x.1 ∧ x.1 < c.length ∧ 0 ≤ x.2 ∧ x.2 < wid c) := ⟨fun ⟨a, b, c, d⟩ => ⟨a, b, c, d⟩, fun ⟨a, b, c, d⟩ => ⟨a, b, c, d⟩⟩
instance (c : List (List Int)) (x : Pr) : Decidable (InT c x) := decidable_of_iff _ inT_iff.symm
def lexLt (x y : Pr) : Prop := x.1 < y.1 ∨ x.1 = y.1 ∧ x.2 < y.2
instance (x y : Pr) : Decidable (lexLt x y) := by unfold lexLt; infer_instance
structure Lnk (c : List (List Int)) (l : List Pr) : Prop where
  at' : ∀ i, i < l.length → InT c (toP l i)
  inc : ∀ i, i + 1 < l.length → lexLt (toP l i) (toP l (i + 1))
theorem lnk_iff {c : List (List Int)} {l : List Pr} : Lnk c l ↔ ((∀ i, i < l.length → InT c (toP l i)) ∧ ∀ i, i < l.length - 1 → lexLt (toP l i) (toP l (i + 1))) :=
  ⟨fun ⟨a, b⟩ => ⟨a, fun i hi => b i (by omega)⟩, fun ⟨a, b⟩ => ⟨a, fun i hi => b i (by omega)⟩⟩
instance (c : List (List Int)) (l : List Pr) : Decidable (Lnk c l) := decidable_of_iff _ lnk_iff.symm
structure LnkK (c : List (List Int)) (l : List Pr) (k : Nat) : Prop where
  at' : ∀ i, i < k → InT c (toP l i)
  inc : ∀ i, i + 1 < k → lexLt (toP l i) (toP l (i + 1))
theorem LnkK.all {c : List (List Int)} {l : List Pr} (h : LnkK c l l.length) : Lnk c l := ⟨h.at', h.inc⟩
theorem LnkK.step {c : List (List Int)} {l : List Pr} {k : Nat} (h : LnkK c l k) (h1 : InT c (toP l k)) (h2 : 0 < k → lexLt (toP l (k - 1)) (toP l k)) : LnkK c l (k + 1) := by
  refine ⟨fun i hi => ?_, fun i hi => ?_⟩
  · rcases Nat.lt_or_ge i k with h3 | h3
    · exact h.at' i h3
    · obtain rfl : i = k := by omega
      exact h1
  · rcases Nat.lt_or_ge (i + 1) k with h3 | h3
    · exact h.inc i h3
    · obtain rfl : k = i + 1 := by omega
      exact h2 (by omega)
end Go.Proofs.YtlgkplnifaoeeaaGreatDoor
namespace Go.Proofs.YtlgkplnifaoeeaaGreatDoor
open Go.RowKit Go.VS
def lossV (c : List (List Int)) (r : List Pr) (i j : Nat) : Int := cAt c (toP r i).1 (toP r j).2 - cAt c (toP r i).1 (toP r i).2
def gainK (c : List (List Int)) (r : List Pr) : Nat → Int
  | 0 => 0
  | k + 1 => gainK c r k - lossV c r k ((k + 1) % r.length)
theorem InTab.cAt {c : List (List Int)} (h : InTab 0 99 c) {x y : Pr} (hx : InT c x) (hy : InT c y) : 0 ≤ Go.Proofs.YtlgkplnifaoeeaaGreatDoor.cAt c x.1 y.2 ∧ Go.Proofs.YtlgkplnifaoeeaaGreatDoor.cAt c x.1 y.2 ≤ 99 :=
  h.at (by have := hx.r0; have := hx.r1; omega) (by have := hy.c0; have := hy.c1; omega)
theorem InTab.loss {c : List (List Int)} (h : InTab 0 99 c) {r : List Pr} (hr : ∀ k, k < r.length → InT c (toP r k)) {i j : Nat} (hi : i < r.length) (hj : j < r.length) : -99 ≤ lossV c r i j ∧ lossV c r i j ≤ 99 := by
  have h1 := h.cAt (hr i hi) (hr i hi)
  have h2 := h.cAt (hr i hi) (hr j hj)
  unfold lossV
  omega
theorem InTab.gain {c : List (List Int)} (h : InTab 0 99 c) {r : List Pr} (hr : ∀ k, k < r.length → InT c (toP r k)) : ∀ k, k ≤ r.length → -99 * (k : Int) ≤ gainK c r k ∧ gainK c r k ≤ 99 * k
  | 0, _ => by simp [gainK]
  | k + 1, hk => by
    have h1 := InTab.gain h hr k (by omega)
    have h2 := h.loss hr (i := k) (j := (k + 1) % r.length) (by omega) (Nat.mod_lt _ (by omega))
    simp only [gainK]
    omega
end Go.Proofs.YtlgkplnifaoeeaaGreatDoor
namespace Go.Proofs.YtlgkplnifaoeeaaGreatDoor
open Go.RowKit Go.VS
section
variable {c : List (List Int)} {l r : List Pr}
end
end Go.Proofs.YtlgkplnifaoeeaaGreatDoor
namespace Go.Proofs.YtlgkplnifaoeeaaGreatDoor
open Go.RowKit Go.VS
theorem zHM {a : List Int} (h : zB4 a = true) : (1 ≤ a.length ∧ a.length ≤ 6) ∧ Go.OT.Bnd 0 200 a :=
  ⟨by have := zHN h; omega, fun x hx => by have := zFE h x hx; omega⟩
theorem ForOK.mc {a b : List Int} {c : List (List Int)} (h : ForOK a b c) : Go.OT.MC a b c := by
  have h1 := zHM h.ha
  have h2 := zHM h.hb
  have h3 := h.hc.tb (lo' := 0) (hi' := 99) (by omega) (by omega)
  rw [h.rows, h.cols] at h3
  exact ⟨h1.1, h2.1, h1.2, h2.2, h3⟩
end Go.Proofs.YtlgkplnifaoeeaaGreatDoor
namespace Go.Proofs.YtlgkplnifaoeeaaGreatDoor
open Go.RowKit Go.VS
def ArePr (c : List (List Int)) (p : zCs) : Prop := InL c.length (-1000) 1000 p.1 ∧ InL (wid c) (-1000) 1000 p.2
instance (c : List (List Int)) (p : zCs) : Decidable (ArePr c p) := by unfold ArePr; infer_instance
def HoldP (c : List (List Int)) (p : zCs) : Prop := ∀ i, i < c.length → ∀ j, j < wid c → p.1.getD i 0 + p.2.getD j 0 ≤ (c.getD i []).getD j 0
instance (c : List (List Int)) (p : zCs) : Decidable (HoldP c p) := by unfold HoldP; infer_instance
def errPr (c : List (List Int)) (p : zCs) : Int := if InTab 0 99 c ∧ ArePr c p then if HoldP c p then 0 else 7 else 1
section
variable {c : List (List Int)} {p : zCs}
theorem zIp (h : ¬ (InTab 0 99 c ∧ ArePr c p)) : errPr c p = 1 := if_neg h
theorem zOU (h : InTab 0 99 c) (h2 : ArePr c p) (h3 : ¬ HoldP c p) : errPr c p = 7 := by rw [errPr, if_pos ⟨h, h2⟩, if_neg h3]
theorem zOT (h : InTab 0 99 c) (h2 : ArePr c p) (h3 : HoldP c p) : errPr c p = 0 := by rw [errPr, if_pos ⟨h, h2⟩, if_pos h3]
theorem zMa (h : errPr c p = 0) : InTab 0 99 c ∧ ArePr c p ∧ HoldP c p := by
  unfold errPr at h
  split at h
  · split at h
    · rename_i h1 h2; exact ⟨h1.1, h1.2, h2⟩
    · omega
  · omega
theorem ArePr.row (h : ArePr c p) : p.1.length = c.length ∧ ∀ i, i < p.1.length → -1000 ≤ p.1.getD i 0 ∧ p.1.getD i 0 ≤ 1000 := ⟨by have := h.1.1; omega, zO8 h.1⟩
theorem ArePr.col (h : ArePr c p) : p.2.length = wid c ∧ ∀ i, i < p.2.length → -1000 ≤ p.2.getD i 0 ∧ p.2.getD i 0 ≤ 1000 := ⟨by have := h.2.1; omega, zO8 h.2⟩
end
@[push_cast] def zGh : Con := ⟨[.dat (.sl (.sl .int)), .dat (.prod (.sl .int) (.sl .int))], fun (x : List (List Int) × zCs × Unit) => InTab 0 99 x.1, fun (x : List (List Int) × zCs × Unit) => { res := [.val .bool (decide (ArePr x.1 x.2.1))] }⟩
@[push_cast] def zO2 : Con := ⟨[.dat (.sl (.sl .int)), .dat (.prod (.sl .int) (.sl .int))], fun (x : List (List Int) × zCs × Unit) => InTab 0 99 x.1 ∧ ArePr x.1 x.2.1, fun (x : List (List Int) × zCs × Unit) => { res := [.val .bool (decide (HoldP x.1 x.2.1))] }⟩
@[push_cast] def prCon : Con := ⟨[.dat (.sl (.sl .int)), .dat (.prod (.sl .int) (.sl .int))], fun _ => True, fun (x : List (List Int) × zCs × Unit) => { res := [.val .int (errPr x.1 x.2.1)] }⟩
theorem zPL : FnSpec Tryz.prog 136 zGh := by
  refine FnSpec.of_tri' (E := know [(118, zOo)] [] [] []) (zAm (all_cons zLX all_nil) all_nil all_nil) Tryz.func136 rfl rfl (by kernel_rfl) ?_
  intro C x hE hnl hfit hpre
  simp only [Tryz.ntmps136, Tryz.results136, maxLen, Nat.reduceSub, Nat.reducePow, Nat.reduceAdd, Int.cast_ofNat_Int, push_cast] at hnl hfit hpre ⊢
  obtain ⟨(c : List (List Int)), ⟨(u : List Int), (v : List Int)⟩, _⟩ := x
  dsimp only at hfit hpre ⊢
  have hw : (c.getD 0 []).length = wid c := rfl
  have hr := hpre.rows
  replace hnl := And.intro hnl hw
  by_cases h1 : InL c.length (-1000) 1000 u
  · by_cases h2 : InL (wid c) (-1000) 1000 v
    · have e : ArePr c (u, v) := ⟨h1, h2⟩
      replace hnl := And.intro hnl (And.intro (eq_true h1) (And.intro (eq_true h2) (eq_true e)))
      exact auB
    · have e : ¬ ArePr c (u, v) := fun h => h2 h.2
      replace hnl := And.intro hnl (And.intro (eq_true h1) (And.intro (eq_false h2) (eq_false e)))
      exact auB
  · have e : ¬ ArePr c (u, v) := fun h => h1 h.1
    replace hnl := And.intro hnl (And.intro (eq_false h1) (eq_false e))
    exact auB
theorem zPT : FnSpec Tryz.prog 137 zGh := by
  refine FnSpec.of_tri' (E := know [(180, zJV)] [] [] []) (zAm (all_cons zLo all_nil) all_nil all_nil) Tryz.func137 rfl rfl (by kernel_rfl) ?_
  intro C x hE hnl hfit hpre
  simp only [Tryz.ntmps137, Tryz.results137, maxLen, Nat.reduceSub, Nat.reducePow, Nat.reduceAdd, Int.cast_ofNat_Int, push_cast] at hnl hfit hpre ⊢
  obtain ⟨(c : List (List Int)), ⟨(u : List Int), (v : List Int)⟩, _⟩ := x
  dsimp only at hfit hpre ⊢
  have hw : (c.getD 0 []).length = wid c := rfl
  have hr := hpre.rows
  replace hnl := And.intro hnl hw
  by_cases h1 : InL c.length (-1000) 1000 u
  · by_cases h2 : InL (wid c) (-1000) 1000 v
    · have e : ArePr c (u, v) := ⟨h1, h2⟩
      replace hnl := And.intro hnl (And.intro (eq_true h1) (And.intro (eq_true h2) (eq_true e)))
      exact auB
    · have e : ¬ ArePr c (u, v) := fun h => h2 h.2
      replace hnl := And.intro hnl (And.intro (eq_true h1) (And.intro (eq_false h2) (eq_false e)))
      exact auB
  · have e : ¬ ArePr c (u, v) := fun h => h1 h.1
    replace hnl := And.intro hnl (And.intro (eq_false h1) (eq_false e))
    exact auB
theorem zO3 : FnSpec Tryz.prog 138 zO2 := by
  refine FnSpec.of_tri' (E := know [] [] [] []) (zAm all_nil all_nil all_nil) Tryz.func138 rfl rfl (by kernel_rfl) ?_
  intro C x hE hnl hfit hpre
  simp only [Tryz.ntmps138, Tryz.results138, maxLen, Nat.reduceSub, Nat.reducePow, Nat.reduceAdd, Int.cast_ofNat_Int, push_cast] at hnl hfit hpre ⊢
  obtain ⟨(c : List (List Int)), ⟨(u : List Int), (v : List Int)⟩, _⟩ := x
  dsimp only at hfit hpre ⊢
  obtain ⟨ht, ha⟩ := hpre
  obtain ⟨hul, hua⟩ := ha.row
  obtain ⟨hvl, hva⟩ := ha.col
  dsimp only at hul hua hvl hva
  repeat' (first|(refine goK (by assumption) ?_; iterate 4 (try clear hK K))|(refine zAd fun K hK => ?_)|((first|refine zAb hE rfl ?_|refine zAh ?_|((first|refine zAa hE 1 rfl rfl (by kernel_rfl) ?_|refine zAa hE 2 rfl rfl (by kernel_rfl) ?_|refine zAa hE 3 rfl rfl (by kernel_rfl) ?_|refine zAa hE 4 rfl rfl (by kernel_rfl) ?_); simp only [List.length_cons, List.length_nil, Nat.reduceAdd, Nat.reduceSub, List.take_succ_cons, List.take_zero, List.drop_succ_cons, List.drop_zero])); simp +contextual only [hnl, ↓kN, ↓kP, ↓kG, ↓qN, ↓qP, ↓qG, push_cast, seval, reduceCtorEq, Int.cast_ofNat_Int])|refine zAc ?_|((first|refine zAg ?_|refine zAf ?_); simp only [thenQ, zAk, if_true, if_false, Nat.reduceEqDiff, reduceCtorEq])|(refine zAe (by rfl) (fun hb => ?_) (fun hb => ?_) <;> (try simp only [b1, b2, b3, b4, reduceCtorEq, b5, b6] at hb) <;> (try omega))|refine zAi (by rfl) ?_ ?_|refine andS ?_|(refine ⟨fun hc => ?_, fun hc => ?_⟩)|(intro hc; try omega))
  refine zAl (fun k : Nat => AS.of [(0, .one (.val (.sl (.sl .int)) c)), (3, .one (.box 3)), (5, .I k)] [] [(3, .one (.val (.prod (.sl .int) (.sl .int)) (u, v)))]) (fun k => k ≤ c.length ∧ ∀ i, i < k → ∀ j, j < wid c → u.getD i 0 + v.getD j 0 ≤ (c.getD i []).getD j 0) (fun k => c.length - k) 0 ⟨Nat.zero_le _, by omega⟩ ?_ ?_
  · refine zAj ?_ ?_ ?_ <;> simp only [push_cast, seval, reduceCtorEq, Int.cast_ofNat_Int]
  intro k ⟨hk, hall⟩ K' hL
  repeat' (first|(refine goK (by assumption) ?_; iterate 4 (try clear hK K))|(refine zAd fun K hK => ?_)|((first|refine zAb hE rfl ?_|refine zAh ?_|((first|refine zAa hE 1 rfl rfl (by kernel_rfl) ?_|refine zAa hE 2 rfl rfl (by kernel_rfl) ?_|refine zAa hE 3 rfl rfl (by kernel_rfl) ?_|refine zAa hE 4 rfl rfl (by kernel_rfl) ?_); simp only [List.length_cons, List.length_nil, Nat.reduceAdd, Nat.reduceSub, List.take_succ_cons, List.take_zero, List.drop_succ_cons, List.drop_zero])); simp +contextual only [hnl, ↓kN, ↓kP, ↓kG, ↓qN, ↓qP, ↓qG, push_cast, seval, reduceCtorEq, Int.cast_ofNat_Int])|refine zAc ?_|((first|refine zAg ?_|refine zAf ?_); simp only [thenQ, zAk, if_true, if_false, Nat.reduceEqDiff, reduceCtorEq])|(refine zAe (by rfl) (fun hb => ?_) (fun hb => ?_) <;> (try simp only [b1, b2, b3, b4, reduceCtorEq, b5, b6] at hb) <;> (try omega))|refine zAi (by rfl) ?_ ?_|refine andS ?_|(refine ⟨fun hc => ?_, fun hc => ?_⟩)|(intro hc; try omega))
  · have hk' : k < c.length := by omega
    have hrow := ht.len hk'
    have huk := hua k (by omega)
    refine zAl (fun j : Nat => AS.of [(0, .one (.val (.sl (.sl .int)) c)), (3, .one (.box 3)), (5, .I k), (6, .I j)] [] [(3, .one (.val (.prod (.sl .int) (.sl .int)) (u, v)))]) (fun j => j ≤ wid c ∧ ∀ j', j' < j → u.getD k 0 + v.getD j' 0 ≤ (c.getD k []).getD j' 0) (fun j => wid c - j) 0 ⟨Nat.zero_le _, by omega⟩ ?_ ?_
    · refine zAj ?_ ?_ ?_ <;> simp only [push_cast, seval, reduceCtorEq, Int.cast_ofNat_Int]
    intro j ⟨hj, hj'⟩ K2 hL2
    have hvj := hva j
    repeat' (first|(refine goK (by assumption) ?_; iterate 4 (try clear hK K))|(refine zAd fun K hK => ?_)|((first|refine zAb hE rfl ?_|refine zAh ?_|((first|refine zAa hE 1 rfl rfl (by kernel_rfl) ?_|refine zAa hE 2 rfl rfl (by kernel_rfl) ?_|refine zAa hE 3 rfl rfl (by kernel_rfl) ?_|refine zAa hE 4 rfl rfl (by kernel_rfl) ?_); simp only [List.length_cons, List.length_nil, Nat.reduceAdd, Nat.reduceSub, List.take_succ_cons, List.take_zero, List.drop_succ_cons, List.drop_zero])); simp +contextual only [hnl, ↓kN, ↓kP, ↓kG, ↓qN, ↓qP, ↓qG, push_cast, seval, reduceCtorEq, Int.cast_ofNat_Int])|refine zAc ?_|((first|refine zAg ?_|refine zAf ?_); simp only [thenQ, zAk, if_true, if_false, Nat.reduceEqDiff, reduceCtorEq])|(refine zAe (by rfl) (fun hb => ?_) (fun hb => ?_) <;> (try simp only [b1, b2, b3, b4, reduceCtorEq, b5, b6] at hb) <;> (try omega))|refine zAi (by rfl) ?_ ?_|refine andS ?_|(refine ⟨fun hc => ?_, fun hc => ?_⟩)|(intro hc; try omega))
    · exact (decide_eq_false fun h => by have : u.getD k 0 + v.getD j 0 ≤ _ := h k hk' j (by omega); omega).symm
    · refine hL2 _ (j + 1) ⟨by omega, fun j' h1 => ?_⟩ (by omega) ?_
      · rcases Nat.lt_or_ge j' j with h3 | h3
        · exact hj' j' h3
        · obtain rfl : j' = j := by omega
          omega
      refine zAj ?_ ?_ ?_ <;> simp only [push_cast, seval, reduceCtorEq, Int.cast_ofNat_Int]
    · refine hL _ (k + 1) ⟨by omega, fun i h1 => ?_⟩ (by omega) ?_
      · rcases Nat.lt_or_ge i k with h3 | h3
        · exact hall i h3
        · obtain rfl : i = k := by omega
          exact fun j' h4 => hj' j' (by omega)
      refine zAj ?_ ?_ ?_ <;> simp only [push_cast, seval, reduceCtorEq, Int.cast_ofNat_Int]
  · exact (decide_eq_true fun i h1 => hall i (by omega)).symm
theorem zRj : FnSpec Tryz.prog 92 prCon := by
  refine FnSpec.of_tri' (E := know [(72, zDP), (137, zGh), (138, zO2)] [] [] []) (zAm (all_cons zHU (all_cons zPT (all_cons zO3 all_nil))) all_nil all_nil) Tryz.func92 rfl rfl (by kernel_rfl) ?_
  intro C x hE hnl hfit hpre
  simp only [Tryz.ntmps92, Tryz.results92, maxLen, Nat.reduceSub, Nat.reducePow, Nat.reduceAdd, Int.cast_ofNat_Int, push_cast] at hnl hfit hpre ⊢
  obtain ⟨(c : List (List Int)), ⟨(u : List Int), (v : List Int)⟩, _⟩ := x
  dsimp only at hfit hpre ⊢
  by_cases hc : InTab 0 99 c
  · have h1 := zCM hc
    by_cases ha : ArePr c (u, v)
    · by_cases hh : HoldP c (u, v)
      · have e := zOT hc ha hh
        replace hnl := And.intro hnl (And.intro h1 (And.intro (eq_true ha) (And.intro (eq_true hh) e)))
        exact auA
      · have e := zOU hc ha hh
        replace hnl := And.intro hnl (And.intro h1 (And.intro (eq_true ha) (And.intro (eq_false hh) e)))
        exact auA
    · have e : errPr c (u, v) = 1 := zIp fun h => ha h.2
      replace hnl := And.intro hnl (And.intro h1 (And.intro (eq_false ha) e))
      exact auA
  · have h1 := zBY hc
    have e : errPr c (u, v) = 1 := zIp fun h => hc h.1
    replace hnl := And.intro hnl (And.intro h1 e)
    exact auA
theorem zRc : FnSpec Tryz.prog 91 prCon := by
  refine FnSpec.of_tri' (E := know [(73, zDP), (136, zGh)] [] [] []) (zAm (all_cons zEm (all_cons zPL all_nil)) all_nil all_nil) Tryz.func91 rfl rfl (by kernel_rfl) ?_
  intro C x hE hnl hfit hpre
  simp only [Tryz.ntmps91, Tryz.results91, maxLen, Nat.reduceSub, Nat.reducePow, Nat.reduceAdd, Int.cast_ofNat_Int, push_cast] at hnl hfit hpre ⊢
  obtain ⟨(c : List (List Int)), ⟨(u : List Int), (v : List Int)⟩, _⟩ := x
  dsimp only at hfit hpre ⊢
  by_cases hc : InTab 0 99 c
  · have h1 := zCM hc
    by_cases ha : ArePr c (u, v)
    · replace hnl := And.intro hnl (And.intro h1 (eq_true ha))
      obtain ⟨hul, hua⟩ := ha.row
      obtain ⟨hvl, hva⟩ := ha.col
      dsimp only at hul hua hvl hva
      repeat' (first|(refine goK (by assumption) ?_; iterate 4 (try clear hK K))|(refine zAd fun K hK => ?_)|((first|refine zAb hE rfl ?_|refine zAh ?_|((first|refine zAa hE 1 rfl rfl (by kernel_rfl) ?_|refine zAa hE 2 rfl rfl (by kernel_rfl) ?_|refine zAa hE 3 rfl rfl (by kernel_rfl) ?_|refine zAa hE 4 rfl rfl (by kernel_rfl) ?_); simp only [List.length_cons, List.length_nil, Nat.reduceAdd, Nat.reduceSub, List.take_succ_cons, List.take_zero, List.drop_succ_cons, List.drop_zero])); simp +contextual only [hnl, ↓kN, ↓kP, ↓kG, ↓qN, ↓qP, ↓qG, push_cast, seval, reduceCtorEq, Int.cast_ofNat_Int])|refine zAc ?_|((first|refine zAg ?_|refine zAf ?_); simp only [thenQ, zAk, if_true, if_false, Nat.reduceEqDiff, reduceCtorEq])|(refine zAe (by rfl) (fun hb => ?_) (fun hb => ?_) <;> (try simp only [b1, b2, b3, b4, reduceCtorEq, b5, b6] at hb) <;> (try omega))|refine zAi (by rfl) ?_ ?_|refine andS ?_|(refine ⟨fun hc => ?_, fun hc => ?_⟩)|(intro hc; try omega))
      refine zAl (fun k : Nat => AS.of [(0, .one (.val (.sl (.sl .int)) c)), (3, .one (.box 3)), (19, .one (.val (.sl (.sl .int)) c)), (20, .I c.length), (21, .I k)] [] [(3, .one (.val (.prod (.sl .int) (.sl .int)) (u, v)))]) (fun k => k ≤ c.length ∧ ∀ i, i < k → ∀ j, j < wid c → u.getD i 0 + v.getD j 0 ≤ (c.getD i []).getD j 0) (fun k => c.length - k) 0 ⟨Nat.zero_le _, by omega⟩ ?_ ?_
      · refine zAj ?_ ?_ ?_ <;> simp only [push_cast, seval, reduceCtorEq, Int.cast_ofNat_Int]
      intro k ⟨hk, hall⟩ K' hL
      repeat' (first|(refine goK (by assumption) ?_; iterate 4 (try clear hK K))|(refine zAd fun K hK => ?_)|((first|refine zAb hE rfl ?_|refine zAh ?_|((first|refine zAa hE 1 rfl rfl (by kernel_rfl) ?_|refine zAa hE 2 rfl rfl (by kernel_rfl) ?_|refine zAa hE 3 rfl rfl (by kernel_rfl) ?_|refine zAa hE 4 rfl rfl (by kernel_rfl) ?_); simp only [List.length_cons, List.length_nil, Nat.reduceAdd, Nat.reduceSub, List.take_succ_cons, List.take_zero, List.drop_succ_cons, List.drop_zero])); simp +contextual only [hnl, ↓kN, ↓kP, ↓kG, ↓qN, ↓qP, ↓qG, push_cast, seval, reduceCtorEq, Int.cast_ofNat_Int])|refine zAc ?_|((first|refine zAg ?_|refine zAf ?_); simp only [thenQ, zAk, if_true, if_false, Nat.reduceEqDiff, reduceCtorEq])|(refine zAe (by rfl) (fun hb => ?_) (fun hb => ?_) <;> (try simp only [b1, b2, b3, b4, reduceCtorEq, b5, b6] at hb) <;> (try omega))|refine zAi (by rfl) ?_ ?_|refine andS ?_|(refine ⟨fun hc => ?_, fun hc => ?_⟩)|(intro hc; try omega))
      · have hk' : k < c.length := by omega
        have hrow := hc.len hk'
        have huk := hua k (by omega)
        refine zAl (fun j : Nat => AS.of [(0, .one (.val (.sl (.sl .int)) c)), (3, .one (.box 3)), (6, .I k), (19, .one (.val (.sl (.sl .int)) c)), (20, .I c.length), (21, .I k), (26, .one (.val (.sl .int) (c.getD k []))), (27, .I (c.getD k []).length), (28, .I j)] [] [(3, .one (.val (.prod (.sl .int) (.sl .int)) (u, v)))]) (fun j => j ≤ wid c ∧ ∀ j', j' < j → u.getD k 0 + v.getD j' 0 ≤ (c.getD k []).getD j' 0) (fun j => wid c - j) 0 ⟨Nat.zero_le _, by omega⟩ ?_ ?_
        · refine zAj ?_ ?_ ?_ <;> simp only [push_cast, seval, reduceCtorEq, Int.cast_ofNat_Int]
        intro j ⟨hj, hj'⟩ K2 hL2
        have hvj := hva j
        repeat' (first|(refine goK (by assumption) ?_; iterate 4 (try clear hK K))|(refine zAd fun K hK => ?_)|((first|refine zAb hE rfl ?_|refine zAh ?_|((first|refine zAa hE 1 rfl rfl (by kernel_rfl) ?_|refine zAa hE 2 rfl rfl (by kernel_rfl) ?_|refine zAa hE 3 rfl rfl (by kernel_rfl) ?_|refine zAa hE 4 rfl rfl (by kernel_rfl) ?_); simp only [List.length_cons, List.length_nil, Nat.reduceAdd, Nat.reduceSub, List.take_succ_cons, List.take_zero, List.drop_succ_cons, List.drop_zero])); simp +contextual only [hnl, ↓kN, ↓kP, ↓kG, ↓qN, ↓qP, ↓qG, push_cast, seval, reduceCtorEq, Int.cast_ofNat_Int])|refine zAc ?_|((first|refine zAg ?_|refine zAf ?_); simp only [thenQ, zAk, if_true, if_false, Nat.reduceEqDiff, reduceCtorEq])|(refine zAe (by rfl) (fun hb => ?_) (fun hb => ?_) <;> (try simp only [b1, b2, b3, b4, reduceCtorEq, b5, b6] at hb) <;> (try omega))|refine zAi (by rfl) ?_ ?_|refine andS ?_|(refine ⟨fun hc => ?_, fun hc => ?_⟩)|(intro hc; try omega))
        · exact (zOU hc ha fun h => by have : u.getD k 0 + v.getD j 0 ≤ _ := h k hk' j (by omega); omega).symm
        · refine hL2 _ (j + 1) ⟨by omega, fun j' h1 => ?_⟩ (by omega) ?_
          · rcases Nat.lt_or_ge j' j with h3 | h3
            · exact hj' j' h3
            · obtain rfl : j' = j := by omega
              omega
          refine zAj ?_ ?_ ?_ <;> simp only [push_cast, seval, reduceCtorEq, Int.cast_ofNat_Int]
        · refine hL _ (k + 1) ⟨by omega, fun i h1 => ?_⟩ (by omega) ?_
          · rcases Nat.lt_or_ge i k with h3 | h3
            · exact hall i h3
            · obtain rfl : i = k := by omega
              exact fun j' h4 => hj' j' (by omega)
          refine zAj ?_ ?_ ?_ <;> simp only [push_cast, seval, reduceCtorEq, Int.cast_ofNat_Int]
      · exact (zOT hc ha fun i h1 => hall i (by omega)).symm
    · have e : errPr c (u, v) = 1 := zIp fun h => ha h.2
      replace hnl := And.intro hnl (And.intro h1 (And.intro (eq_false ha) e))
      exact auB
  · have h1 := zBY hc
    have e : errPr c (u, v) = 1 := zIp fun h => hc h.1
    replace hnl := And.intro hnl (And.intro h1 e)
    exact auB
end Go.Proofs.YtlgkplnifaoeeaaGreatDoor
namespace Go.Proofs.YtlgkplnifaoeeaaGreatDoor
open Go.RowKit Go.VS
@[push_cast] def zRO : Con := ⟨[.dat (.sl (.sl .int))], fun _ => True, fun (x : List (List Int) × Unit) =>
  { res := [.own (.flat 3 .int (if zA5 x.1 = 0 then rowsP x.1 else [])), .own (.flat 3 .int (if zA5 x.1 = 0 then colsP x.1 else [])), .val .int (zA5 x.1)] }⟩
section
variable {a b : List Int} {p : List (List Int)}
end
end Go.Proofs.YtlgkplnifaoeeaaGreatDoor
namespace Go.Proofs.YtlgkplnifaoeeaaGreatDoor
open Go.RowKit Go.VS
def Small (p : List (List Int)) : Prop := p.length ≤ 1000 ∧ ∀ r ∈ p, r.length ≤ 1000
theorem Small.row {p : List (List Int)} (h : Small p) {i : Nat} (hi : i < p.length) : (p.getD i []).length ≤ 1000 := h.2 _ (zAw [] hi)
theorem InPlan.small {p : List (List Int)} (h : InPlan p) : Small p := ⟨by have := h.rows; omega, fun r hr => by rw [h.len r hr]; have := h.cols; omega⟩
@[push_cast] def zOC : Con := ⟨[.dat (.sl (.sl .int))], fun (x : List (List Int) × Unit) => Small x.1, fun (x : List (List Int) × Unit) => { res := [.own (.deep 25 3 .int x.1)] }⟩
theorem zNG : FnSpec Tryz.prog 71 zOC := by
  refine FnSpec.of_tri' (E := know [] [] [] [12]) (zAm all_nil all_nil all_nil) Tryz.func71 rfl rfl (by kernel_rfl) ?_
  intro C x hE hnl hfit hpre
  simp only [Tryz.ntmps71, Tryz.results71, maxLen, Nat.reduceSub, Nat.reducePow, Nat.reduceAdd, Int.cast_ofNat_Int, push_cast] at hnl hfit hpre ⊢
  obtain ⟨(p : List (List Int)), _⟩ := x
  dsimp only at hfit hpre ⊢
  have hl := hpre.1
  repeat' (first|(refine goK (by assumption) ?_; iterate 4 (try clear hK K))|(refine zAd fun K hK => ?_)|((first|refine zAb hE rfl ?_|refine zAh ?_); simp +contextual only [hnl, ↓kN, ↓kP, ↓kG, ↓qN, ↓qP, ↓qG, push_cast, seval, reduceCtorEq, Int.cast_ofNat_Int])|refine zAc ?_|((first|refine zAg ?_|refine zAf ?_); simp only [thenQ, zAk, if_true, if_false, Nat.reduceEqDiff, reduceCtorEq])|(refine zAe (by rfl) (fun hb => ?_) (fun hb => ?_) <;> (try simp only [b1, b2, b3, b4, reduceCtorEq, b5, b6] at hb) <;> (try omega))|refine zAi (by rfl) ?_ ?_|refine andS ?_|(refine ⟨fun hc => ?_, fun hc => ?_⟩)|(intro hc; try omega))
  refine zAl (fun i : Nat => AS.of [(0, .one (.val (.sl (.sl .int)) p)), (3, .one (.ref 19)), (4, .I i)] [(19, .deep 25 3 .int (tbl i fun r => p.getD r []))] []) (fun i => i ≤ p.length) (fun i => p.length - i) 0 (Nat.zero_le _) ?_ ?_
  · refine zAj ?_ ?_ ?_ <;> simp only [push_cast, seval, reduceCtorEq, Int.cast_ofNat_Int]
    exact ⟨by omega, zMQ _⟩
  intro i hi K' hL
  replace hnl := And.intro hnl (zBK i fun r => p.getD r [])
  have hrow := @Small.row p hpre i
  repeat' (first|(refine goK (by assumption) ?_; iterate 4 (try clear hK K))|(refine zAd fun K hK => ?_)|((first|refine zAb hE rfl ?_|refine zAh ?_); simp +contextual only [hnl, ↓kN, ↓kP, ↓kG, ↓qN, ↓qP, ↓qG, push_cast, seval, reduceCtorEq, Int.cast_ofNat_Int])|refine zAc ?_|((first|refine zAg ?_|refine zAf ?_); simp only [thenQ, zAk, if_true, if_false, Nat.reduceEqDiff, reduceCtorEq])|(refine zAe (by rfl) (fun hb => ?_) (fun hb => ?_) <;> (try simp only [b1, b2, b3, b4, reduceCtorEq, b5, b6] at hb) <;> (try omega))|refine zAi (by rfl) ?_ ?_|refine andS ?_|(refine ⟨fun hc => ?_, fun hc => ?_⟩)|(intro hc; try omega))
  · have hrow := hrow (by omega)
    repeat' (first|(refine goK (by assumption) ?_; iterate 4 (try clear hK K))|(refine zAd fun K hK => ?_)|((first|refine zAb hE rfl ?_|refine zAh ?_); simp +contextual only [hnl, ↓kN, ↓kP, ↓kG, ↓qN, ↓qP, ↓qG, push_cast, seval, reduceCtorEq, Int.cast_ofNat_Int])|refine zAc ?_|((first|refine zAg ?_|refine zAf ?_); simp only [thenQ, zAk, if_true, if_false, Nat.reduceEqDiff, reduceCtorEq])|(refine zAe (by rfl) (fun hb => ?_) (fun hb => ?_) <;> (try simp only [b1, b2, b3, b4, reduceCtorEq, b5, b6] at hb) <;> (try omega))|refine zAi (by rfl) ?_ ?_|refine andS ?_|(refine ⟨fun hc => ?_, fun hc => ?_⟩)|(intro hc; try omega))
    refine hL _ (i + 1) (by omega) (by omega) ?_
    refine zAj ?_ ?_ ?_ <;> simp only [push_cast, seval, reduceCtorEq, Int.cast_ofNat_Int]
    left
    rw [zFr]
  · obtain rfl : i = p.length := by omega
    rw [← zGo p []]
end Go.Proofs.YtlgkplnifaoeeaaGreatDoor
namespace Go.Proofs.YtlgkplnifaoeeaaGreatDoor
open Go.RowKit Go.VS
theorem zOb : FnSpec Tryz.prog 66 zRO := by
  refine FnSpec.of_tri' (E := know [(65, zGX), (113, zOL)] [] [] []) (zAm (all_cons zJU (all_cons zOM all_nil)) all_nil all_nil) Tryz.func66 rfl rfl (by kernel_rfl) ?_
  intro C x hE hnl hfit hpre
  simp only [Tryz.ntmps66, Tryz.results66, maxLen, Nat.reduceSub, Nat.reducePow, Nat.reduceAdd, Int.cast_ofNat_Int, push_cast] at hnl hfit hpre ⊢
  obtain ⟨(p : List (List Int)), _⟩ := x
  dsimp only at hfit hpre ⊢
  rcases zFy p with he | he
  · have hin := zEd he
    replace hnl := And.intro hnl he
    exact auB
  · replace hnl := And.intro hnl he
    exact auB
def okPic (l : List Int) (n : Int) : Bool := decide (1 ≤ l.length ∧ l.length ≤ 40) && l.all fun c => decide (0 ≤ c ∧ c < n ∧ c < 5)
def cntV (c : Int) (l : List Int) : Int := (l.count c : Nat)
def palV (l : List Int) (n : Nat) : List Int := tbl n fun c => cntV (c : Int) l
def zPN : Clo := ⟨[.int], [.int], .bool, fun _ _ => True, fun (y : Int × Unit) (x : Int × Unit) => decide (x.1 < 0) || decide (min y.1 5 ≤ x.1)⟩
attribute [push_cast] zPN
@[push_cast] def zSA : Con := ⟨[.dat .int, .ptr .int], fun _ => True, fun (x : Int × Int × Unit) => { res := [.val .bool (decide (x.1 < 0) || decide (min x.2.1 5 ≤ x.1))] }⟩
@[push_cast] def zMz : Con := ⟨[.dat (.sl .int), .dat .int], fun _ => True, fun (x : List Int × Int × Unit) => { res := [.val .bool (okPic x.1 x.2.1)] }⟩
def zOc (l : List Int) : Prop := 0 < l.length
def maxP (l : List Int) : Nat → Int
  | 0 => l.getD 0 0
  | k + 1 => max (maxP l k) (l.getD (k + 1) 0)
def maxV (l : List Int) : Int := maxP l (l.length - 1)
@[push_cast] def zRT : Con := ⟨[.dat (.sl .int)], fun (x : List Int × Unit) => zOc x.1, fun (x : List Int × Unit) => { res := [.val .int (maxV x.1)] }⟩
structure PalPre (l : List Int) (n : Int) : Prop where
  num : 0 ≤ n ∧ n ≤ 1000
  len : l.length ≤ 1000
  at' : ∀ c ∈ l, 0 ≤ c ∧ c < n
@[push_cast] def zHR : Con := ⟨[.dat (.sl .int), .dat .int], fun (x : List Int × Int × Unit) => PalPre x.1 x.2.1, fun (x : List Int × Int × Unit) => { res := [.own (.flat 3 .int (palV x.1 x.2.1.toNat))] }⟩
def zED (l : List Int) (n : Int) : Int := if 1 ≤ n ∧ n ≤ 5 ∧ okPic l n = true then (if 30 < maxV (palV l n.toNat) then 3 else 0) else 1
@[push_cast] def zI7 : Con := ⟨[.dat (.sl .int), .dat .int], fun _ => True, fun (x : List Int × Int × Unit) =>
  { res := [.val (.sl .int) (if zED x.1 x.2.1 = 0 then palV x.1 x.2.1.toNat else []), .val .int (zED x.1 x.2.1)] }⟩
theorem zSB : FnSpec Tryz.prog 111 zSA := by
  refine FnSpec.of_tri' (E := know [] [] [] []) (zAm all_nil all_nil all_nil) Tryz.func111 rfl rfl (by kernel_rfl) ?_
  intro C x hE hnl hfit hpre
  simp only [Tryz.ntmps111, Tryz.results111, maxLen, Nat.reduceSub, Nat.reducePow, Nat.reduceAdd, Int.cast_ofNat_Int, push_cast] at hnl hfit hpre ⊢
  obtain ⟨(c : Int), (n : Int), _⟩ := x
  dsimp only at hfit hpre ⊢
  repeat' (first|(refine goK (by assumption) ?_; iterate 4 (try clear hK K))|(refine zAd fun K hK => ?_)|((first|refine zAb hE rfl ?_|refine zAh ?_|((first|refine zAa hE 1 rfl rfl (by kernel_rfl) ?_|refine zAa hE 2 rfl rfl (by kernel_rfl) ?_|refine zAa hE 3 rfl rfl (by kernel_rfl) ?_|refine zAa hE 4 rfl rfl (by kernel_rfl) ?_); simp only [List.length_cons, List.length_nil, Nat.reduceAdd, Nat.reduceSub, List.take_succ_cons, List.take_zero, List.drop_succ_cons, List.drop_zero])); simp +contextual only [hnl, ↓kN, ↓kP, ↓kG, ↓qN, ↓qP, ↓qG, push_cast, seval, reduceCtorEq, Int.cast_ofNat_Int])|refine zAc ?_|((first|refine zAg ?_|refine zAf ?_); simp only [thenQ, zAk, if_true, if_false, Nat.reduceEqDiff, reduceCtorEq])|(refine zAe (by rfl) (fun hb => ?_) (fun hb => ?_) <;> (try simp only [b1, b2, b3, b4, reduceCtorEq, b5, b6] at hb) <;> (try omega))|refine zAi (by rfl) ?_ ?_|refine andS ?_|(refine ⟨fun hc => ?_, fun hc => ?_⟩)|(intro hc; try omega))
  all_goals first | omega | (simp only [decide_eq_decide]; omega) | (simp only [hc, decide_true, decide_false, Bool.true_or, Bool.false_or]; done) | (simp; done) | (simp; omega) | (simp [*]; done) | (simp [*]; omega)
theorem zPM : CloSpec Tryz.prog 111 zPN := CloSpec.of zSB
theorem zPC {l : List Int} {n : Int} (h : 1 ≤ l.length ∧ l.length ≤ 40) : (!l.any fun y => decide (y < 0) || decide (min n 5 ≤ y)) = okPic l n := by
  unfold okPic
  rw [decide_eq_true h, Bool.true_and]
  induction l with
  | nil => rfl
  | cons x l ih =>
    clear ih h
    generalize x :: l = l
    induction l with
    | nil => rfl
    | cons x l ih =>
      rw [List.any_cons, List.all_cons, Bool.not_or, ih]
      congr 1
      by_cases h1 : x < 0
      · have h2 : ¬ (0 ≤ x ∧ x < n ∧ x < 5) := by omega
        rw [decide_eq_true h1, decide_eq_false h2]; rfl
      · by_cases h3 : min n 5 ≤ x
        · have h2 : ¬ (0 ≤ x ∧ x < n ∧ x < 5) := by omega
          rw [decide_eq_false h1, decide_eq_true h3, decide_eq_false h2]; rfl
        · have h2 : 0 ≤ x ∧ x < n ∧ x < 5 := by omega
          rw [decide_eq_false h1, decide_eq_false h3, decide_eq_true h2]; rfl
theorem zPD {l : List Int} {n : Int} (h : ¬ (1 ≤ l.length ∧ l.length ≤ 40)) : okPic l n = false := by
  unfold okPic
  rw [decide_eq_false h]; rfl
theorem zBp {l : List Int} {n : Int} : okPic l n = true ↔ (1 ≤ l.length ∧ l.length ≤ 40) ∧ ∀ c ∈ l, 0 ≤ c ∧ c < n ∧ c < 5 := by
  simp only [okPic, Bool.and_eq_true, decide_eq_true_eq, List.all_eq_true]
theorem zIG : FnSpec Tryz.prog 59 zMz := by
  refine FnSpec.of_tri' (E := know [(110, zCL)] [(111, zPN)] [] []) (zAm (all_cons zCx all_nil) (all_cons zPM all_nil) all_nil) Tryz.func59 rfl rfl (by kernel_rfl) ?_
  intro C x hE hnl hfit hpre
  simp only [Tryz.ntmps59, Tryz.results59, maxLen, Nat.reduceSub, Nat.reducePow, Nat.reduceAdd, Int.cast_ofNat_Int, push_cast] at hnl hfit hpre ⊢
  obtain ⟨(l : List Int), (n : Int), _⟩ := x
  dsimp only at hfit hpre ⊢
  repeat' (first|(refine goK (by assumption) ?_; iterate 4 (try clear hK K))|(refine zAd fun K hK => ?_)|((first|refine zAb hE rfl ?_|refine zAh ?_|((first|refine zAa hE 1 rfl rfl (by kernel_rfl) ?_|refine zAa hE 2 rfl rfl (by kernel_rfl) ?_|refine zAa hE 3 rfl rfl (by kernel_rfl) ?_|refine zAa hE 4 rfl rfl (by kernel_rfl) ?_); simp only [List.length_cons, List.length_nil, Nat.reduceAdd, Nat.reduceSub, List.take_succ_cons, List.take_zero, List.drop_succ_cons, List.drop_zero])); simp +contextual only [hnl, ↓kN, ↓kP, ↓kG, ↓qN, ↓qP, ↓qG, push_cast, seval, reduceCtorEq, Int.cast_ofNat_Int])|refine zAc ?_|((first|refine zAg ?_|refine zAf ?_); simp only [thenQ, zAk, if_true, if_false, Nat.reduceEqDiff, reduceCtorEq])|(refine zAe (by rfl) (fun hb => ?_) (fun hb => ?_) <;> (try simp only [b1, b2, b3, b4, reduceCtorEq, b5, b6] at hb) <;> (try omega))|refine zAi (by rfl) ?_ ?_|refine andS ?_|(refine ⟨fun hc => ?_, fun hc => ?_⟩)|(intro hc; try omega))
  all_goals first
    | exact zPC (by omega)
    | exact (zPD (by omega)).symm
theorem zJL (l : List Int) (k : Nat) : maxP l (k + 1) = max (maxP l k) (l.getD (k + 1) 0) := rfl
theorem zPr {l : List Int} {m : Int} : ∀ {k : Nat}, m < maxP l k → ∃ i, i ≤ k ∧ m < l.getD i 0
  | 0, h => ⟨0, Nat.le_refl _, h⟩
  | k + 1, h => by
    rw [zJL] at h
    rcases Int.le_total (maxP l k) (l.getD (k + 1) 0) with h1 | h1
    · exact ⟨k + 1, Nat.le_refl _, by omega⟩
    · obtain ⟨i, h2, h3⟩ := zPr (l := l) (k := k) (m := m) (by omega)
      exact ⟨i, by omega, h3⟩
theorem zPq {l : List Int} : ∀ {k i : Nat}, i ≤ k → l.getD i 0 ≤ maxP l k
  | 0, i, h => by
    obtain rfl : i = 0 := by omega
    exact Int.le_refl _
  | k + 1, i, h => by
    rw [zJL]
    rcases Nat.lt_or_ge k i with h1 | h1
    · obtain rfl : i = k + 1 := by omega
      omega
    · have := zPq (l := l) (k := k) h1
      omega
theorem zQZ : FnSpec Tryz.prog 61 zRT := by
  refine FnSpec.of_tri' (E := know [] [] [] []) (zAm all_nil all_nil all_nil) Tryz.func61 rfl rfl (by kernel_rfl) ?_
  intro C x hE hnl hfit hpre
  simp only [Tryz.ntmps61, Tryz.results61, maxLen, Nat.reduceSub, Nat.reducePow, Nat.reduceAdd, Int.cast_ofNat_Int, push_cast] at hnl hfit hpre ⊢
  obtain ⟨(l : List Int), _⟩ := x
  dsimp only at hfit hpre ⊢
  have hl : 0 < l.length := hpre
  replace hnl := And.intro hnl (show decide ((l.length : Int) < 1) = false from decide_eq_false (by omega))
  repeat' (first|(refine goK (by assumption) ?_; iterate 4 (try clear hK K))|(refine zAd fun K hK => ?_)|((first|refine zAb hE rfl ?_|refine zAh ?_|((first|refine zAa hE 1 rfl rfl (by kernel_rfl) ?_|refine zAa hE 2 rfl rfl (by kernel_rfl) ?_|refine zAa hE 3 rfl rfl (by kernel_rfl) ?_|refine zAa hE 4 rfl rfl (by kernel_rfl) ?_); simp only [List.length_cons, List.length_nil, Nat.reduceAdd, Nat.reduceSub, List.take_succ_cons, List.take_zero, List.drop_succ_cons, List.drop_zero])); simp +contextual only [hnl, ↓kN, ↓kP, ↓kG, ↓qN, ↓qP, ↓qG, push_cast, seval, reduceCtorEq, Int.cast_ofNat_Int])|refine zAc ?_|((first|refine zAg ?_|refine zAf ?_); simp only [thenQ, zAk, if_true, if_false, Nat.reduceEqDiff, reduceCtorEq])|(refine zAe (by rfl) (fun hb => ?_) (fun hb => ?_) <;> (try simp only [b1, b2, b3, b4, reduceCtorEq, b5, b6] at hb) <;> (try omega))|refine zAi (by rfl) ?_ ?_|refine andS ?_|(refine ⟨fun hc => ?_, fun hc => ?_⟩)|(intro hc; try omega))
  refine zAl (fun k : Nat => AS.of [(0, .one (.val (.sl .int) l)), (3, .I (maxP l (k - 1))), (4, .I k)] [] []) (fun k => 1 ≤ k ∧ k ≤ l.length) (fun k => l.length - k) 1 ⟨Nat.le_refl _, hl⟩ ?_ ?_
  · refine zAj ?_ ?_ ?_ <;> simp only [push_cast, seval, reduceCtorEq, Int.cast_ofNat_Int]
    rfl
  intro k ⟨hk1, hk⟩ K' hL
  repeat' (first|(refine goK (by assumption) ?_; iterate 4 (try clear hK K))|(refine zAd fun K hK => ?_)|((first|refine zAb hE rfl ?_|refine zAh ?_|((first|refine zAa hE 1 rfl rfl (by kernel_rfl) ?_|refine zAa hE 2 rfl rfl (by kernel_rfl) ?_|refine zAa hE 3 rfl rfl (by kernel_rfl) ?_|refine zAa hE 4 rfl rfl (by kernel_rfl) ?_); simp only [List.length_cons, List.length_nil, Nat.reduceAdd, Nat.reduceSub, List.take_succ_cons, List.take_zero, List.drop_succ_cons, List.drop_zero])); simp +contextual only [hnl, ↓kN, ↓kP, ↓kG, ↓qN, ↓qP, ↓qG, push_cast, seval, reduceCtorEq, Int.cast_ofNat_Int])|refine zAc ?_|((first|refine zAg ?_|refine zAf ?_); simp only [thenQ, zAk, if_true, if_false, Nat.reduceEqDiff, reduceCtorEq])|(refine zAe (by rfl) (fun hb => ?_) (fun hb => ?_) <;> (try simp only [b1, b2, b3, b4, reduceCtorEq, b5, b6] at hb) <;> (try omega))|refine zAi (by rfl) ?_ ?_|refine andS ?_|(refine ⟨fun hc => ?_, fun hc => ?_⟩)|(intro hc; try omega))
  · refine hL _ (k + 1) ⟨by omega, by omega⟩ (by omega) ?_
    refine zAj ?_ ?_ ?_ <;> simp only [push_cast, seval, reduceCtorEq, Int.cast_ofNat_Int]
    obtain ⟨j, rfl⟩ : ∃ j, k = j + 1 := ⟨k - 1, by omega⟩
    rfl
  · obtain rfl : k = l.length := by omega
    rfl
theorem zCK (c : Int) {l : List Int} {k : Nat} (h : k < l.length) : cntV c (l.take (k + 1)) = cntV c (l.take k) + if l.getD k 0 = c then 1 else 0 := by
  unfold cntV
  rw [List.take_succ_eq_append_getElem h, List.count_append]
  rw [List.getD_eq_getElem?_getD, List.getElem?_eq_getElem h, Option.getD_some]
  simp only [List.count_singleton, beq_iff_eq]
  split <;> simp
theorem zCJ (c : Int) (l : List Int) : 0 ≤ cntV c l ∧ cntV c l ≤ l.length := by
  unfold cntV
  have := List.count_le_length (a := c) (l := l)
  omega
theorem zJR {l : List Int} {n k : Nat} (h : k < l.length) (hc : 0 ≤ l.getD k 0) :
    (palV (l.take k) n).set (l.getD k 0).toNat ((palV (l.take k) n).getD (l.getD k 0).toNat 0 + 1) = palV (l.take (k + 1)) n := by
  unfold palV
  rw [zD7]
  refine zAB fun i hi => ?_
  rw [zCK _ h]
  split
  · rename_i e
    rw [← e, zCa _ _ hi, if_pos (by omega)]
  · rename_i e
    rw [if_neg (by omega), Int.add_zero]
theorem zF3 : FnSpec Tryz.prog 60 zHR := by
  refine FnSpec.of_tri' (E := know [] [] [] []) (zAm all_nil all_nil all_nil) Tryz.func60 rfl rfl (by kernel_rfl) ?_
  intro C x hE hnl hfit hpre
  simp only [Tryz.ntmps60, Tryz.results60, maxLen, Nat.reduceSub, Nat.reducePow, Nat.reduceAdd, Int.cast_ofNat_Int, push_cast] at hnl hfit hpre ⊢
  obtain ⟨(l : List Int), (n : Int), _⟩ := x
  dsimp only at hfit hpre ⊢
  obtain ⟨⟨hn0, hn1⟩, hl, hat⟩ := hpre
  obtain ⟨m, rfl⟩ : ∃ m : Nat, n = m := ⟨n.toNat, by omega⟩
  repeat' (first|(refine goK (by assumption) ?_; iterate 4 (try clear hK K))|(refine zAd fun K hK => ?_)|((first|refine zAb hE rfl ?_|refine zAh ?_|((first|refine zAa hE 1 rfl rfl (by kernel_rfl) ?_|refine zAa hE 2 rfl rfl (by kernel_rfl) ?_|refine zAa hE 3 rfl rfl (by kernel_rfl) ?_|refine zAa hE 4 rfl rfl (by kernel_rfl) ?_); simp only [List.length_cons, List.length_nil, Nat.reduceAdd, Nat.reduceSub, List.take_succ_cons, List.take_zero, List.drop_succ_cons, List.drop_zero])); simp +contextual only [hnl, ↓kN, ↓kP, ↓kG, ↓qN, ↓qP, ↓qG, push_cast, seval, reduceCtorEq, Int.cast_ofNat_Int])|refine zAc ?_|((first|refine zAg ?_|refine zAf ?_); simp only [thenQ, zAk, if_true, if_false, Nat.reduceEqDiff, reduceCtorEq])|(refine zAe (by rfl) (fun hb => ?_) (fun hb => ?_) <;> (try simp only [b1, b2, b3, b4, reduceCtorEq, b5, b6] at hb) <;> (try omega))|refine zAi (by rfl) ?_ ?_|refine andS ?_|(refine ⟨fun hc => ?_, fun hc => ?_⟩)|(intro hc; try omega))
  refine zAl (fun k : Nat => AS.of [(0, .one (.val (.sl .int) l)), (5, .one (.ref 9)), (10, .one (.val (.sl .int) l)), (11, .I l.length), (12, .I k)] [(9, .flat 3 .int (palV (l.take k) m))] []) (fun k => k ≤ l.length) (fun k => l.length - k) 0 (Nat.zero_le _) ?_ ?_
  · refine zAj ?_ ?_ ?_ <;> simp only [push_cast, seval, reduceCtorEq, Int.cast_ofNat_Int]
    simp [palV, cntV, zDk]
  intro k hk K' hL
  by_cases hkl : k < l.length
  · have h1 := hat _ (zAw 0 hkl)
    have h2 : (l.getD k 0).toNat < m := by omega
    have h3 : (palV (l.take k) m).getD (l.getD k 0).toNat 0 = cntV (l.getD k 0) (l.take k) := by
      unfold palV
      rw [zCa _ _ h2, Int.toNat_of_nonneg h1.1]
    have h4 := zCJ (l.getD k 0) (l.take k)
    have h5 : (l.take k).length ≤ 1000 := by rw [List.length_take]; omega
    have h6 := zJR (n := m) hkl h1.1
    have h7 : (palV (l.take k) m).length = m := zBK _ _
    replace hnl := And.intro hnl h7
    repeat' (first|(refine goK (by assumption) ?_; iterate 4 (try clear hK K))|(refine zAd fun K hK => ?_)|((first|refine zAb hE rfl ?_|refine zAh ?_|((first|refine zAa hE 1 rfl rfl (by kernel_rfl) ?_|refine zAa hE 2 rfl rfl (by kernel_rfl) ?_|refine zAa hE 3 rfl rfl (by kernel_rfl) ?_|refine zAa hE 4 rfl rfl (by kernel_rfl) ?_); simp only [List.length_cons, List.length_nil, Nat.reduceAdd, Nat.reduceSub, List.take_succ_cons, List.take_zero, List.drop_succ_cons, List.drop_zero])); simp +contextual only [hnl, ↓kN, ↓kP, ↓kG, ↓qN, ↓qP, ↓qG, push_cast, seval, reduceCtorEq, Int.cast_ofNat_Int])|refine zAc ?_|((first|refine zAg ?_|refine zAf ?_); simp only [thenQ, zAk, if_true, if_false, Nat.reduceEqDiff, reduceCtorEq])|(refine zAe (by rfl) (fun hb => ?_) (fun hb => ?_) <;> (try simp only [b1, b2, b3, b4, reduceCtorEq, b5, b6] at hb) <;> (try omega))|refine zAi (by rfl) ?_ ?_|refine andS ?_|(refine ⟨fun hc => ?_, fun hc => ?_⟩)|(intro hc; try omega))
    refine hL _ (k + 1) (by omega) (by omega) ?_
    refine zAj ?_ ?_ ?_ <;> simp only [push_cast, seval, reduceCtorEq, Int.cast_ofNat_Int]
    exact .inl (congrArg _ h6)
  · obtain rfl : k = l.length := by omega
    rw [List.take_length]
    exact auB
theorem zGt (l : List Int) (n : Nat) : (palV l n).length = n := zBK _ _
theorem zL8 {l : List Int} {n : Int} (h : ¬ (1 ≤ n ∧ n ≤ 5 ∧ okPic l n = true)) : zED l n = 1 := if_neg h
theorem zL9 {l : List Int} {n : Int} (h : 1 ≤ n ∧ n ≤ 5 ∧ okPic l n = true) (h2 : 30 < maxV (palV l n.toNat)) : zED l n = 3 := by
  unfold zED
  rw [if_pos h, if_pos h2]
theorem zL7 {l : List Int} {n : Int} (h : 1 ≤ n ∧ n ≤ 5 ∧ okPic l n = true) (h2 : ¬ 30 < maxV (palV l n.toNat)) : zED l n = 0 := by
  unfold zED
  rw [if_pos h, if_neg h2]
theorem zFT : FnSpec Tryz.prog 21 zI7 := by
  refine FnSpec.of_tri' (E := know [(59, zMz), (60, zHR), (61, zRT)] [] [] []) (zAm (all_cons zIG (all_cons zF3 (all_cons zQZ all_nil))) all_nil all_nil) Tryz.func21 rfl rfl (by kernel_rfl) ?_
  intro C x hE hnl hfit hpre
  simp only [Tryz.ntmps21, Tryz.results21, maxLen, Nat.reduceSub, Nat.reducePow, Nat.reduceAdd, Int.cast_ofNat_Int, push_cast] at hnl hfit hpre ⊢
  obtain ⟨(l : List Int), (n : Int), _⟩ := x
  dsimp only at hfit hpre ⊢
  by_cases h : 1 ≤ n ∧ n ≤ 5 ∧ okPic l n = true
  · obtain ⟨h1, h2, h3⟩ := h
    obtain ⟨⟨g1, g2⟩, g3⟩ := zBp.1 h3
    have hp : PalPre l n := ⟨by omega, by omega, fun c hc => by have := g3 c hc; omega⟩
    have hm : zOc (palV l n.toNat) := by unfold zOc; rw [zGt]; omega
    by_cases h4 : 30 < maxV (palV l n.toNat)
    · replace hnl := And.intro hnl (And.intro h3 (And.intro (zL9 ⟨h1, h2, h3⟩ h4) (And.intro (eq_true hp) (And.intro (eq_true hm) (show decide (30 < maxV (palV l n.toNat)) = true from decide_eq_true h4)))))
      exact auB
    · replace hnl := And.intro hnl (And.intro h3 (And.intro (zL7 ⟨h1, h2, h3⟩ h4) (And.intro (eq_true hp) (And.intro (eq_true hm) (show decide (30 < maxV (palV l n.toNat)) = false from decide_eq_false h4)))))
      exact auB
  · have he := zL8 h
    replace hnl := And.intro hnl he
    repeat' (first|(refine goK (by assumption) ?_; iterate 4 (try clear hK K))|(refine zAd fun K hK => ?_)|((first|refine zAb hE rfl ?_|refine zAh ?_|((first|refine zAa hE 1 rfl rfl (by kernel_rfl) ?_|refine zAa hE 2 rfl rfl (by kernel_rfl) ?_|refine zAa hE 3 rfl rfl (by kernel_rfl) ?_|refine zAa hE 4 rfl rfl (by kernel_rfl) ?_); simp only [List.length_cons, List.length_nil, Nat.reduceAdd, Nat.reduceSub, List.take_succ_cons, List.take_zero, List.drop_succ_cons, List.drop_zero])); simp +contextual only [hnl, ↓kN, ↓kP, ↓kG, ↓qN, ↓qP, ↓qG, push_cast, seval, reduceCtorEq, Int.cast_ofNat_Int])|refine zAc ?_|((first|refine zAg ?_|refine zAf ?_); simp only [thenQ, zAk, if_true, if_false, Nat.reduceEqDiff, reduceCtorEq])|(refine zAe (by rfl) (fun hb => ?_) (fun hb => ?_) <;> (try simp only [b1, b2, b3, b4, reduceCtorEq, b5, b6] at hb) <;> (try omega))|refine zAi (by rfl) ?_ ?_|refine andS ?_|(refine ⟨fun hc => ?_, fun hc => ?_⟩)|(intro hc; try omega))
    all_goals first
      | omega
      | exact absurd ⟨by omega, by omega, by simpa using hb⟩ h
end Go.Proofs.YtlgkplnifaoeeaaGreatDoor
namespace Go.Proofs.YtlgkplnifaoeeaaGreatDoor
open Go.RowKit Go.VS
theorem zID (n : Nat) (hn : n ≤ 1000) : bits .and .u64 (n : Int) 4294967295 = n := by
  have := bits_and_u64_nat n 4294967295 (by omega) (by omega)
  rw [show ((4294967295 : Nat) : Int) = 4294967295 from rfl] at this
  rw [this, show (4294967295 : Nat) = 2 ^ 32 - 1 from rfl, Nat.and_two_pow_sub_one_eq_mod, Nat.mod_eq_of_lt (by omega)]
theorem zPx (n : Nat) (hn : n ≤ 1000) (w : World) : Calls Tryz.prog 156 #[.int .u64 1, .int .u64 n] w fun e w' => e = .returned (.tuple #[.int .u64 0, .int .u64 n]) ∧ w' = w := by
  have a1 : bits .and .u64 1 4294967295 = 1 := zID 1 (by omega)
  have a0 : bits .and .u64 0 4294967295 = 0 := zID 0 (by omega)
  have an := zID n hn
  have w0 : IntKind.u64.wrap 0 = 0 := by decide
  have wn : IntKind.u64.wrap (n : Int) = n := IntWalk.u64_in _ (by omega)
  have d1 : (n : Int) / 4294967296 = 0 := by omega
  go_enter Tryz.func156, Tryz.ntmps156
  go_wp2
  simp [bodyPost, results, Tryz.results156, go_sem, a1, a0, an, w0, wn, d1]
theorem mul_one (n : Nat) (hn : n ≤ 1000) (w : World) : Calls Tryz.prog 114 #[.int .u64 1, .int .u64 n] w fun e w' => e = .returned (.tuple #[.int .u64 0, .int .u64 n]) ∧ w' = w := by
  go_enter Tryz.func114, Tryz.ntmps114
  go_wp2_with (go_at_call 156; refine (zPx n hn _).mono ?_; rintro e w' ⟨rfl, rfl⟩)
  simp [bodyPost, results, Tryz.results114, go_sem]
set_option maxRecDepth 20000 in
theorem zJ3 (v : Int) (n : Nat) (hn : n ≤ 1000) (w : World) (b off cap : Nat) (hx : w.cell? ⟨b, off, none⟩ = some (.int .i64 v)) (hlt : b < w.heap.size) :
    Calls Tryz.prog 68 #[.slice (some ⟨b, off, none⟩) 1 cap, .int .i64 n] w fun e w' =>
      e = .returned (.slice (some ⟨w.heap.size, 0, none⟩) n n) ∧ w'.heap[w.heap.size]? = some (.cells (List.replicate n (.int .i64 v)).toArray 3 (0, 0)) ∧ Below w.heap.size w w' := by
  have wn : IntKind.u64.wrap (n : Int) = n := IntWalk.u64_in _ (by omega)
  have wi : IntKind.i64.wrap (n : Int) = n := IntWalk.i64_in _ (by omega)
  have w1 : IntKind.u64.wrap 1 = 1 := by decide
  have hmk : ∀ w : World, (Instr.makeSlice 25 (.int .i64 n) (.int .i64 n)).run Tryz.prog w = .ok (.slice (some ⟨w.heap.size, 0, none⟩) n n) (w.alloc (.cells (List.replicate n (Value.int .i64 0)).toArray 3)) := fun w => by
    obtain ⟨i, z, hi, hs, hby, hz, hzc⟩ := tabOK.lang.info 3 .int shI
    have h1 := Nat.mul_le_mul hn hby
    have h2 : ((n * i.bytes : Nat) : Int) ≤ 1024000 := by omega
    rw [Int.natCast_mul] at h2
    have h3 : (i.bytes : Int) * (n : Int) ≤ 281474976710656 := by rw [Int.mul_comm]; omega
    have h4 := run_makeSlice (P := Tryz.prog) (w := w) 25 3 i z Tryz.underlying25 hi hz .i64 .i64 n n (by omega) (by omega) (by rw [Int.toNat_natCast, show i.size = 1 from hs]; omega) h3 (by omega)
    rw [Int.toNat_natCast, show i.size = 1 from hs, Nat.mul_one] at h4
    rw [h4]
    have hz' : z.cells.toList = [Value.int .i64 0] := hzc
    have h5 := zDW (sh := .int) z.cells hz' (by decide) n
    have h6 : (List.replicate n (Sh.int).zero).flatMap (Sh.int).cells = List.replicate n (Value.int .i64 0) := by rw [List.flatMap_replicate]; simp [Sh.cells, Sh.zero]
    rw [h6, show (Sh.int).size = 1 from rfl, Nat.mul_one] at h5
    rw [show madeCells z.cells n = (List.replicate n (Value.int .i64 0)).toArray from by rw [← Array.toList_inj, h5]]
  go_enter Tryz.func68, Tryz.ntmps68
  have hsz : (Tryz.prog.info? 3).map (·.size) = some 1 := by
    obtain ⟨i, z, hi, hs, _⟩ := tabOK.lang.info 3 .int shI
    rw [hi]
    exact congrArg some hs
  obtain ⟨W, hW⟩ : ∃ W, W = w.alloc (.cells (List.replicate n (Value.int .i64 0)).toArray 3) := ⟨_, rfl⟩
  have hWg : W.heap[w.heap.size]? = some (.cells (List.replicate n (Value.int .i64 0)).toArray 3 (0, 0)) := by rw [hW]; simp only [World.alloc, Array.getElem?_push, if_true]
  have hWb : Below w.heap.size w W := by rw [hW]; exact (Below.refl _ _).alloc (Nat.le_refl _) _
  have hWx : W.cell? ⟨b, off, none⟩ = some (.int .i64 v) := by
    rw [← hx]
    exact World.cell?_of_block (hWb.block b hlt)
  have hWz : W.heap.size = w.heap.size + 1 := by rw [hW]; simp only [World.alloc, Array.size_push]
  replace hmk := hmk w
  rw [← hW] at hmk
  clear hW
  go_wp2_with (first | (go_at_call 114; refine (mul_one n hn _).mono ?_; rintro e w' ⟨rfl, hw'⟩; rw [hw']; clear hw') | (show wpList _ _ _ (⟨some 33, _, _, _, _, _⟩ :: _) _ _; go_loud (refine wpList_copy_splice rfl _ _ _ _ rfl 3 Tryz.underlying25 hsz _ _ _ _ _ _ rfl rfl w.heap.size 0 (List.replicate n (Value.int .i64 0)) 3 hWg (List.replicate (Nat.min 1 n) (.int .i64 v)) ?c1 ?c2 ?c3 ?c4 w.heap.size w hWb (Nat.le_refl _) ?_)))
  case c1 => simp
  case c2 =>
    intro _ j u hj
    have hj' := (List.getElem?_eq_some_iff.1 hj).1
    rw [List.length_replicate] at hj'
    have hm1 : Nat.min 1 n ≤ 1 := Nat.min_le_left _ _
    obtain rfl : j = 0 := by omega
    have : u = .int .i64 v := by simpa using (List.mem_replicate.1 (List.mem_of_getElem? hj)).2
    rw [this]
    exact hWx
  case c3 =>
    rw [List.length_replicate, List.length_replicate, Nat.zero_add]
    exact Nat.min_le_right _ _
  case c4 =>
    intro u hu
    rw [(List.mem_replicate.1 hu).2]
    rfl
  · intro w1 hc1 hb1
    go_wp2
    go_loopw [8] (fun y wr => ∃ m : Nat, m ≤ n ∧ (m = 0 → n = 0) ∧ y = .int .i64 m ∧ wr.heap[w.heap.size]? = some (.cells (List.replicate m (Value.int .i64 v) ++ List.replicate (n - m) (Value.int .i64 0)).toArray 3 (0, 0)) ∧ Below w.heap.size w wr) (fun y _ => n - (intOf y).toNat)
    case atStart =>
      have hc1' : w1.heap[w.heap.size]? = some (.cells (splice (List.replicate n (Value.int .i64 0)) 0 (List.replicate (Nat.min 1 n) (Value.int .i64 v))).toArray 3 (0, 0)) := hc1
      have hm1 : Nat.min 1 n ≤ 1 := Nat.min_le_left _ _
      have hm2 : Nat.min 1 n ≤ n := Nat.min_le_right _ _
      refine ⟨Nat.min 1 n, hm2, fun h => ?_, rfl, ?_, hb1⟩
      · rcases Nat.eq_zero_or_pos n with h0 | h0
        · exact h0
        · rw [show Nat.min 1 n = 1 from Nat.min_eq_left h0] at h
          omega
      · rw [hc1']
        congr 2
        simp [splice]
    case round =>
      obtain ⟨m, hm, hm0, rfl, hcm, hbm⟩ := hrel
      rcases Nat.lt_or_ge m n with hmn | hmn
      · have hcp := run_copy_row (P := Tryz.prog) wr.drew 25 25 3 3 w.heap.size m (n - m) (n - m) ⟨w.heap.size, 0, none⟩ m n (List.replicate m (Value.int .i64 v) ++ List.replicate (n - m) (Value.int .i64 0)).toArray 3 (List.replicate (Nat.min m (n - m)) (Value.int .i64 v)) Tryz.underlying25 hsz hcm
        obtain ⟨k, hk⟩ : ∃ k, k = Nat.min m (n - m) := ⟨_, rfl⟩
        have hk1 : k ≤ m := by rw [hk]; exact Nat.min_le_left _ _
        have hk2 : k ≤ n - m := by rw [hk]; exact Nat.min_le_right _ _
        have hk0 : 0 < k := by
          rw [hk]
          exact Nat.lt_min.2 ⟨by omega, by omega⟩
        rw [← hk] at hcp
        replace hcp := hcp (by simp) (fun j u hj => by
          have hj' := (List.getElem?_eq_some_iff.1 hj).1
          rw [List.length_replicate] at hj'
          have hu : u = .int .i64 v := (List.mem_replicate.1 (List.mem_of_getElem? hj)).2
          rw [hu]
          rw [Addr.add_lit]
          have hcm' : wr.drew.heap[w.heap.size]? = some (.cells (List.replicate m (Value.int .i64 v) ++ List.replicate (n - m) (Value.int .i64 0)).toArray 3 (0, 0)) := hcm
          simp [World.cell?, hcm', List.getElem?_append_left, show j < m by omega, List.getElem?_replicate]) (by simp; omega) (fun u hu => by rw [(List.mem_replicate.1 hu).2]; rfl)
        obtain ⟨W2, hW2⟩ : ∃ W2, W2 = wr.drew.setRow w.heap.size (((List.replicate m (Value.int .i64 v) ++ List.replicate (n - m) (Value.int .i64 0)).toArray.toList.take m ++ List.replicate k (Value.int .i64 v) ++ (List.replicate m (Value.int .i64 v) ++ List.replicate (n - m) (Value.int .i64 0)).toArray.toList.drop (m + (List.replicate k (Value.int .i64 v)).length)).toArray) := ⟨_, rfl⟩
        rw [← hW2] at hcp
        have hc2 : W2.heap[w.heap.size]? = some (.cells (List.replicate (m + k) (Value.int .i64 v) ++ List.replicate (n - (m + k)) (Value.int .i64 0)).toArray 3 (0, 0)) := by
          rw [hW2, setRow_heap wr.drew w.heap.size _ _ 3 _ hcm]
          congr 3
          rw [List.toList_toArray, List.length_replicate, List.take_append_of_le_length (by simp), List.take_of_length_le (by simp), List.drop_append, List.drop_eq_nil_of_le (by simp), List.length_replicate, List.drop_replicate, List.nil_append, List.replicate_append_replicate]
          congr 2
          omega
        have hb2 : Below w.heap.size w W2 := by rw [hW2]; exact below_setRow hbm.drew (Nat.le_refl _) _
        have hlen : (List.replicate k (Value.int .i64 v)).length = k := List.length_replicate
        rw [hlen] at hcp
        clear hW2 hc1 hk
        have hne : ¬ n = m := by omega
        have wk : IntKind.i64.wrap ((m : Int) + (k : Int)) = ((m + k : Nat) : Int) := by rw [show (m : Int) + (k : Int) = ((m + k : Nat) : Int) by omega]; exact IntWalk.i64_in _ (by omega)
        have hmn' : (m : Int) < (n : Int) := by omega
        have hmn2 : (m : Int) ≤ (n : Int) := by omega
        go_wp2
        go_region
        go_wp2
        go_roundw
        case rel => exact ⟨m + k, by omega, by omega, rfl, hc2, hb2⟩
        case measure =>
          show n - (((m + k : Nat) : Int)).toNat < n - ((m : Int)).toNat
          omega
      · obtain rfl : m = n := by omega
        go_wp2
        simp [bodyPost, results, Tryz.results68, go_sem]
        exact ⟨by simpa using hcm, hbm⟩
structure RepPre (l : List Int) (n : Int) : Prop where
  len : l.length = 1
  num : 0 ≤ n ∧ n ≤ 1000
@[push_cast] def zRZ : Con := ⟨[.dat (.sl .int), .dat .int], fun (x : List Int × Int × Unit) => RepPre x.1 x.2.1, fun (x : List Int × Int × Unit) => { res := [.val (.sl .int) (List.replicate x.2.1.toNat (x.1.getD 0 0))] }⟩
theorem zLv : FnSpec Tryz.prog 68 zRZ := by
  refine ⟨⟨_, Tryz.func68, by kernel_rfl, rfl⟩, fun C γ x vs hpre hen => ?_⟩
  have hargs := hen.args
  have hlt := hen.ownlt
  obtain ⟨(l : List Int), (n : Int), _⟩ := x
  obtain ⟨hl, hn0, hn1⟩ := hpre
  dsimp only at hl hn0 hn1
  obtain ⟨v, rfl⟩ : ∃ v, l = [v] := by
    match l, hl with
    | [v], _ => exact ⟨v, rfl⟩
  obtain ⟨k, rfl⟩ : ∃ k : Nat, n = k := ⟨n.toNat, by omega⟩
  obtain ⟨v0, _, rfl, h0, v1, _, rfl, h1, rfl⟩ := hargs
  obtain ⟨cs, ⟨ad, cap, rfl, hc, hm, hall⟩, hv0⟩ := h0
  obtain ⟨b, off, c, rfl, hz, hbb, hp, hcell⟩ := hall 0 (by simp)
  have hp' : c = [.int .i64 v] := hp
  subst hp'
  have hcl : C.w0.cell? ⟨b, off, none⟩ = some (.int .i64 v) := by simpa using hcell 0 _ rfl
  have e0 : v0 = .slice (some ⟨b, off, none⟩) 1 cap := hv0
  have e1 : v1 = .int .i64 (k : Int) := zAD h1
  subst e0 e1
  show Calls _ _ #[.slice (some ⟨b, off, none⟩) 1 cap, .int .i64 (k : Int)] C.w0 _
  refine (zJ3 v k (by omega) C.w0 b off cap hcl hbb).mono ?_
  rintro e w2 ⟨rfl, hheap, hbel⟩
  refine ⟨_, γ, rfl, ⟨⟨[], [], [_], rfl, ⟨_, [], rfl, ?_, rfl, rfl, rfl⟩, List.nodup_nil, List.nodup_nil⟩, fun p hp => (by cases hp), fun p hp => (by cases hp), fun b l hb => Nat.lt_of_lt_of_le (hlt b l hb) hbel.size⟩, ⟨hbel.os, hbel.tape, hbel.output, hbel.size, fun b hb _ => hbel.block b hb⟩⟩
  have hfm : (List.replicate k v).flatMap (Sh.int).cells = List.replicate k (Value.int .i64 v) := by rw [List.flatMap_replicate]; simp [Sh.cells]
  have hlt2 := (Array.getElem?_eq_some_iff.1 hheap).1
  have hno : γ.own C.w0.heap.size = none := by
    cases ho : γ.own C.w0.heap.size with
    | none => rfl
    | some l => have := hlt _ l ho; omega
  refine ⟨[.slice (some ⟨C.w0.heap.size, 0, none⟩) k k], zAZ (e := 3) (sh := .int) rfl ?_ (fun g hg => ?_), rfl⟩
  · show w2.ownsRow 0 _ 1 _ (List.replicate (Int.toNat (k : Int)) v).length ((List.replicate (Int.toNat (k : Int)) v).flatMap (Sh.int).cells)
    rw [Int.toNat_natCast, hfm, List.length_replicate]
    exact ⟨by simp, .inr ⟨C.w0.heap.size, k, _, rfl, Nat.zero_le _, hheap, Nat.le_refl _, by unfold maxLen; omega, by simp, by simp⟩⟩
  · simp only [Value.ownBlock, Option.some.injEq] at hg
    subst hg
    exact ⟨.inr (.inl (Nat.le_refl _)), hno⟩
end Go.Proofs.YtlgkplnifaoeeaaGreatDoor
namespace Go.Proofs.YtlgkplnifaoeeaaGreatDoor
open Go.RowKit Go.VS
def sprK (r : List Int) (k : Nat) : List Int := (List.range k).flatMap fun j => List.replicate (r.getD j 0).toNat (j : Int)
def spr (r : List Int) : List Int := sprK r r.length
theorem zKg (r : List Int) : sprK r 0 = [] := rfl
theorem zFm (r : List Int) (k : Nat) : sprK r (k + 1) = sprK r k ++ List.replicate (r.getD k 0).toNat (k : Int) := by
  simp [sprK, List.range_succ]
theorem zI1 {r : List Int} (h : ∀ x ∈ r, 0 ≤ x) : ∀ {k : Nat}, k ≤ r.length → ((sprK r k).length : Int) = lsum (r.take k)
  | 0, _ => by simp [zKg, lsum]
  | k + 1, hk => by
    rw [zFm, zB0 r k (by omega), List.length_append, List.length_replicate, ← zI1 h (k := k) (by omega)]
    have := h _ (zAw 0 (show k < r.length by omega))
    omega
def pixV (l : List Int) (p : List (List Int)) (k : Nat) : Int := (spr (p.getD (l.getD k 0).toNat [])).getD (cntV (l.getD k 0) (l.take k)).toNat 0
def zCQ (l : List Int) (p : List (List Int)) : List Int := tbl l.length (pixV l p)
def restV (l : List Int) (p : List (List Int)) (k : Nat) : List (List Int) := tbl p.length fun c => (spr (p.getD c [])).drop (cntV (c : Int) (l.take k)).toNat
def colV (p : List (List Int)) (i j : Nat) : List (List Int) := tbl p.length fun c => if c < i then spr (p.getD c []) else if c = i then sprK (p.getD i []) j else []
def zBk (l : List Int) (p : List (List Int)) : Int := if zA5 p = 0 then if okPic l p.length = true then if rowsP p = palV l p.length then 0 else 5 else 1 else 1
@[push_cast] def zFg : Con := ⟨[.dat (.sl .int), .dat (.sl (.sl .int))], fun _ => True, fun (x : List Int × List (List Int) × Unit) =>
  { res := [.own (.flat 3 .int (if zBk x.1 x.2.1 = 0 then zCQ x.1 x.2.1 else [])), .val .int (zBk x.1 x.2.1)] }⟩
section
variable {l : List Int} {p : List (List Int)} {i j k : Nat}
theorem zHx (h : zA5 p = 1) : zBk l p = 1 := by simp [zBk, h]
theorem zHy (h : zA5 p = 0) (h2 : okPic l p.length = false) : zBk l p = 1 := by simp [zBk, h, h2]
theorem zHz (h : zA5 p = 0) (h2 : okPic l p.length = true) (h3 : ¬ rowsP p = palV l p.length) : zBk l p = 5 := by simp [zBk, h, h2, h3]
theorem zHw (h : zA5 p = 0) (h2 : okPic l p.length = true) (h3 : rowsP p = palV l p.length) : zBk l p = 0 := by simp [zBk, h, h2, h3]
theorem zQx : (colV p i j).length = p.length := zBK _ _
theorem zSa (hi : i < p.length) : (colV p i j).getD i [] = sprK (p.getD i []) j := by
  unfold colV
  rw [zCa _ _ hi, if_neg (Nat.lt_irrefl _), if_pos rfl]
theorem zOB : colV p 0 0 = List.replicate p.length [] := by
  unfold colV
  rw [← zDk]
  refine zAB fun c hc => ?_
  rw [if_neg (Nat.not_lt_zero _)]
  split <;> rfl
theorem zQy (hi : i < p.length) : (colV p i j).set i (sprK (p.getD i []) j ++ List.replicate ((p.getD i []).getD j 0).toNat (j : Int)) = colV p i (j + 1) := by
  unfold colV
  rw [zD7]
  refine zAB fun c hc => ?_
  by_cases h : c = i
  · subst h
    rw [if_pos rfl, if_neg (Nat.lt_irrefl _), if_pos rfl, zFm]
  · rw [if_neg h, if_neg h, if_neg h]
theorem zOA (hi : i < p.length) : colV p i (p.getD i []).length = colV p (i + 1) 0 := by
  unfold colV
  refine zAB fun c hc => ?_
  by_cases h : c = i
  · subst h
    rw [if_neg (Nat.lt_irrefl _), if_pos rfl, if_pos (Nat.lt_succ_self _)]; rfl
  · by_cases h2 : c < i
    · rw [if_pos h2, if_pos (by omega)]
    · rw [if_neg h2, if_neg h, if_neg (by omega)]
      split <;> rfl
theorem zNK : colV p p.length 0 = restV l p 0 := by
  unfold colV restV
  refine zAB fun c hc => ?_
  rw [if_pos hc]
  rfl
theorem zPZ : (restV l p k).length = p.length := zBK _ _
theorem zRq (h : (l.getD k 0).toNat < p.length) (h0 : 0 ≤ l.getD k 0) : (restV l p k).getD (l.getD k 0).toNat [] = (spr (p.getD (l.getD k 0).toNat [])).drop (cntV (l.getD k 0) (l.take k)).toNat := by
  unfold restV
  rw [zCa _ _ h, Int.toNat_of_nonneg h0]
theorem zP0 (hk : k < l.length) (h0 : 0 ≤ l.getD k 0) : (restV l p k).set (l.getD k 0).toNat (((spr (p.getD (l.getD k 0).toNat [])).drop (cntV (l.getD k 0) (l.take k)).toNat).drop 1) = restV l p (k + 1) := by
  unfold restV
  rw [zD7]
  refine zAB fun c hc => ?_
  rw [zCK _ hk]
  have := zCJ (l.getD k 0) (l.take k)
  split
  · rename_i e
    rw [e, if_pos (by omega), List.drop_drop, Int.toNat_of_nonneg h0]
    congr 1
  · rename_i e
    rw [if_neg (by omega), Int.add_zero]
end
theorem zCX (c : Int) (l : List Int) (k : Nat) : cntV c (l.take k) ≤ cntV c l := by
  unfold cntV
  have : (l.take k).count c ≤ l.count c := List.Sublist.count_le _ (List.take_sublist k l)
  omega
theorem zG9 {p : List (List Int)} (hin : InPlan p) {i : Nat} (hi : i < p.length) : ((spr (p.getD i [])).length : Int) = lsum (p.getD i []) := by
  have h := zI1 (r := p.getD i []) (fun x hx => by
    obtain ⟨k, hk, rfl⟩ := List.getElem_of_mem hx
    have := hin.at hi (show k < wid p by rw [← hin.row hi]; exact hk)
    rw [List.getD_eq_getElem?_getD (l := p.getD i []), List.getElem?_eq_getElem hk] at this
    exact this.1) (Nat.le_refl _)
  rw [List.take_length] at h
  exact h
theorem zFJ {l : List Int} {p : List (List Int)} (h : rowsP p = palV l p.length) {i : Nat} (hi : i < p.length) : lsum (p.getD i []) = cntV (i : Int) l := by
  have h1 := congrArg (fun x => x.getD i 0) h
  simp only [palV, zCa _ _ hi] at h1
  rw [← h1, rowsP, List.getD_eq_getElem?_getD, List.getD_eq_getElem?_getD, List.getElem?_map, List.getElem?_eq_getElem hi]
  rfl
set_option maxRecDepth 10000 in
theorem zHQ : FnSpec Tryz.prog 25 zFg := by
  refine FnSpec.of_tri' (E := know [(65, zGX), (59, zMz), (66, zRO), (60, zHR), (67, zL6), (68, zRZ)] [] [] []) (zAm (all_cons zJU (all_cons zIG (all_cons zOb (all_cons zF3 (all_cons zM9 (all_cons zLv all_nil)))))) all_nil all_nil) Tryz.func25 rfl rfl (by kernel_rfl) ?_
  intro C x hE hnl hfit hpre
  simp only [Tryz.ntmps25, Tryz.results25, maxLen, Nat.reduceSub, Nat.reducePow, Nat.reduceAdd, Int.cast_ofNat_Int, push_cast] at hnl hfit hpre ⊢
  obtain ⟨(l : List Int), (p : List (List Int)), _⟩ := x
  dsimp only at hfit hpre ⊢
  rcases zFy p with he | he
  rotate_left
  · replace hnl := And.intro hnl (And.intro he (zHx (l := l) he))
    exact auB
  have hin := zEd he
  cases hpi : okPic l p.length with
  | false =>
    replace hnl := And.intro hnl (And.intro he (And.intro hpi (zHy he hpi)))
    repeat' (first|(refine goK (by assumption) ?_; iterate 4 (try clear hK K))|(refine zAd fun K hK => ?_)|((first|refine zAb hE rfl ?_|refine zAh ?_|((first|refine zAa hE 1 rfl rfl (by kernel_rfl) ?_|refine zAa hE 2 rfl rfl (by kernel_rfl) ?_|refine zAa hE 3 rfl rfl (by kernel_rfl) ?_|refine zAa hE 4 rfl rfl (by kernel_rfl) ?_); simp only [List.length_cons, List.length_nil, Nat.reduceAdd, Nat.reduceSub, List.take_succ_cons, List.take_zero, List.drop_succ_cons, List.drop_zero])); simp +contextual only [hnl, ↓kN, ↓kP, ↓kG, ↓qN, ↓qP, ↓qG, push_cast, seval, reduceCtorEq, Int.cast_ofNat_Int])|refine zAc ?_|((first|refine zAg ?_|refine zAf ?_); simp only [thenQ, zAk, if_true, if_false, Nat.reduceEqDiff, reduceCtorEq])|(refine zAe (by rfl) (fun hb => ?_) (fun hb => ?_) <;> (try simp only [b1, b2, b3, b4, reduceCtorEq, b5, b6] at hb) <;> (try omega))|refine zAi (by rfl) ?_ ?_|refine andS ?_|(refine ⟨fun hc => ?_, fun hc => ?_⟩)|(intro hc; try omega))
  | true =>
  obtain ⟨⟨g1, g2⟩, g3⟩ := zBp.1 hpi
  have hp : PalPre l p.length := ⟨by have := hin.rows; omega, by omega, fun c hc => by have := g3 c hc; omega⟩
  by_cases hrw : rowsP p = palV l p.length
  rotate_left
  · replace hnl := And.intro hnl (And.intro he (And.intro hpi (And.intro (zHz he hpi hrw) (And.intro (eq_true hp) (eq_false hrw)))))
    exact auB
  have hz := zHw he hpi hrw
  have hrows := hin.rows
  have hcols := hin.cols
  replace hnl := And.intro hnl (And.intro he (And.intro hpi (And.intro hz (And.intro (eq_true hp) (eq_true hrw)))))
  repeat' (first|(refine goK (by assumption) ?_; iterate 4 (try clear hK K))|(refine zAd fun K hK => ?_)|((first|refine zAb hE rfl ?_|refine zAh ?_|((first|refine zAa hE 1 rfl rfl (by kernel_rfl) ?_|refine zAa hE 2 rfl rfl (by kernel_rfl) ?_|refine zAa hE 3 rfl rfl (by kernel_rfl) ?_|refine zAa hE 4 rfl rfl (by kernel_rfl) ?_); simp only [List.length_cons, List.length_nil, Nat.reduceAdd, Nat.reduceSub, List.take_succ_cons, List.take_zero, List.drop_succ_cons, List.drop_zero])); simp +contextual only [hnl, ↓kN, ↓kP, ↓kG, ↓qN, ↓qP, ↓qG, push_cast, seval, reduceCtorEq, Int.cast_ofNat_Int])|refine zAc ?_|((first|refine zAg ?_|refine zAf ?_); simp only [thenQ, zAk, if_true, if_false, Nat.reduceEqDiff, reduceCtorEq])|(refine zAe (by rfl) (fun hb => ?_) (fun hb => ?_) <;> (try simp only [b1, b2, b3, b4, reduceCtorEq, b5, b6] at hb) <;> (try omega))|refine zAi (by rfl) ?_ ?_|refine andS ?_|(refine ⟨fun hc => ?_, fun hc => ?_⟩)|(intro hc; try omega))
  refine zAl (fun i : Nat => AS.of [(0, .one (.val (.sl .int) l)), (10, .one (.ref 43)), (44, .one (.val (.sl (.sl .int)) p)), (45, .I p.length), (46, .I i)] [(43, .deep 25 3 .int (colV p i 0))] []) (fun i => i ≤ p.length) (fun i => p.length - i) 0 (Nat.zero_le _) ?_ ?_
  · refine zAj ?_ ?_ ?_ <;> simp only [push_cast, seval, reduceCtorEq, Int.cast_ofNat_Int]
    exact .inl (by rw [zOB])
  intro i hi K' hL
  by_cases hil : i < p.length
  · have hw := hin.row hil
    have hat := fun j (hj : j < (p.getD i []).length) => hin.at hil (show j < wid p by omega)
    repeat' (first|(refine goK (by assumption) ?_; iterate 4 (try clear hK K))|(refine zAd fun K hK => ?_)|((first|refine zAb hE rfl ?_|refine zAh ?_|((first|refine zAa hE 1 rfl rfl (by kernel_rfl) ?_|refine zAa hE 2 rfl rfl (by kernel_rfl) ?_|refine zAa hE 3 rfl rfl (by kernel_rfl) ?_|refine zAa hE 4 rfl rfl (by kernel_rfl) ?_); simp only [List.length_cons, List.length_nil, Nat.reduceAdd, Nat.reduceSub, List.take_succ_cons, List.take_zero, List.drop_succ_cons, List.drop_zero])); simp +contextual only [hnl, ↓kN, ↓kP, ↓kG, ↓qN, ↓qP, ↓qG, push_cast, seval, reduceCtorEq, Int.cast_ofNat_Int])|refine zAc ?_|((first|refine zAg ?_|refine zAf ?_); simp only [thenQ, zAk, if_true, if_false, Nat.reduceEqDiff, reduceCtorEq])|(refine zAe (by rfl) (fun hb => ?_) (fun hb => ?_) <;> (try simp only [b1, b2, b3, b4, reduceCtorEq, b5, b6] at hb) <;> (try omega))|refine zAi (by rfl) ?_ ?_|refine andS ?_|(refine ⟨fun hc => ?_, fun hc => ?_⟩)|(intro hc; try omega))
    refine zAl (fun j : Nat => AS.of [(0, .one (.val (.sl .int) l)), (10, .one (.ref 43)), (11, .I i), (44, .one (.val (.sl (.sl .int)) p)), (45, .I p.length), (46, .I i), (51, .one (.val (.sl .int) (p.getD i []))), (52, .I (p.getD i []).length), (53, .I j)] [(43, .deep 25 3 .int (colV p i j))] []) (fun j => j ≤ (p.getD i []).length) (fun j => (p.getD i []).length - j) 0 (Nat.zero_le _) ?_ ?_
    · refine zAj ?_ ?_ ?_ <;> simp only [push_cast, seval, reduceCtorEq, Int.cast_ofNat_Int]
    intro j hj K'' hL2
    by_cases hjl : j < (p.getD i []).length
    · have h1 := hat j hjl
      have hr : RepPre [(j : Int)] ((p.getD i []).getD j 0) := ⟨rfl, by omega⟩
      have h2 : (colV p i j).length = p.length := zQx
      have h3 := zSa (p := p) (j := j) hil
      replace hnl := And.intro hnl (And.intro h2 (And.intro h3 (eq_true hr)))
      have h4 := hin.sumR hil j
      have h5 : ((sprK (p.getD i []) j).length : Int) = lsum ((p.getD i []).take j) := zI1 (fun x hx => by obtain ⟨k, hk, rfl⟩ := List.getElem_of_mem hx; have := hat k hk; rw [List.getD_eq_getElem?_getD, List.getElem?_eq_getElem hk] at this; exact this.1) hj
      have h6 := zQy (p := p) (j := j) hil
      repeat' (first|(refine zDz hE 3 [0, 1] rfl (by decide +kernel) ?_; simp only [List.length_cons, List.length_nil, Nat.reduceAdd, Nat.reduceSub, List.take_succ_cons, List.take_zero, List.drop_succ_cons, List.drop_zero, pickM, headM, List.filterMap_cons, List.filterMap_nil, List.getElem?_cons_zero, List.getElem?_cons_succ, List.contains_cons, List.contains_nil, Nat.reduceBEq, Bool.or_false, Bool.false_or, Bool.true_or, Bool.or_true, if_true, Bool.false_eq_true, if_false, List.cons_append, List.nil_append]; simp +contextual only [hnl, ↓kN, ↓kP, ↓kG, ↓qN, ↓qP, ↓qG, push_cast, seval, reduceCtorEq, Int.cast_ofNat_Int])|(first|(refine goK (by assumption) ?_; iterate 4 (try clear hK K))|(refine zAd fun K hK => ?_)|((first|refine zAb hE rfl ?_|refine zAh ?_|((first|refine zAa hE 1 rfl rfl (by kernel_rfl) ?_|refine zAa hE 2 rfl rfl (by kernel_rfl) ?_|refine zAa hE 3 rfl rfl (by kernel_rfl) ?_|refine zAa hE 4 rfl rfl (by kernel_rfl) ?_); simp only [List.length_cons, List.length_nil, Nat.reduceAdd, Nat.reduceSub, List.take_succ_cons, List.take_zero, List.drop_succ_cons, List.drop_zero])); simp +contextual only [hnl, ↓kN, ↓kP, ↓kG, ↓qN, ↓qP, ↓qG, push_cast, seval, reduceCtorEq, Int.cast_ofNat_Int])|refine zAc ?_|((first|refine zAg ?_|refine zAf ?_); simp only [thenQ, zAk, if_true, if_false, Nat.reduceEqDiff, reduceCtorEq])|(refine zAe (by rfl) (fun hb => ?_) (fun hb => ?_) <;> (try simp only [b1, b2, b3, b4, reduceCtorEq, b5, b6] at hb) <;> (try omega))|refine zAi (by rfl) ?_ ?_|refine andS ?_|(refine ⟨fun hc => ?_, fun hc => ?_⟩)|(intro hc; try omega)))
      refine ⟨⟨hil, by omega, by rw [List.length_replicate]; omega⟩, ?_⟩
      repeat' (first|(refine goK (by assumption) ?_; iterate 4 (try clear hK K))|(refine zAd fun K hK => ?_)|((first|refine zAb hE rfl ?_|refine zAh ?_|((first|refine zAa hE 1 rfl rfl (by kernel_rfl) ?_|refine zAa hE 2 rfl rfl (by kernel_rfl) ?_|refine zAa hE 3 rfl rfl (by kernel_rfl) ?_|refine zAa hE 4 rfl rfl (by kernel_rfl) ?_); simp only [List.length_cons, List.length_nil, Nat.reduceAdd, Nat.reduceSub, List.take_succ_cons, List.take_zero, List.drop_succ_cons, List.drop_zero])); simp +contextual only [hnl, ↓kN, ↓kP, ↓kG, ↓qN, ↓qP, ↓qG, push_cast, seval, reduceCtorEq, Int.cast_ofNat_Int])|refine zAc ?_|((first|refine zAg ?_|refine zAf ?_); simp only [thenQ, zAk, if_true, if_false, Nat.reduceEqDiff, reduceCtorEq])|(refine zAe (by rfl) (fun hb => ?_) (fun hb => ?_) <;> (try simp only [b1, b2, b3, b4, reduceCtorEq, b5, b6] at hb) <;> (try omega))|refine zAi (by rfl) ?_ ?_|refine andS ?_|(refine ⟨fun hc => ?_, fun hc => ?_⟩)|(intro hc; try omega))
      refine hL2 _ (j + 1) (by omega) (by omega) ?_
      refine zAj ?_ ?_ ?_ <;> simp only [push_cast, seval, reduceCtorEq, Int.cast_ofNat_Int]
      exact .inl (by rw [h6])
    · obtain rfl : j = (p.getD i []).length := by omega
      rw [zOA hil]
      repeat' (first|(refine goK (by assumption) ?_; iterate 4 (try clear hK K))|(refine zAd fun K hK => ?_)|((first|refine zAb hE rfl ?_|refine zAh ?_|((first|refine zAa hE 1 rfl rfl (by kernel_rfl) ?_|refine zAa hE 2 rfl rfl (by kernel_rfl) ?_|refine zAa hE 3 rfl rfl (by kernel_rfl) ?_|refine zAa hE 4 rfl rfl (by kernel_rfl) ?_); simp only [List.length_cons, List.length_nil, Nat.reduceAdd, Nat.reduceSub, List.take_succ_cons, List.take_zero, List.drop_succ_cons, List.drop_zero])); simp +contextual only [hnl, ↓kN, ↓kP, ↓kG, ↓qN, ↓qP, ↓qG, push_cast, seval, reduceCtorEq, Int.cast_ofNat_Int])|refine zAc ?_|((first|refine zAg ?_|refine zAf ?_); simp only [thenQ, zAk, if_true, if_false, Nat.reduceEqDiff, reduceCtorEq])|(refine zAe (by rfl) (fun hb => ?_) (fun hb => ?_) <;> (try simp only [b1, b2, b3, b4, reduceCtorEq, b5, b6] at hb) <;> (try omega))|refine zAi (by rfl) ?_ ?_|refine andS ?_|(refine ⟨fun hc => ?_, fun hc => ?_⟩)|(intro hc; try omega))
      refine hL _ (i + 1) (by omega) (by omega) ?_
      refine zAj ?_ ?_ ?_ <;> simp only [push_cast, seval, reduceCtorEq, Int.cast_ofNat_Int]
  · obtain rfl : i = p.length := by omega
    rw [zNK (l := l)]
    repeat' (first|(refine goK (by assumption) ?_; iterate 4 (try clear hK K))|(refine zAd fun K hK => ?_)|((first|refine zAb hE rfl ?_|refine zAh ?_|((first|refine zAa hE 1 rfl rfl (by kernel_rfl) ?_|refine zAa hE 2 rfl rfl (by kernel_rfl) ?_|refine zAa hE 3 rfl rfl (by kernel_rfl) ?_|refine zAa hE 4 rfl rfl (by kernel_rfl) ?_); simp only [List.length_cons, List.length_nil, Nat.reduceAdd, Nat.reduceSub, List.take_succ_cons, List.take_zero, List.drop_succ_cons, List.drop_zero])); simp +contextual only [hnl, ↓kN, ↓kP, ↓kG, ↓qN, ↓qP, ↓qG, push_cast, seval, reduceCtorEq, Int.cast_ofNat_Int])|refine zAc ?_|((first|refine zAg ?_|refine zAf ?_); simp only [thenQ, zAk, if_true, if_false, Nat.reduceEqDiff, reduceCtorEq])|(refine zAe (by rfl) (fun hb => ?_) (fun hb => ?_) <;> (try simp only [b1, b2, b3, b4, reduceCtorEq, b5, b6] at hb) <;> (try omega))|refine zAi (by rfl) ?_ ?_|refine andS ?_|(refine ⟨fun hc => ?_, fun hc => ?_⟩)|(intro hc; try omega))
    refine zSM (r := 43) (by simp only [push_cast, seval, reduceCtorEq, Int.cast_ofNat_Int]; rfl) ?_
    refine zAl (fun k : Nat => AS.of [(10, .one (.ref 43)), (15, .one (.ref 86)), (72, .one (.val (.sl .int) l)), (73, .I l.length), (74, .I k)] [(43, .rags 25 .int (restV l p k)), (86, .flat 3 .int (tbl k (pixV l p)))] []) (fun k => k ≤ l.length) (fun k => l.length - k) 0 (Nat.zero_le _) ?_ ?_
    · refine zAj ?_ ?_ ?_ <;> simp only [push_cast, seval, reduceCtorEq, Int.cast_ofNat_Int]
      exact ⟨by omega, rfl⟩
    intro k hk K' hL
    by_cases hkl : k < l.length
    · have h1 := g3 _ (zAw 0 hkl)
      have h2 : (l.getD k 0).toNat < p.length := by omega
      have h3 := zRq (l := l) (p := p) h2 h1.1
      have h4 := zP0 (l := l) (p := p) hkl h1.1
      have h5 : (restV l p k).length = p.length := zPZ
      have h6 : ((spr (p.getD (l.getD k 0).toNat [])).length : Int) = lsum (p.getD (l.getD k 0).toNat []) := zG9 hin h2
      have h7 : cntV (l.getD k 0) (l.take k) + 1 ≤ lsum (p.getD (l.getD k 0).toNat []) := by
        rw [zFJ hrw h2, Int.toNat_of_nonneg h1.1]
        have e1 := zCK (l.getD k 0) hkl
        rw [if_pos rfl] at e1
        have e2 := zCX (l.getD k 0) l (k + 1)
        omega
      have h8 : ((spr (p.getD (l.getD k 0).toNat [])).drop (cntV (l.getD k 0) (l.take k)).toNat).getD 0 0 = pixV l p k := by
        unfold pixV
        rw [List.getD_eq_getElem?_getD, List.getElem?_drop, Nat.add_zero, ← List.getD_eq_getElem?_getD]
      have h9 : ((spr (p.getD (l.getD k 0).toNat [])).drop (cntV (l.getD k 0) (l.take k)).toNat).length = (spr (p.getD (l.getD k 0).toNat [])).length - (cntV (l.getD k 0) (l.take k)).toNat := List.length_drop
      have h10 := zCJ (l.getD k 0) (l.take k)
      have h11 : (tbl k (pixV l p)).length = k := zBK _ _
      replace hnl := And.intro hnl (And.intro h3 (And.intro h5 (And.intro h8 (And.intro h9 h11))))
      repeat' (first|(refine goK (by assumption) ?_; iterate 4 (try clear hK K))|(refine zAd fun K hK => ?_)|((first|refine zAb hE rfl ?_|refine zAh ?_|((first|refine zAa hE 1 rfl rfl (by kernel_rfl) ?_|refine zAa hE 2 rfl rfl (by kernel_rfl) ?_|refine zAa hE 3 rfl rfl (by kernel_rfl) ?_|refine zAa hE 4 rfl rfl (by kernel_rfl) ?_); simp only [List.length_cons, List.length_nil, Nat.reduceAdd, Nat.reduceSub, List.take_succ_cons, List.take_zero, List.drop_succ_cons, List.drop_zero])); simp +contextual only [hnl, ↓kN, ↓kP, ↓kG, ↓qN, ↓qP, ↓qG, push_cast, seval, reduceCtorEq, Int.cast_ofNat_Int])|refine zAc ?_|((first|refine zAg ?_|refine zAf ?_); simp only [thenQ, zAk, if_true, if_false, Nat.reduceEqDiff, reduceCtorEq])|(refine zAe (by rfl) (fun hb => ?_) (fun hb => ?_) <;> (try simp only [b1, b2, b3, b4, reduceCtorEq, b5, b6] at hb) <;> (try omega))|refine zAi (by rfl) ?_ ?_|refine andS ?_|(refine ⟨fun hc => ?_, fun hc => ?_⟩)|(intro hc; try omega))
      refine hL _ (k + 1) (by omega) (by omega) ?_
      refine zAj ?_ ?_ ?_ <;> simp only [push_cast, seval, reduceCtorEq, Int.cast_ofNat_Int]
      exact ⟨.inl (by rw [h4]), .inl (by rw [zFr])⟩
    · obtain rfl : k = l.length := by omega
      repeat' (first|(refine goK (by assumption) ?_; iterate 4 (try clear hK K))|(refine zAd fun K hK => ?_)|((first|refine zAb hE rfl ?_|refine zAh ?_|((first|refine zAa hE 1 rfl rfl (by kernel_rfl) ?_|refine zAa hE 2 rfl rfl (by kernel_rfl) ?_|refine zAa hE 3 rfl rfl (by kernel_rfl) ?_|refine zAa hE 4 rfl rfl (by kernel_rfl) ?_); simp only [List.length_cons, List.length_nil, Nat.reduceAdd, Nat.reduceSub, List.take_succ_cons, List.take_zero, List.drop_succ_cons, List.drop_zero])); simp +contextual only [hnl, ↓kN, ↓kP, ↓kG, ↓qN, ↓qP, ↓qG, push_cast, seval, reduceCtorEq, Int.cast_ofNat_Int])|refine zAc ?_|((first|refine zAg ?_|refine zAf ?_); simp only [thenQ, zAk, if_true, if_false, Nat.reduceEqDiff, reduceCtorEq])|(refine zAe (by rfl) (fun hb => ?_) (fun hb => ?_) <;> (try simp only [b1, b2, b3, b4, reduceCtorEq, b5, b6] at hb) <;> (try omega))|refine zAi (by rfl) ?_ ?_|refine andS ?_|(refine ⟨fun hc => ?_, fun hc => ?_⟩)|(intro hc; try omega))
      rfl
end Go.Proofs.YtlgkplnifaoeeaaGreatDoor
namespace Go.Proofs.YtlgkplnifaoeeaaGreatDoor
open Go.RowKit Go.VS
theorem zGE (c : Int) (l m : List Int) : cntV c (l ++ m) = cntV c l + cntV c m := by
  unfold cntV
  rw [List.count_append]; omega
theorem zQv (c v : Int) (n : Nat) : cntV c (List.replicate n v) = if v = c then (n : Int) else 0 := by
  unfold cntV
  rw [List.count_replicate]
  simp only [beq_iff_eq]
  split <;> rfl
theorem zMM {r : List Int} (h : ∀ x ∈ r, 0 ≤ x) (j : Nat) : ∀ {k : Nat}, k ≤ r.length → cntV (j : Int) (sprK r k) = if j < k then r.getD j 0 else 0
  | 0, _ => by simp [zKg, cntV]
  | k + 1, hk => by
    have h0 := h _ (zAw 0 (show k < r.length by omega))
    rw [zFm, zGE, zMM h j (by omega), zQv]
    by_cases h1 : j < k
    · rw [if_pos h1, if_neg (by omega), if_pos (by omega), Int.add_zero]
    · rw [if_neg h1]
      by_cases h2 : j = k
      · subst h2
        rw [if_pos rfl, if_pos (by omega)]; omega
      · rw [if_neg (by omega), if_neg (by omega)]; rfl
theorem zSK {r : List Int} (h : ∀ x ∈ r, 0 ≤ x) {j : Nat} (hj : j < r.length) : cntV (j : Int) (spr r) = r.getD j 0 := by
  unfold spr
  rw [zMM h j (Nat.le_refl _), if_pos hj]
theorem zLC {r : List Int} {x : Int} (h : x ∈ spr r) : ∃ j, j < r.length ∧ x = (j : Int) ∧ 0 < r.getD j 0 := by
  unfold spr sprK at h
  obtain ⟨j, h1, h2⟩ := List.mem_flatMap.1 h
  obtain ⟨h3, h4⟩ := List.mem_replicate.1 h2
  exact ⟨j, List.mem_range.1 h1, h4, by omega⟩
theorem zSJ {r : List Int} {k : Nat} {x : Int} (h : x ∈ sprK r k) : x < (k : Int) := by
  obtain ⟨j, h1, h2⟩ := List.mem_flatMap.1 h
  have := List.mem_range.1 h1
  have := (List.mem_replicate.1 h2).2
  omega
theorem zG8 (r : List Int) : ∀ k, (sprK r k).Pairwise (· ≤ ·)
  | 0 => List.Pairwise.nil
  | k + 1 => by
    rw [zFm, List.pairwise_append]
    refine ⟨zG8 r k, List.pairwise_replicate.2 (.inr (Int.le_refl _)), fun a ha b hb => ?_⟩
    have := zSJ ha
    have := (List.mem_replicate.1 hb).2
    omega
def remR (r : List Int) (t : Nat) : List Int := tbl r.length fun j => cntV (j : Int) ((spr r).drop t)
def remV (l : List Int) (p : List (List Int)) (k : Nat) : List (List Int) := tbl p.length fun c => remR (p.getD c []) (cntV (c : Int) (l.take k)).toNat
theorem zPX {r : List Int} (h : ∀ x ∈ r, 0 ≤ x) : remR r 0 = r := by
  conv => rhs; rw [zGo r 0]
  unfold remR
  refine zAB fun j hj => ?_
  rw [List.drop_zero, zSK h hj]
theorem zIQ (r : List Int) (t : Nat) : (remR r t).length = r.length := zBK _ _
section
variable {r : List Int} {t : Nat}
theorem zMF (ht : t < (spr r).length) : (spr r).drop t = (spr r).getD t 0 :: (spr r).drop (t + 1) := zGI 0 ht
theorem zSE (ht : t < (spr r).length) {j : Nat} (hj : (j : Int) < (spr r).getD t 0) : cntV (j : Int) ((spr r).drop t) = 0 := by
  have hs : ((spr r).drop t).Pairwise (· ≤ ·) := List.Pairwise.sublist (List.drop_sublist t _) (zG8 r _)
  rw [zMF ht] at hs ⊢
  have h1 := (List.pairwise_cons.1 hs).1
  unfold cntV
  have : ((spr r).getD t 0 :: (spr r).drop (t + 1)).count (j : Int) = 0 := by
    rw [List.count_eq_zero]
    intro hm
    rcases List.mem_cons.1 hm with h | h
    · omega
    · have := h1 _ h; omega
  omega
theorem zIT (ht : t < (spr r).length) (j : Nat) : cntV (j : Int) ((spr r).drop t) = cntV (j : Int) ((spr r).drop (t + 1)) + if (spr r).getD t 0 = (j : Int) then 1 else 0 := by
  rw [zMF ht]
  unfold cntV
  rw [List.count_cons]
  simp only [beq_iff_eq]
  split <;> simp
theorem zSF (ht : t < (spr r).length) {j : Nat} (hj : (spr r).getD t 0 = (j : Int)) : 0 < cntV (j : Int) ((spr r).drop t) := by
  rw [zIT ht, if_pos hj]
  have := (zCJ (j : Int) ((spr r).drop (t + 1))).1
  omega
theorem zLt {j : Nat} (hj : j < r.length) : (remR r t).getD j 0 = cntV (j : Int) ((spr r).drop t) := zCa _ _ hj
theorem zRp (ht : t < (spr r).length) {j : Nat} (hj : (spr r).getD t 0 = (j : Int)) (hl : j < r.length) : (remR r t).set j ((remR r t).getD j 0 - 1) = remR r (t + 1) := by
  rw [zLt hl]
  unfold remR
  rw [zD7]
  refine zAB fun i hi => ?_
  rw [zIT ht i]
  split
  · rename_i e
    subst e
    rw [zIT ht, if_pos hj]; omega
  · rename_i e
    rw [if_neg (by omega), Int.add_zero]
end
section
variable {l : List Int} {p : List (List Int)} {k : Nat}
theorem zIS : (remV l p k).length = p.length := zBK _ _
theorem zIR {c : Nat} (hc : c < p.length) : (remV l p k).getD c [] = remR (p.getD c []) (cntV (c : Int) (l.take k)).toNat := zCa _ _ hc
theorem zJ1 (h : ∀ c, c < p.length → ∀ x ∈ p.getD c [], 0 ≤ x) : remV l p 0 = p := by
  conv => rhs; rw [zGo p []]
  unfold remV
  refine zAB fun c hc => ?_
  exact zPX (h c hc)
theorem zME (hk : k < l.length) (h0 : 0 ≤ l.getD k 0) (hc : (l.getD k 0).toNat < p.length) (ht : (cntV (l.getD k 0) (l.take k)).toNat < (spr (p.getD (l.getD k 0).toNat [])).length) {j : Nat} (hj : pixV l p k = (j : Int)) (hl : j < (p.getD (l.getD k 0).toNat []).length) :
    (remV l p k).set (l.getD k 0).toNat (((remV l p k).getD (l.getD k 0).toNat []).set j ((((remV l p k).getD (l.getD k 0).toNat []).getD j 0) - 1)) = remV l p (k + 1) := by
  rw [zIR hc, Int.toNat_of_nonneg h0, zRp ht hj hl]
  unfold remV
  rw [zD7]
  refine zAB fun c hc' => ?_
  rw [zCK _ hk]
  have := zCJ (l.getD k 0) (l.take k)
  split
  · rename_i e
    subst e
    rw [if_pos (by omega), Int.toNat_of_nonneg h0]
    congr 1
  · rename_i e
    rw [if_neg (by omega), Int.add_zero]
end
end Go.Proofs.YtlgkplnifaoeeaaGreatDoor
namespace Go.Proofs.YtlgkplnifaoeeaaGreatDoor
open Go.RowKit Go.VS
def PixT (l d : List Int) (c : List (List Int)) (p : zCs) : Prop := ∀ k, k < l.length → p.1.getD (l.getD k 0).toNat 0 + p.2.getD (d.getD k 0).toNat 0 = (c.getD (l.getD k 0).toNat []).getD (d.getD k 0).toNat 0
instance (l d : List Int) (c : List (List Int)) (p : zCs) : Decidable (PixT l d c p) := by unfold PixT; infer_instance
def errCP (l d : List Int) (c : List (List Int)) (p : zCs) : Int :=
  if InTab 0 99 c then if okPic l c.length = true ∧ okPic d (wid c) = true then if l.length = d.length then if errPr c p = 0 then if PixT l d c p then 0 else 7 else errPr c p else 5 else 1 else 1
@[push_cast] def cpCon : Con := ⟨[.dat (.sl .int), .dat (.sl .int), .dat (.sl (.sl .int)), .dat (.prod (.sl .int) (.sl .int))], fun _ => True, fun (x : List Int × List Int × List (List Int) × zCs × Unit) => { res := [.val .int (errCP x.1 x.2.1 x.2.2.1 x.2.2.2.1)] }⟩
section
variable {l d : List Int} {c : List (List Int)} {p : zCs}
theorem zOO (h : ¬ InTab 0 99 c) : errCP l d c p = 1 := if_neg h
theorem zIo (h : InTab 0 99 c) (h2 : ¬ (okPic l c.length = true ∧ okPic d (wid c) = true)) : errCP l d c p = 1 := by rw [errCP, if_pos h, if_neg h2]
theorem zOP (h : InTab 0 99 c) (h2 : okPic l c.length = true ∧ okPic d (wid c) = true) (h3 : ¬ l.length = d.length) : errCP l d c p = 5 := by rw [errCP, if_pos h, if_pos h2, if_neg h3]
theorem zOR (h : InTab 0 99 c) (h2 : okPic l c.length = true ∧ okPic d (wid c) = true) (h3 : l.length = d.length) (h4 : ¬ errPr c p = 0) : errCP l d c p = errPr c p := by rw [errCP, if_pos h, if_pos h2, if_pos h3, if_neg h4]
theorem zOQ (h : InTab 0 99 c) (h2 : okPic l c.length = true ∧ okPic d (wid c) = true) (h3 : l.length = d.length) (h4 : errPr c p = 0) (h5 : ¬ PixT l d c p) : errCP l d c p = 7 := by rw [errCP, if_pos h, if_pos h2, if_pos h3, if_pos h4, if_neg h5]
theorem zON (h : InTab 0 99 c) (h2 : okPic l c.length = true ∧ okPic d (wid c) = true) (h3 : l.length = d.length) (h4 : errPr c p = 0) (h5 : PixT l d c p) : errCP l d c p = 0 := by rw [errCP, if_pos h, if_pos h2, if_pos h3, if_pos h4, if_pos h5]
end
theorem zSb : FnSpec Tryz.prog 42 cpCon := by
  refine FnSpec.of_tri' (E := know [(73, zDP), (59, zMz), (91, prCon)] [] [] []) (zAm (all_cons zEm (all_cons zIG (all_cons zRc all_nil))) all_nil all_nil) Tryz.func42 rfl rfl (by kernel_rfl) ?_
  intro C x hE hnl hfit hpre
  simp only [Tryz.ntmps42, Tryz.results42, maxLen, Nat.reduceSub, Nat.reducePow, Nat.reduceAdd, Int.cast_ofNat_Int, push_cast] at hnl hfit hpre ⊢
  obtain ⟨(l : List Int), (d : List Int), (c : List (List Int)), ⟨(u : List Int), (v : List Int)⟩, _⟩ := x
  dsimp only at hfit hpre ⊢
  by_cases hc : InTab 0 99 c
  rotate_left
  · have h1 := zBY hc
    have e : errCP l d c (u, v) = 1 := zOO hc
    replace hnl := And.intro hnl (And.intro h1 e)
    exact auB
  have h1 := zCM hc
  have hw : (c.getD 0 []).length = wid c := rfl
  have hrs := hc.rows
  cases hl : okPic l c.length with
  | false =>
    have e : errCP l d c (u, v) = 1 := zIo hc (fun h => by rw [hl] at h; cases h.1)
    replace hnl := And.intro hnl (And.intro h1 (And.intro hl e))
    repeat' (first|(refine goK (by assumption) ?_; iterate 4 (try clear hK K))|(refine zAd fun K hK => ?_)|((first|refine zAb hE rfl ?_|refine zAh ?_|((first|refine zAa hE 1 rfl rfl (by kernel_rfl) ?_|refine zAa hE 2 rfl rfl (by kernel_rfl) ?_|refine zAa hE 3 rfl rfl (by kernel_rfl) ?_|refine zAa hE 4 rfl rfl (by kernel_rfl) ?_); simp only [List.length_cons, List.length_nil, Nat.reduceAdd, Nat.reduceSub, List.take_succ_cons, List.take_zero, List.drop_succ_cons, List.drop_zero])); simp +contextual only [hnl, ↓kN, ↓kP, ↓kG, ↓qN, ↓qP, ↓qG, push_cast, seval, reduceCtorEq, Int.cast_ofNat_Int])|refine zAc ?_|((first|refine zAg ?_|refine zAf ?_); simp only [thenQ, zAk, if_true, if_false, Nat.reduceEqDiff, reduceCtorEq])|(refine zAe (by rfl) (fun hb => ?_) (fun hb => ?_) <;> (try simp only [b1, b2, b3, b4, reduceCtorEq, b5, b6] at hb) <;> (try omega))|refine zAi (by rfl) ?_ ?_|refine andS ?_|(refine ⟨fun hc => ?_, fun hc => ?_⟩)|(intro hc; try omega))
  | true =>
  cases hd : okPic d (wid c) with
  | false =>
    have e : errCP l d c (u, v) = 1 := zIo hc (fun h => by rw [hd] at h; cases h.2)
    replace hnl := And.intro hnl (And.intro h1 (And.intro hl (And.intro hw (And.intro hd e))))
    repeat' (first|(refine goK (by assumption) ?_; iterate 4 (try clear hK K))|(refine zAd fun K hK => ?_)|((first|refine zAb hE rfl ?_|refine zAh ?_|((first|refine zAa hE 1 rfl rfl (by kernel_rfl) ?_|refine zAa hE 2 rfl rfl (by kernel_rfl) ?_|refine zAa hE 3 rfl rfl (by kernel_rfl) ?_|refine zAa hE 4 rfl rfl (by kernel_rfl) ?_); simp only [List.length_cons, List.length_nil, Nat.reduceAdd, Nat.reduceSub, List.take_succ_cons, List.take_zero, List.drop_succ_cons, List.drop_zero])); simp +contextual only [hnl, ↓kN, ↓kP, ↓kG, ↓qN, ↓qP, ↓qG, push_cast, seval, reduceCtorEq, Int.cast_ofNat_Int])|refine zAc ?_|((first|refine zAg ?_|refine zAf ?_); simp only [thenQ, zAk, if_true, if_false, Nat.reduceEqDiff, reduceCtorEq])|(refine zAe (by rfl) (fun hb => ?_) (fun hb => ?_) <;> (try simp only [b1, b2, b3, b4, reduceCtorEq, b5, b6] at hb) <;> (try omega))|refine zAi (by rfl) ?_ ?_|refine andS ?_|(refine ⟨fun hc => ?_, fun hc => ?_⟩)|(intro hc; try omega))
  | true =>
  by_cases hle : l.length = d.length
  rotate_left
  · have e : errCP l d c (u, v) = 5 := zOP hc ⟨hl, hd⟩ hle
    replace hnl := And.intro hnl (And.intro h1 (And.intro hl (And.intro hw (And.intro hd e))))
    exact auB
  by_cases hp : errPr c (u, v) = 0
  rotate_left
  · have e := zOR hc ⟨hl, hd⟩ hle hp
    replace hnl := And.intro hnl (And.intro h1 (And.intro hl (And.intro hw (And.intro hd e))))
    exact auB
  obtain ⟨_, ha, hh⟩ := zMa hp
  obtain ⟨hul, hua⟩ := ha.row
  obtain ⟨hvl, hva⟩ := ha.col
  dsimp only at hul hua hvl hva
  obtain ⟨⟨g1, g2⟩, g3⟩ := zBp.1 hl
  obtain ⟨⟨g4, g5⟩, g6⟩ := zBp.1 hd
  replace hnl := And.intro hnl (And.intro h1 (And.intro hl (And.intro hw (And.intro hd hp))))
  repeat' (first|(refine goK (by assumption) ?_; iterate 4 (try clear hK K))|(refine zAd fun K hK => ?_)|((first|refine zAb hE rfl ?_|refine zAh ?_|((first|refine zAa hE 1 rfl rfl (by kernel_rfl) ?_|refine zAa hE 2 rfl rfl (by kernel_rfl) ?_|refine zAa hE 3 rfl rfl (by kernel_rfl) ?_|refine zAa hE 4 rfl rfl (by kernel_rfl) ?_); simp only [List.length_cons, List.length_nil, Nat.reduceAdd, Nat.reduceSub, List.take_succ_cons, List.take_zero, List.drop_succ_cons, List.drop_zero])); simp +contextual only [hnl, ↓kN, ↓kP, ↓kG, ↓qN, ↓qP, ↓qG, push_cast, seval, reduceCtorEq, Int.cast_ofNat_Int])|refine zAc ?_|((first|refine zAg ?_|refine zAf ?_); simp only [thenQ, zAk, if_true, if_false, Nat.reduceEqDiff, reduceCtorEq])|(refine zAe (by rfl) (fun hb => ?_) (fun hb => ?_) <;> (try simp only [b1, b2, b3, b4, reduceCtorEq, b5, b6] at hb) <;> (try omega))|refine zAi (by rfl) ?_ ?_|refine andS ?_|(refine ⟨fun hc => ?_, fun hc => ?_⟩)|(intro hc; try omega))
  refine zAl (fun k : Nat => AS.of [(1, .one (.val (.sl .int) d)), (2, .one (.val (.sl (.sl .int)) c)), (7, .one (.box 7)), (44, .one (.val (.sl .int) l)), (45, .I l.length), (46, .I k)] [] [(7, .one (.val (.prod (.sl .int) (.sl .int)) (u, v)))]) (fun k => k ≤ l.length ∧ ∀ i, i < k → u.getD (l.getD i 0).toNat 0 + v.getD (d.getD i 0).toNat 0 = (c.getD (l.getD i 0).toNat []).getD (d.getD i 0).toNat 0) (fun k => l.length - k) 0 ⟨Nat.zero_le _, by omega⟩ ?_ ?_
  · refine zAj ?_ ?_ ?_ <;> simp only [push_cast, seval, reduceCtorEq, Int.cast_ofNat_Int]
  intro k ⟨hk, hall⟩ K' hL
  by_cases hkl : k < l.length
  · have k1 := g3 _ (zAw 0 hkl)
    have k2 := g6 _ (zAw 0 (show k < d.length by omega))
    have k3 : (l.getD k 0).toNat < c.length := by omega
    have k4 : (d.getD k 0).toNat < wid c := by omega
    have k5 := hua (l.getD k 0).toNat (by omega)
    have k6 := hva (d.getD k 0).toNat (by omega)
    have k7 := hc.len k3
    replace hnl := And.intro hnl k7
    repeat' (first|(refine goK (by assumption) ?_; iterate 4 (try clear hK K))|(refine zAd fun K hK => ?_)|((first|refine zAb hE rfl ?_|refine zAh ?_|((first|refine zAa hE 1 rfl rfl (by kernel_rfl) ?_|refine zAa hE 2 rfl rfl (by kernel_rfl) ?_|refine zAa hE 3 rfl rfl (by kernel_rfl) ?_|refine zAa hE 4 rfl rfl (by kernel_rfl) ?_); simp only [List.length_cons, List.length_nil, Nat.reduceAdd, Nat.reduceSub, List.take_succ_cons, List.take_zero, List.drop_succ_cons, List.drop_zero])); simp +contextual only [hnl, ↓kN, ↓kP, ↓kG, ↓qN, ↓qP, ↓qG, push_cast, seval, reduceCtorEq, Int.cast_ofNat_Int])|refine zAc ?_|((first|refine zAg ?_|refine zAf ?_); simp only [thenQ, zAk, if_true, if_false, Nat.reduceEqDiff, reduceCtorEq])|(refine zAe (by rfl) (fun hb => ?_) (fun hb => ?_) <;> (try simp only [b1, b2, b3, b4, reduceCtorEq, b5, b6] at hb) <;> (try omega))|refine zAi (by rfl) ?_ ?_|refine andS ?_|(refine ⟨fun hc => ?_, fun hc => ?_⟩)|(intro hc; try omega))
    · exact (zOQ hc ⟨hl, hd⟩ hle hp fun h => hb (h k hkl)).symm
    · refine hL _ (k + 1) ⟨by omega, fun i hi => ?_⟩ (by omega) ?_
      · rcases Nat.lt_or_ge i k with h3 | h3
        · exact hall i h3
        · obtain rfl : i = k := by omega
          exact hb
      refine zAj ?_ ?_ ?_ <;> simp only [push_cast, seval, reduceCtorEq, Int.cast_ofNat_Int]
  · obtain rfl : k = l.length := by omega
    repeat' (first|(refine goK (by assumption) ?_; iterate 4 (try clear hK K))|(refine zAd fun K hK => ?_)|((first|refine zAb hE rfl ?_|refine zAh ?_|((first|refine zAa hE 1 rfl rfl (by kernel_rfl) ?_|refine zAa hE 2 rfl rfl (by kernel_rfl) ?_|refine zAa hE 3 rfl rfl (by kernel_rfl) ?_|refine zAa hE 4 rfl rfl (by kernel_rfl) ?_); simp only [List.length_cons, List.length_nil, Nat.reduceAdd, Nat.reduceSub, List.take_succ_cons, List.take_zero, List.drop_succ_cons, List.drop_zero])); simp +contextual only [hnl, ↓kN, ↓kP, ↓kG, ↓qN, ↓qP, ↓qG, push_cast, seval, reduceCtorEq, Int.cast_ofNat_Int])|refine zAc ?_|((first|refine zAg ?_|refine zAf ?_); simp only [thenQ, zAk, if_true, if_false, Nat.reduceEqDiff, reduceCtorEq])|(refine zAe (by rfl) (fun hb => ?_) (fun hb => ?_) <;> (try simp only [b1, b2, b3, b4, reduceCtorEq, b5, b6] at hb) <;> (try omega))|refine zAi (by rfl) ?_ ?_|refine andS ?_|(refine ⟨fun hc => ?_, fun hc => ?_⟩)|(intro hc; try omega))
    exact (zON hc ⟨hl, hd⟩ hle hp fun i hi => hall i hi).symm
end Go.Proofs.YtlgkplnifaoeeaaGreatDoor
namespace Go.Proofs.YtlgkplnifaoeeaaGreatDoor
open Go.RowKit Go.VS
def sumK (n : Int) (t : ByteArray) : Nat → Int
  | 0 => ((n.tmod 1000003) + 1000003).tmod 1000003
  | k + 1 => (sumK n t k * 257 + ((t.data.toList.getD k 0).toNat : Int) + 1).tmod 1000003
def sumV (n : Int) (t : ByteArray) : Int := sumK n t t.size
theorem zH7 {x : Int} (h : 0 ≤ x) : 0 ≤ x.tmod 1000003 ∧ x.tmod 1000003 ≤ 1000002 := by
  rw [Int.tmod_eq_emod_of_nonneg h]
  omega
theorem zI3 (x : Int) : -1000002 ≤ x.tmod 1000003 ∧ x.tmod 1000003 ≤ 1000002 := by
  have h1 := Int.lt_tmod_of_pos x (show (0 : Int) < 1000003 by omega)
  have h2 := Int.tmod_lt_of_pos x (show (0 : Int) < 1000003 by omega)
  omega
theorem zCG (n : Int) (t : ByteArray) : ∀ k, 0 ≤ sumK n t k ∧ sumK n t k ≤ 1000002
  | 0 => zH7 (by have := zI3 n; omega)
  | k + 1 => by
    have := zCG n t k
    exact zH7 (by omega)
theorem zM4 (t : ByteArray) : (zE1 t).length = t.size := by
  unfold zE1
  rw [List.length_map, Array.length_toList]; rfl
theorem zM3 {t : ByteArray} {k : Nat} (h : k < t.size) : (zE1 t).getD k 0 = (t.data.toList.getD k 0).toNat := by
  have h' : k < t.data.toList.length := by rw [Array.length_toList]; exact h
  unfold zE1
  rw [List.getD_eq_getElem?_getD, List.getElem?_map, List.getElem?_eq_getElem h', List.getD_eq_getElem?_getD, List.getElem?_eq_getElem h']
  rfl
@[push_cast] def zFO : Con := ⟨[.dat .int, .dat .str], fun (x : Int × ByteArray × Unit) => x.2.1.size ≤ 1000000, fun (x : Int × ByteArray × Unit) => { res := [.val .int (sumV x.1 x.2.1)] }⟩
theorem zNM : FnSpec Tryz.prog 20 zFO := by
  refine FnSpec.of_tri' (E := know [] [] [] []) (zAm all_nil all_nil all_nil) Tryz.func20 rfl rfl (by kernel_rfl) ?_
  intro C x hE hnl hfit hpre
  simp only [Tryz.ntmps20, Tryz.results20, maxLen, Nat.reduceSub, Nat.reducePow, Nat.reduceAdd, Int.cast_ofNat_Int, push_cast] at hnl hfit hpre ⊢
  obtain ⟨(n : Int), (t : ByteArray), _⟩ := x
  dsimp only at hfit hpre ⊢
  have h0 := zI3 n
  repeat' (first|(refine goK (by assumption) ?_; iterate 4 (try clear hK K))|(refine zAd fun K hK => ?_)|((first|refine zAb hE rfl ?_|refine zAh ?_|((first|refine zAa hE 1 rfl rfl (by kernel_rfl) ?_|refine zAa hE 2 rfl rfl (by kernel_rfl) ?_|refine zAa hE 3 rfl rfl (by kernel_rfl) ?_|refine zAa hE 4 rfl rfl (by kernel_rfl) ?_); simp only [List.length_cons, List.length_nil, Nat.reduceAdd, Nat.reduceSub, List.take_succ_cons, List.take_zero, List.drop_succ_cons, List.drop_zero])); simp +contextual only [hnl, ↓kN, ↓kP, ↓kG, ↓qN, ↓qP, ↓qG, push_cast, seval, reduceCtorEq, Int.cast_ofNat_Int])|refine zAc ?_|((first|refine zAg ?_|refine zAf ?_); simp only [thenQ, zAk, if_true, if_false, Nat.reduceEqDiff, reduceCtorEq])|(refine zAe (by rfl) (fun hb => ?_) (fun hb => ?_) <;> (try simp only [b1, b2, b3, b4, reduceCtorEq, b5, b6] at hb) <;> (try omega))|refine zAi (by rfl) ?_ ?_|refine andS ?_|(refine ⟨fun hc => ?_, fun hc => ?_⟩)|(intro hc; try omega))
  refine zAl (fun k : Nat => AS.of [(1, .one (.val .str t)), (5, .I (sumK n t k)), (6, .I k)] [] []) (fun k => k ≤ t.size) (fun k => t.size - k) 0 (Nat.zero_le _) ?_ ?_
  · refine zAj ?_ ?_ ?_ <;> simp only [push_cast, seval, reduceCtorEq, Int.cast_ofNat_Int]
    rfl
  intro k hk K' hL
  have hb1 := zCG n t k
  have hb2 : ((t.data.toList.getD k 0).toNat : Int) ≤ 255 := by have := (t.data.toList.getD k 0).toNat_lt; omega
  repeat' (first|(refine goK (by assumption) ?_; iterate 4 (try clear hK K))|(refine zAd fun K hK => ?_)|((first|refine zAb hE rfl ?_|refine zAh ?_|((first|refine zAa hE 1 rfl rfl (by kernel_rfl) ?_|refine zAa hE 2 rfl rfl (by kernel_rfl) ?_|refine zAa hE 3 rfl rfl (by kernel_rfl) ?_|refine zAa hE 4 rfl rfl (by kernel_rfl) ?_); simp only [List.length_cons, List.length_nil, Nat.reduceAdd, Nat.reduceSub, List.take_succ_cons, List.take_zero, List.drop_succ_cons, List.drop_zero])); simp +contextual only [hnl, ↓kN, ↓kP, ↓kG, ↓qN, ↓qP, ↓qG, push_cast, seval, reduceCtorEq, Int.cast_ofNat_Int])|refine zAc ?_|((first|refine zAg ?_|refine zAf ?_); simp only [thenQ, zAk, if_true, if_false, Nat.reduceEqDiff, reduceCtorEq])|(refine zAe (by rfl) (fun hb => ?_) (fun hb => ?_) <;> (try simp only [b1, b2, b3, b4, reduceCtorEq, b5, b6] at hb) <;> (try omega))|refine zAi (by rfl) ?_ ?_|refine andS ?_|(refine ⟨fun hc => ?_, fun hc => ?_⟩)|(intro hc; try omega))
  · refine hL _ (k + 1) (by omega) (by omega) ?_
    refine zAj ?_ ?_ ?_ <;> simp only [push_cast, seval, reduceCtorEq, Int.cast_ofNat_Int]
    rfl
  · obtain rfl : k = t.size := by omega
    rfl
theorem zFB : FnSpec Tryz.prog 19 zFO := by
  refine FnSpec.of_tri' (E := know [] [] [] []) (zAm all_nil all_nil all_nil) Tryz.func19 rfl rfl (by kernel_rfl) ?_
  intro C x hE hnl hfit hpre
  simp only [Tryz.ntmps19, Tryz.results19, maxLen, Nat.reduceSub, Nat.reducePow, Nat.reduceAdd, Int.cast_ofNat_Int, push_cast] at hnl hfit hpre ⊢
  obtain ⟨(n : Int), (t : ByteArray), _⟩ := x
  dsimp only at hfit hpre ⊢
  have h0 := zI3 n
  have hbl := zM4 t
  replace hnl := And.intro hnl hbl
  repeat' (first|(refine goK (by assumption) ?_; iterate 4 (try clear hK K))|(refine zAd fun K hK => ?_)|((first|refine zAb hE rfl ?_|refine zAh ?_|((first|refine zAa hE 1 rfl rfl (by kernel_rfl) ?_|refine zAa hE 2 rfl rfl (by kernel_rfl) ?_|refine zAa hE 3 rfl rfl (by kernel_rfl) ?_|refine zAa hE 4 rfl rfl (by kernel_rfl) ?_); simp only [List.length_cons, List.length_nil, Nat.reduceAdd, Nat.reduceSub, List.take_succ_cons, List.take_zero, List.drop_succ_cons, List.drop_zero])); simp +contextual only [hnl, ↓kN, ↓kP, ↓kG, ↓qN, ↓qP, ↓qG, push_cast, seval, reduceCtorEq, Int.cast_ofNat_Int])|refine zAc ?_|((first|refine zAg ?_|refine zAf ?_); simp only [thenQ, zAk, if_true, if_false, Nat.reduceEqDiff, reduceCtorEq])|(refine zAe (by rfl) (fun hb => ?_) (fun hb => ?_) <;> (try simp only [b1, b2, b3, b4, reduceCtorEq, b5, b6] at hb) <;> (try omega))|refine zAi (by rfl) ?_ ?_|refine andS ?_|(refine ⟨fun hc => ?_, fun hc => ?_⟩)|(intro hc; try omega))
  refine zAl (fun k : Nat => AS.of [(5, .I (sumK n t k)), (13, .one (.val (.sl .byte) (zE1 t))), (14, .I t.size), (15, .I k)] [] []) (fun k => k ≤ t.size) (fun k => t.size - k) 0 (Nat.zero_le _) ?_ ?_
  · refine zAj ?_ ?_ ?_ <;> simp only [push_cast, seval, reduceCtorEq, Int.cast_ofNat_Int]
    rfl
  intro k hk K' hL
  have hb1 := zCG n t k
  have hb2 : ((t.data.toList.getD k 0).toNat : Int) ≤ 255 := by have := (t.data.toList.getD k 0).toNat_lt; omega
  rcases Nat.lt_or_ge k t.size with hkt | hkt
  · replace hnl := And.intro hnl (zM3 hkt)
    repeat' (first|(refine goK (by assumption) ?_; iterate 4 (try clear hK K))|(refine zAd fun K hK => ?_)|((first|refine zAb hE rfl ?_|refine zAh ?_|((first|refine zAa hE 1 rfl rfl (by kernel_rfl) ?_|refine zAa hE 2 rfl rfl (by kernel_rfl) ?_|refine zAa hE 3 rfl rfl (by kernel_rfl) ?_|refine zAa hE 4 rfl rfl (by kernel_rfl) ?_); simp only [List.length_cons, List.length_nil, Nat.reduceAdd, Nat.reduceSub, List.take_succ_cons, List.take_zero, List.drop_succ_cons, List.drop_zero])); simp +contextual only [hnl, ↓kN, ↓kP, ↓kG, ↓qN, ↓qP, ↓qG, push_cast, seval, reduceCtorEq, Int.cast_ofNat_Int])|refine zAc ?_|((first|refine zAg ?_|refine zAf ?_); simp only [thenQ, zAk, if_true, if_false, Nat.reduceEqDiff, reduceCtorEq])|(refine zAe (by rfl) (fun hb => ?_) (fun hb => ?_) <;> (try simp only [b1, b2, b3, b4, reduceCtorEq, b5, b6] at hb) <;> (try omega))|refine zAi (by rfl) ?_ ?_|refine andS ?_|(refine ⟨fun hc => ?_, fun hc => ?_⟩)|(intro hc; try omega))
    refine hL _ (k + 1) (by omega) (by omega) ?_
    refine zAj ?_ ?_ ?_ <;> simp only [push_cast, seval, reduceCtorEq, Int.cast_ofNat_Int]
    rfl
  · obtain rfl : k = t.size := by omega
    repeat' (first|(refine goK (by assumption) ?_; iterate 4 (try clear hK K))|(refine zAd fun K hK => ?_)|((first|refine zAb hE rfl ?_|refine zAh ?_|((first|refine zAa hE 1 rfl rfl (by kernel_rfl) ?_|refine zAa hE 2 rfl rfl (by kernel_rfl) ?_|refine zAa hE 3 rfl rfl (by kernel_rfl) ?_|refine zAa hE 4 rfl rfl (by kernel_rfl) ?_); simp only [List.length_cons, List.length_nil, Nat.reduceAdd, Nat.reduceSub, List.take_succ_cons, List.take_zero, List.drop_succ_cons, List.drop_zero])); simp +contextual only [hnl, ↓kN, ↓kP, ↓kG, ↓qN, ↓qP, ↓qG, push_cast, seval, reduceCtorEq, Int.cast_ofNat_Int])|refine zAc ?_|((first|refine zAg ?_|refine zAf ?_); simp only [thenQ, zAk, if_true, if_false, Nat.reduceEqDiff, reduceCtorEq])|(refine zAe (by rfl) (fun hb => ?_) (fun hb => ?_) <;> (try simp only [b1, b2, b3, b4, reduceCtorEq, b5, b6] at hb) <;> (try omega))|refine zAi (by rfl) ?_ ?_|refine andS ?_|(refine ⟨fun hc => ?_, fun hc => ?_⟩)|(intro hc; try omega))
    rfl
end Go.Proofs.YtlgkplnifaoeeaaGreatDoor
namespace Go.Proofs
open Go.Shelf
def Tryz.laysM171_ren : Go.Shelf.Ren := ⟨fun | 171 => 125 | 243 => 170 | 246 => 205 | 283 => 225 | 284 => 226 | 285 => 227 | 286 => 228 | 129 => 238 | 317 => 237 | 318 => 239 | 319 => 240 | 320 => 241 | 337 => 244 | 338 => 245 | n => n, fun | 3 => 3 | 9 => 9 | 2 => 2 | 4 => 4 | 171 => 266 | 0 => 0 | 53 => 192 | 37 => 94 | 5 => 5 | 173 => 269 | 212 => 280 | 51 => 107 | 20 => 20 | 213 => 281 | 46 => 79 | 232 => 290 | 233 => 291 | n => n, fun | 17 => 4 | 18 => 7 | 19 => 8 | n => n⟩
theorem Tryz.laysM171 : Go.Proofs.LaysM.n171 Tryz.prog Tryz.laysM171_ren := {
  mixed := by kernel_rfl
  f129 := Tryz.func238.trans (congrArg some (by kernel_rfl))
  f171 := Tryz.func125.trans (congrArg some (by kernel_rfl))
  f243 := Tryz.func170.trans (congrArg some (by kernel_rfl))
  f246 := Tryz.func205.trans (congrArg some (by kernel_rfl))
  f283 := Tryz.func225.trans (congrArg some (by kernel_rfl))
  f284 := Tryz.func226.trans (congrArg some (by kernel_rfl))
  f285 := Tryz.func227.trans (congrArg some (by kernel_rfl))
  f286 := Tryz.func228.trans (congrArg some (by kernel_rfl))
  f317 := Tryz.func237.trans (congrArg some (by kernel_rfl))
  f318 := Tryz.func239.trans (congrArg some (by kernel_rfl))
  f319 := Tryz.func240.trans (congrArg some (by kernel_rfl))
  f320 := Tryz.func241.trans (congrArg some (by kernel_rfl))
  f337 := Tryz.func244.trans (congrArg some (by kernel_rfl))
  f338 := Tryz.func245.trans (congrArg some (by kernel_rfl))
  t0 := Tryz.underlying0
  a0 := Tryz.isAgg0
  z0 := Tryz.sizeOf0
  v0 := Tryz.zeroValue0
  t2 := Tryz.underlying2
  a2 := Tryz.isAgg2
  z2 := Tryz.sizeOf2
  v2 := Tryz.zeroValue2
  t3 := Tryz.underlying3
  a3 := Tryz.isAgg3
  z3 := Tryz.sizeOf3
  v3 := Tryz.zeroValue3
  t4 := Tryz.underlying4
  a4 := Tryz.isAgg4
  z4 := Tryz.sizeOf4
  v4 := Tryz.zeroValue4
  t5 := Tryz.underlying5
  a5 := Tryz.isAgg5
  z5 := Tryz.sizeOf5
  v5 := Tryz.zeroValue5
  t9 := Tryz.underlying9
  a9 := Tryz.isAgg9
  z9 := Tryz.sizeOf9
  v9 := Tryz.zeroValue9
  t20 := Tryz.underlying20
  a20 := Tryz.isAgg20
  z20 := Tryz.sizeOf20
  v20 := Tryz.zeroValue20
  t37 := Tryz.underlying94
  a37 := Tryz.isAgg94
  z37 := Tryz.sizeOf94
  v37 := Tryz.zeroValue94
  t46 := Tryz.underlying79
  a46 := Tryz.isAgg79
  z46 := Tryz.sizeOf79
  v46 := Tryz.zeroValue79
  t51 := Tryz.underlying107
  a51 := Tryz.isAgg107
  z51 := Tryz.sizeOf107
  v51 := Tryz.zeroValue107
  t53 := Tryz.underlying192
  a53 := Tryz.isAgg192
  z53 := Tryz.sizeOf192
  v53 := Tryz.zeroValue192
  t171 := Tryz.underlying266
  a171 := Tryz.isAgg266
  z171 := Tryz.sizeOf266
  v171 := Tryz.zeroValue266
  t173 := Tryz.underlying269
  a173 := Tryz.isAgg269
  z173 := Tryz.sizeOf269
  v173 := Tryz.zeroValue269
  t212 := Tryz.underlying280
  a212 := Tryz.isAgg280
  z212 := Tryz.sizeOf280
  v212 := Tryz.zeroValue280
  t213 := Tryz.underlying281
  a213 := Tryz.isAgg281
  z213 := Tryz.sizeOf281
  t232 := Tryz.underlying290
  a232 := Tryz.isAgg290
  z232 := Tryz.sizeOf290
  v232 := Tryz.zeroValue290
  t233 := Tryz.underlying291
  a233 := Tryz.isAgg291
  z233 := Tryz.sizeOf291
  v233 := Tryz.zeroValue291
  g17 := by kernel_rfl
  g18 := by kernel_rfl
  g19 := by kernel_rfl
  i0 := by kernel_rfl
  i2 := by kernel_rfl
  i3 := by kernel_rfl
  i4 := by kernel_rfl
  i5 := by kernel_rfl
  i9 := by kernel_rfl
  i20 := by kernel_rfl
  i37 := by kernel_rfl
  i46 := by kernel_rfl
  i51 := by kernel_rfl
  i53 := by kernel_rfl
  i171 := by kernel_rfl
  i173 := by kernel_rfl
  i212 := by kernel_rfl
  i232 := by kernel_rfl
  i233 := by kernel_rfl
  m17 := by kernel_rfl
  m18 := by kernel_rfl
  m19 := by kernel_rfl }
open Go.RowKit Go.Sort Go.Lib in
theorem Tryz.strconv_Itoa (n : Int) (h0 : -9223372036854775808 ≤ n) (h1 : n ≤ 9223372036854775807) (w : World) (htab : Lib.TabIs Tryz.prog w "internal/strconv.uint64pow10" .u64 Lib.pow10Tab) :
    Calls Tryz.prog 125 #[.int .i64 n] w fun e w' => e = .returned (.string ⟨(Lib.itoa n).toArray⟩) ∧ ∃ k os, w' = grow (w.drewN k) os := Any.strconv_Itoa Tryz.laysM171 n h0 h1 w htab
def Tryz.laysC172_ren : Go.Shelf.Ren := ⟨fun | 172 => 124 | 244 => 168 | 245 => 169 | 247 => 200 | 279 => 201 | 280 => 202 | 281 => 203 | 282 => 204 | 287 => 222 | 316 => 223 | 171 => 125 | 205 => 224 | 321 => 235 | 322 => 236 | 243 => 170 | 246 => 205 | 283 => 225 | 284 => 226 | 285 => 227 | 286 => 228 | 129 => 238 | 317 => 237 | 318 => 239 | 319 => 240 | 320 => 241 | 337 => 244 | 338 => 245 | n => n, fun | 9 => 9 | 3 => 3 | 75 => 116 | 76 => 168 | 4 => 4 | 5 => 5 | 167 => 230 | 37 => 94 | 0 => 0 | 85 => 231 | 2 => 2 | 168 => 233 | 53 => 192 | 175 => 260 | 46 => 79 | 210 => 264 | 127 => 275 | 145 => 278 | 143 => 276 | 21 => 21 | 171 => 266 | 173 => 269 | 212 => 280 | 51 => 107 | 20 => 20 | 213 => 281 | 232 => 290 | 233 => 291 | 80 => 47 | n => n, fun | 15 => 2 | 16 => 3 | 17 => 4 | 18 => 7 | 19 => 8 | n => n⟩
theorem Tryz.laysC172 : Go.Proofs.LaysC.n172 Tryz.prog Tryz.laysC172_ren := {
  mixed := by kernel_rfl
  f129 := Tryz.func238.trans (congrArg some (by kernel_rfl))
  f171 := Tryz.func125.trans (congrArg some (by kernel_rfl))
  f172 := Tryz.func124.trans (congrArg some (by kernel_rfl))
  f205 := Tryz.func224.trans (congrArg some (by kernel_rfl))
  f243 := Tryz.func170.trans (congrArg some (by kernel_rfl))
  f244 := Tryz.func168.trans (congrArg some (by kernel_rfl))
  f245 := Tryz.func169.trans (congrArg some (by kernel_rfl))
  f246 := Tryz.func205.trans (congrArg some (by kernel_rfl))
  f247 := Tryz.func200.trans (congrArg some (by kernel_rfl))
  f279 := Tryz.func201.trans (congrArg some (by kernel_rfl))
  f280 := Tryz.func202.trans (congrArg some (by kernel_rfl))
  f281 := Tryz.func203.trans (congrArg some (by kernel_rfl))
  f282 := Tryz.func204.trans (congrArg some (by kernel_rfl))
  f283 := Tryz.func225.trans (congrArg some (by kernel_rfl))
  f284 := Tryz.func226.trans (congrArg some (by kernel_rfl))
  f285 := Tryz.func227.trans (congrArg some (by kernel_rfl))
  f286 := Tryz.func228.trans (congrArg some (by kernel_rfl))
  f287 := Tryz.func222.trans (congrArg some (by kernel_rfl))
  f316 := Tryz.func223.trans (congrArg some (by kernel_rfl))
  f317 := Tryz.func237.trans (congrArg some (by kernel_rfl))
  f318 := Tryz.func239.trans (congrArg some (by kernel_rfl))
  f319 := Tryz.func240.trans (congrArg some (by kernel_rfl))
  f320 := Tryz.func241.trans (congrArg some (by kernel_rfl))
  f321 := Tryz.func235.trans (congrArg some (by kernel_rfl))
  f322 := Tryz.func236.trans (congrArg some (by kernel_rfl))
  f337 := Tryz.func244.trans (congrArg some (by kernel_rfl))
  f338 := Tryz.func245.trans (congrArg some (by kernel_rfl))
  t0 := Tryz.underlying0
  a0 := Tryz.isAgg0
  z0 := Tryz.sizeOf0
  v0 := Tryz.zeroValue0
  t2 := Tryz.underlying2
  a2 := Tryz.isAgg2
  z2 := Tryz.sizeOf2
  v2 := Tryz.zeroValue2
  t3 := Tryz.underlying3
  a3 := Tryz.isAgg3
  z3 := Tryz.sizeOf3
  v3 := Tryz.zeroValue3
  t4 := Tryz.underlying4
  a4 := Tryz.isAgg4
  z4 := Tryz.sizeOf4
  v4 := Tryz.zeroValue4
  t5 := Tryz.underlying5
  a5 := Tryz.isAgg5
  z5 := Tryz.sizeOf5
  v5 := Tryz.zeroValue5
  t9 := Tryz.underlying9
  a9 := Tryz.isAgg9
  z9 := Tryz.sizeOf9
  v9 := Tryz.zeroValue9
  t20 := Tryz.underlying20
  a20 := Tryz.isAgg20
  z20 := Tryz.sizeOf20
  v20 := Tryz.zeroValue20
  t21 := Tryz.underlying21
  a21 := Tryz.isAgg21
  z21 := Tryz.sizeOf21
  v21 := Tryz.zeroValue21
  t37 := Tryz.underlying94
  a37 := Tryz.isAgg94
  z37 := Tryz.sizeOf94
  v37 := Tryz.zeroValue94
  t46 := Tryz.underlying79
  a46 := Tryz.isAgg79
  z46 := Tryz.sizeOf79
  v46 := Tryz.zeroValue79
  t51 := Tryz.underlying107
  a51 := Tryz.isAgg107
  z51 := Tryz.sizeOf107
  v51 := Tryz.zeroValue107
  t53 := Tryz.underlying192
  a53 := Tryz.isAgg192
  z53 := Tryz.sizeOf192
  v53 := Tryz.zeroValue192
  t75 := Tryz.underlying116
  a75 := Tryz.isAgg116
  z75 := Tryz.sizeOf116
  v75 := Tryz.zeroValue116
  t76 := Tryz.underlying168
  a76 := Tryz.isAgg168
  z76 := Tryz.sizeOf168
  v76 := Tryz.zeroValue168
  t85 := Tryz.underlying231
  a85 := Tryz.isAgg231
  z85 := Tryz.sizeOf231
  v85 := Tryz.zeroValue231
  t127 := Tryz.underlying275
  a127 := Tryz.isAgg275
  z127 := Tryz.sizeOf275
  v127 := Tryz.zeroValue275
  t143 := Tryz.underlying276
  a143 := Tryz.isAgg276
  z143 := Tryz.sizeOf276
  v143 := Tryz.zeroValue276
  t145 := Tryz.underlying278
  a145 := Tryz.isAgg278
  z145 := Tryz.sizeOf278
  v145 := Tryz.zeroValue278
  t167 := Tryz.underlying230
  a167 := Tryz.isAgg230
  z167 := Tryz.sizeOf230
  v167 := Tryz.zeroValue230
  t168 := Tryz.underlying233
  a168 := Tryz.isAgg233
  z168 := Tryz.sizeOf233
  v168 := Tryz.zeroValue233
  t171 := Tryz.underlying266
  a171 := Tryz.isAgg266
  z171 := Tryz.sizeOf266
  v171 := Tryz.zeroValue266
  t173 := Tryz.underlying269
  a173 := Tryz.isAgg269
  z173 := Tryz.sizeOf269
  v173 := Tryz.zeroValue269
  t175 := Tryz.underlying260
  a175 := Tryz.isAgg260
  z175 := Tryz.sizeOf260
  v175 := Tryz.zeroValue260
  t210 := Tryz.underlying264
  a210 := Tryz.isAgg264
  z210 := Tryz.sizeOf264
  v210 := Tryz.zeroValue264
  t212 := Tryz.underlying280
  a212 := Tryz.isAgg280
  z212 := Tryz.sizeOf280
  v212 := Tryz.zeroValue280
  t213 := Tryz.underlying281
  a213 := Tryz.isAgg281
  z213 := Tryz.sizeOf281
  t232 := Tryz.underlying290
  a232 := Tryz.isAgg290
  z232 := Tryz.sizeOf290
  v232 := Tryz.zeroValue290
  t233 := Tryz.underlying291
  a233 := Tryz.isAgg291
  z233 := Tryz.sizeOf291
  v233 := Tryz.zeroValue291
  g15 := by kernel_rfl
  g16 := by kernel_rfl
  g17 := by kernel_rfl
  g18 := by kernel_rfl
  g19 := by kernel_rfl
  t80 := Tryz.underlying47
  a80 := Tryz.isAgg47
  z80 := Tryz.sizeOf47
  v80 := Tryz.zeroValue47
  i0 := by kernel_rfl
  i2 := by kernel_rfl
  i3 := by kernel_rfl
  i4 := by kernel_rfl
  i5 := by kernel_rfl
  i9 := by kernel_rfl
  i20 := by kernel_rfl
  i21 := by kernel_rfl
  i37 := by kernel_rfl
  i46 := by kernel_rfl
  i51 := by kernel_rfl
  i53 := by kernel_rfl
  i75 := by kernel_rfl
  i76 := by kernel_rfl
  i80 := by kernel_rfl
  i85 := by kernel_rfl
  i127 := by kernel_rfl
  i143 := by kernel_rfl
  i145 := by kernel_rfl
  i167 := by kernel_rfl
  i168 := by kernel_rfl
  i171 := by kernel_rfl
  i173 := by kernel_rfl
  i175 := by kernel_rfl
  i210 := by kernel_rfl
  i212 := by kernel_rfl
  i232 := by kernel_rfl
  i233 := by kernel_rfl
  m15 := by kernel_rfl
  m16 := by kernel_rfl
  m17 := by kernel_rfl
  m18 := by kernel_rfl
  m19 := by kernel_rfl
  c0 := by kernel_rfl
  c2 := by kernel_rfl
  c3 := by kernel_rfl
  c4 := by kernel_rfl
  c5 := by kernel_rfl
  c9 := by kernel_rfl
  c20 := by kernel_rfl
  c21 := by kernel_rfl
  c37 := by kernel_rfl
  c46 := by kernel_rfl
  c51 := by kernel_rfl
  c53 := by kernel_rfl
  c75 := by kernel_rfl
  c76 := by kernel_rfl
  c80 := by kernel_rfl
  c85 := by kernel_rfl
  c127 := by kernel_rfl
  c143 := by kernel_rfl
  c145 := by kernel_rfl
  c167 := by kernel_rfl
  c168 := by kernel_rfl
  c171 := by kernel_rfl
  c173 := by kernel_rfl
  c175 := by kernel_rfl
  c210 := by kernel_rfl
  c212 := by kernel_rfl
  c213 := by kernel_rfl
  c232 := by kernel_rfl
  c233 := by kernel_rfl }
open Go.RowKit in
theorem Tryz.strconv_Atoi_ok (s : ByteArray) (hmax : s.size ≤ 9223372036854775806) (v : Int) (h : Lib.atoiAll s.data.toList = .ok v) (w : World) :
    Calls Tryz.prog 124 #[.string s] w fun e w' => e = .returned (.tuple #[.int .i64 v, .nilIface]) ∧ (w' = w ∨ ∃ t, w' = Lib.bytesWorld w 5 t) := Any.strconv_Atoi_ok Tryz.laysC172 s hmax v h w
open Go.RowKit in
theorem Tryz.strconv_Atoi_syntax_var (s : ByteArray) (hlim : s.size ≤ 281474976710656) (h : Lib.atoiAll s.data.toList = .«syntax») (tp : TypeId) (p : Value) (w : World) (hvar : w.var? Tryz.prog "strconv.ErrSyntax" = some #[.iface tp p]) :
    Calls Tryz.prog 124 #[.string s] w fun e w' => ∃ N, e = .returned (.tuple #[.int .i64 0, .iface 233 (.pointer (some ⟨N, 0, none⟩))]) ∧ w.heap.size ≤ N ∧ w'.heap[N]? = some (.cells #[.string ⟨#[65, 116, 111, 105]⟩, .string s, .iface tp p] 264 (0, 0)) ∧ Below w.heap.size w w' := Any.strconv_Atoi_syntax_var Tryz.laysC172 s hlim h tp p w hvar
open Go.RowKit in
theorem Tryz.strconv_Atoi_range_var (s : ByteArray) (hlim : s.size ≤ 281474976710656) (h : Lib.atoiAll s.data.toList = .range) (tp : TypeId) (p : Value) (w : World) (hvar : w.var? Tryz.prog "strconv.ErrRange" = some #[.iface tp p]) :
    Calls Tryz.prog 124 #[.string s] w fun e w' => ∃ N, e = .returned (.tuple #[.int .i64 (Lib.atoiSat s.data.toList), .iface 233 (.pointer (some ⟨N, 0, none⟩))]) ∧ w.heap.size ≤ N ∧ w'.heap[N]? = some (.cells #[.string ⟨#[65, 116, 111, 105]⟩, .string s, .iface tp p] 264 (0, 0)) ∧ Below w.heap.size w w' := Any.strconv_Atoi_range_var Tryz.laysC172 s hlim h tp p w hvar
def Tryz.lays145_ren : Go.Shelf.Ren := ⟨fun | 145 => 83 | 220 => 129 | 219 => 176 | 217 => 210 | 225 => 211 | 224 => 212 | 267 => 213 | 266 => 230 | 314 => 231 | n => n, fun | 9 => 9 | 4 => 4 | 59 => 124 | 3 => 3 | 5 => 5 | 46 => 79 | 146 => 190 | 51 => 107 | n => n, fun | 1 => 1 | n => n⟩
theorem Tryz.lays145 : Go.Proofs.Lays.n145 Tryz.prog Tryz.lays145_ren := {
  mixed := by kernel_rfl
  f145 := Tryz.func83.trans (congrArg some (by kernel_rfl))
  f217 := Tryz.func210.trans (congrArg some (by kernel_rfl))
  f219 := Tryz.func176.trans (congrArg some (by kernel_rfl))
  f220 := Tryz.func129.trans (congrArg some (by kernel_rfl))
  f224 := Tryz.func212.trans (congrArg some (by kernel_rfl))
  f225 := Tryz.func211.trans (congrArg some (by kernel_rfl))
  f266 := Tryz.func230.trans (congrArg some (by kernel_rfl))
  f267 := Tryz.func213.trans (congrArg some (by kernel_rfl))
  f314 := Tryz.func231.trans (congrArg some (by kernel_rfl))
  t3 := Tryz.underlying3
  a3 := Tryz.isAgg3
  z3 := Tryz.sizeOf3
  v3 := Tryz.zeroValue3
  t4 := Tryz.underlying4
  a4 := Tryz.isAgg4
  z4 := Tryz.sizeOf4
  v4 := Tryz.zeroValue4
  t5 := Tryz.underlying5
  a5 := Tryz.isAgg5
  z5 := Tryz.sizeOf5
  v5 := Tryz.zeroValue5
  t9 := Tryz.underlying9
  a9 := Tryz.isAgg9
  z9 := Tryz.sizeOf9
  v9 := Tryz.zeroValue9
  t46 := Tryz.underlying79
  a46 := Tryz.isAgg79
  z46 := Tryz.sizeOf79
  v46 := Tryz.zeroValue79
  t51 := Tryz.underlying107
  a51 := Tryz.isAgg107
  z51 := Tryz.sizeOf107
  v51 := Tryz.zeroValue107
  t59 := Tryz.underlying124
  a59 := Tryz.isAgg124
  z59 := Tryz.sizeOf124
  v59 := Tryz.zeroValue124
  t146 := Tryz.underlying190
  a146 := Tryz.isAgg190
  z146 := Tryz.sizeOf190
  v146 := Tryz.zeroValue190
  g1 := by kernel_rfl }
open Go.RowKit Go.Lib in
theorem Tryz.strings_Cut (s sep : ByteArray) (m : Int) (w : World) (hs : s.size < 4294967281) (hm : w.cell? ⟨1, 0, none⟩ = some (.int .i64 m)) :
    Calls Tryz.prog 83 #[.string s, .string sep] w fun e w' => e = .returned (.tuple #[.string ⟨(Lib.cut s.data.toList sep.data.toList).1.toArray⟩, .string ⟨(Lib.cut s.data.toList sep.data.toList).2.1.toArray⟩, .bool (Lib.cut s.data.toList sep.data.toList).2.2]) ∧ ∃ n, w' = w.drewN n := Any.strings_Cut Tryz.lays145 s sep m w hs hm
def Tryz.lays102_ren : Go.Shelf.Ren := ⟨fun | 102 => 175 | 209 => 209 | 207 => 229 | n => n, fun | 9 => 9 | 4 => 4 | 3 => 3 | n => n, fun | n => n⟩
theorem Tryz.lays102 : Go.Proofs.Lays.n102 Tryz.prog Tryz.lays102_ren := {
  mixed := by kernel_rfl
  f102 := Tryz.func175.trans (congrArg some (by kernel_rfl))
  f207 := Tryz.func229.trans (congrArg some (by kernel_rfl))
  f209 := Tryz.func209.trans (congrArg some (by kernel_rfl))
  t3 := Tryz.underlying3
  a3 := Tryz.isAgg3
  z3 := Tryz.sizeOf3
  v3 := Tryz.zeroValue3
  t4 := Tryz.underlying4
  a4 := Tryz.isAgg4
  z4 := Tryz.sizeOf4
  v4 := Tryz.zeroValue4
  t9 := Tryz.underlying9
  a9 := Tryz.isAgg9
  z9 := Tryz.sizeOf9
  v9 := Tryz.zeroValue9 }
open Go.RowKit Go.Lib in
theorem Tryz.strings_TrimSuffix (s p : ByteArray) (w : World) (hs : s.size ≤ 9223372036854775807) :
    Calls Tryz.prog 175 #[.string s, .string p] w fun e w' => e = .returned (.string ⟨(Lib.trimSuffix s.data.toList p.data.toList).toArray⟩) ∧ w' = w := Any.strings_TrimSuffix Tryz.lays102 s p w hs
def Tryz.lays146_ren : Go.Shelf.Ren := ⟨fun | 146 => 122 | 221 => 167 | 268 => 197 | 138 => 198 | 143 => 199 | 195 => 219 | 197 => 220 | 218 => 221 | 219 => 176 | 260 => 234 | 217 => 210 | 225 => 211 | 224 => 212 | 267 => 213 | 266 => 230 | 314 => 231 | n => n, fun | 9 => 9 | 31 => 35 | 3 => 3 | 4 => 4 | 0 => 0 | 105 => 258 | 21 => 21 | 5 => 5 | 46 => 79 | 119 => 285 | 139 => 288 | 138 => 287 | 146 => 190 | 51 => 107 | n => n, fun | 1 => 1 | 3 => 5 | 4 => 6 | n => n⟩
theorem Tryz.lays146 : Go.Proofs.Lays.n146 Tryz.prog Tryz.lays146_ren := {
  mixed := by kernel_rfl
  f138 := Tryz.func198.trans (congrArg some (by kernel_rfl))
  f143 := Tryz.func199.trans (congrArg some (by kernel_rfl))
  f146 := Tryz.func122.trans (congrArg some (by kernel_rfl))
  f195 := Tryz.func219.trans (congrArg some (by kernel_rfl))
  f197 := Tryz.func220.trans (congrArg some (by kernel_rfl))
  f217 := Tryz.func210.trans (congrArg some (by kernel_rfl))
  f218 := Tryz.func221.trans (congrArg some (by kernel_rfl))
  f219 := Tryz.func176.trans (congrArg some (by kernel_rfl))
  f221 := Tryz.func167.trans (congrArg some (by kernel_rfl))
  f224 := Tryz.func212.trans (congrArg some (by kernel_rfl))
  f225 := Tryz.func211.trans (congrArg some (by kernel_rfl))
  f260 := Tryz.func234.trans (congrArg some (by kernel_rfl))
  f266 := Tryz.func230.trans (congrArg some (by kernel_rfl))
  f267 := Tryz.func213.trans (congrArg some (by kernel_rfl))
  f268 := Tryz.func197.trans (congrArg some (by kernel_rfl))
  f314 := Tryz.func231.trans (congrArg some (by kernel_rfl))
  t0 := Tryz.underlying0
  a0 := Tryz.isAgg0
  z0 := Tryz.sizeOf0
  v0 := Tryz.zeroValue0
  t3 := Tryz.underlying3
  a3 := Tryz.isAgg3
  z3 := Tryz.sizeOf3
  v3 := Tryz.zeroValue3
  t4 := Tryz.underlying4
  a4 := Tryz.isAgg4
  z4 := Tryz.sizeOf4
  v4 := Tryz.zeroValue4
  t5 := Tryz.underlying5
  a5 := Tryz.isAgg5
  z5 := Tryz.sizeOf5
  v5 := Tryz.zeroValue5
  t9 := Tryz.underlying9
  a9 := Tryz.isAgg9
  z9 := Tryz.sizeOf9
  v9 := Tryz.zeroValue9
  t21 := Tryz.underlying21
  a21 := Tryz.isAgg21
  z21 := Tryz.sizeOf21
  v21 := Tryz.zeroValue21
  t31 := Tryz.underlying35
  a31 := Tryz.isAgg35
  z31 := Tryz.sizeOf35
  v31 := Tryz.zeroValue35
  t46 := Tryz.underlying79
  a46 := Tryz.isAgg79
  z46 := Tryz.sizeOf79
  v46 := Tryz.zeroValue79
  t51 := Tryz.underlying107
  a51 := Tryz.isAgg107
  z51 := Tryz.sizeOf107
  v51 := Tryz.zeroValue107
  t105 := Tryz.underlying258
  a105 := Tryz.isAgg258
  z105 := Tryz.sizeOf258
  v105 := Tryz.zeroValue258
  t119 := Tryz.underlying285
  a119 := Tryz.isAgg285
  z119 := Tryz.sizeOf285
  t138 := Tryz.underlying287
  a138 := Tryz.isAgg287
  z138 := Tryz.sizeOf287
  v138 := Tryz.zeroValue287
  t139 := Tryz.underlying288
  a139 := Tryz.isAgg288
  z139 := Tryz.sizeOf288
  v139 := Tryz.zeroValue288
  t146 := Tryz.underlying190
  a146 := Tryz.isAgg190
  z146 := Tryz.sizeOf190
  v146 := Tryz.zeroValue190
  g1 := by kernel_rfl
  g3 := by kernel_rfl
  g4 := by kernel_rfl }
open Go.RowKit Go.Lib in
theorem Tryz.strings_Split (s sep : ByteArray) (m : Int) (w : World) (hs : s.size < 4294967281) (hm : w.cell? ⟨1, 0, none⟩ = some (.int .i64 m)) (h1 : 1 ≤ sep.size) :
    Calls Tryz.prog 122 #[.string s, .string sep] w fun e w' =>
      e = .returned (.slice (some ⟨w.heap.size, 0, none⟩) (Lib.countB s sep + 1) (Lib.countB s sep + 1)) ∧ w' = w.alloc (.cells ((Lib.splitB sep 0 (Lib.countB s sep) s).map Value.string).toArray 9) := Any.strings_Split Tryz.lays146 (by kernel_rfl) s sep m w hs hm h1
end Go.Proofs
namespace Go.Proofs.YtlgkplnifaoeeaaGreatDoor
open Go.RowKit Go.VS
theorem zEh {w w' : World} (h : Below w.heap.size w w') : Keep (fun _ => False) w w' := ⟨h.os, h.tape, h.output, h.size, fun k hk _ => h.block k hk⟩
theorem zBm {P : Program} {f : FuncId} {ad : List AD} {pre : TupA ad → Prop} {post : TupA ad → Out} (hc : zA4 P f) (h1 : ∀ x, (post x).left = []) (h2 : ∀ x, (post x).objs = [])
    (h : ∀ (C : Ctx) (γ : Gam) (x : TupA ad) (vs : List Value), pre x → Entry C γ P ad x vs → Calls P f vs.toArray C.w0 fun e w' => ∃ us, e = .returned (zFG us) ∧ zB5 C γ w' (post x).res [] [] us ∧ Keep (fun _ => False) C.w0 w') : FnSpec P f ⟨ad, pre, post⟩ := by
  refine ⟨hc, fun C γ x vs hpre hen => (h C γ x vs hpre hen).mono fun e w' ⟨us, he, hr, hk⟩ => ⟨_, γ, he, ⟨⟨[], [], us, rfl, hr, ?_, ?_⟩, fun p hp => ?_, fun p hp => ?_, fun k l hl => Nat.lt_of_lt_of_le (hen.ownlt k l hl) hk.size⟩, ⟨hk.os, hk.tape, hk.output, hk.size, fun b hb _ => hk.block b hb (fun h => h)⟩⟩⟩
  · show (([] : List Nat) ++ List.map Prod.fst (post x).left).Nodup
    rw [h1]; exact List.nodup_nil
  · show (([] : List Nat) ++ List.map Prod.fst (post x).objs).Nodup
    rw [h2]; exact List.nodup_nil
  · have hp' : p ∈ (post x).left := hp
    rw [h1] at hp'; cases hp'
  · have hp' : p ∈ (post x).objs := hp
    rw [h2] at hp'; cases hp'
def itoaV (n : Int) : ByteArray := ⟨(Lib.itoa n).toArray⟩
def trimV (b p : ByteArray) : ByteArray := ⟨(Lib.trimSuffix b.data.toList p.data.toList).toArray⟩
def cut1 (b p : ByteArray) : ByteArray := ⟨(Lib.cut b.data.toList p.data.toList).1.toArray⟩
def cut2 (b p : ByteArray) : ByteArray := ⟨(Lib.cut b.data.toList p.data.toList).2.1.toArray⟩
def cutB (b p : ByteArray) : Bool := (Lib.cut b.data.toList p.data.toList).2.2
def zAP (b p : ByteArray) : List ByteArray := Lib.splitB p 0 (Lib.countB b p) b
@[push_cast] def zLb : Con := ⟨[.dat .int], fun (x : Int × Unit) => InR x.1, fun (x : Int × Unit) => { res := [.val .str (itoaV x.1)] }⟩
theorem zJv : FnSpec Tryz.prog 125 zLb := by
  refine zBm ⟨_, Tryz.func125, by kernel_rfl, rfl⟩ (fun _ => rfl) (fun _ => rfl) fun C γ x vs hpre hen => ?_
  have hg := hen.ds.2.gd
  rw [hen.P] at hg
  have hargs := hen.args
  obtain ⟨(n : Int), _⟩ := x
  obtain ⟨v0, _, rfl, h0, rfl⟩ := hargs
  obtain rfl : v0 = .int .i64 n := zAD h0
  obtain ⟨g, hgn⟩ : ∃ g, Tryz.prog.globalNamed "internal/strconv.uint64pow10" = some g := Option.isSome_iff_exists.1 (by kernel_rfl)
  have hn : InR n := hpre
  unfold InR at hn
  refine (Tryz.strconv_Itoa n (by omega) (by omega) C.w0 (hg.pow g hgn)).mono ?_
  rintro e w' ⟨rfl, k, os, rfl⟩
  exact ⟨[_], rfl, ⟨_, [], rfl, ⟨[.string ⟨(Lib.itoa n).toArray⟩], rfl, rfl⟩, rfl, rfl, rfl⟩, zEh (Lib.below_grow _ _ (Nat.le_refl _) k os)⟩
def zDJ (s : ByteArray) : Bool := match Lib.atoiAll s.data.toList with
  | .ok _ => true
  | _ => false
def atoiV (s : ByteArray) : Int := match Lib.atoiAll s.data.toList with
  | .ok v => v
  | .range => Lib.atoiSat s.data.toList
  | _ => 0
@[push_cast] def zKK : Con := ⟨[.dat .str], fun (x : ByteArray × Unit) => x.1.size ≤ 1000000, fun (x : ByteArray × Unit) => { res := [.val .int (atoiV x.1), if zDJ x.1 = true then .raw .nilIface else .ifc] }⟩
theorem zJb : FnSpec Tryz.prog 124 zKK := by
  refine zBm ⟨_, Tryz.func124, by kernel_rfl, rfl⟩ (fun _ => rfl) (fun _ => rfl) fun C γ x vs hpre hen => ?_
  have hg := hen.ds.2.gd
  rw [hen.P] at hg
  have hargs := hen.args
  obtain ⟨(t : ByteArray), _⟩ := x
  obtain ⟨v0, _, rfl, h0, rfl⟩ := hargs
  obtain rfl : v0 = .string t := zBs h0
  have hn : t.size ≤ 1000000 := hpre
  show Calls _ _ #[.string t] C.w0 _
  cases h : Lib.atoiAll t.data.toList with
  | ok v =>
    have e1 : atoiV t = v := by simp only [atoiV, h]
    have e2 : zDJ t = true := by simp only [zDJ, h]
    refine (Tryz.strconv_Atoi_ok t (by omega) v h C.w0).mono ?_
    rintro e w' ⟨rfl, hw⟩
    refine ⟨[_, _], rfl, ?_, ?_⟩
    · simp only [e1, e2, if_true]
      exact ⟨_, _, rfl, ⟨[.int .i64 v], rfl, rfl⟩, _, rfl, rfl, rfl, rfl⟩
    · rcases hw with rfl | ⟨t', rfl⟩
      · exact Keep.refl _ _
      · exact zEh (Go.Joins.below_bytesWorld _ _ _ _ (Nat.le_refl _))
  | «syntax» =>
    have e1 : atoiV t = 0 := by simp only [atoiV, h]
    have e2 : zDJ t = false := by simp only [zDJ, h]
    obtain ⟨g, hgn⟩ : ∃ g, Tryz.prog.globalNamed "strconv.ErrSyntax" = some g := Option.isSome_iff_exists.1 (by kernel_rfl)
    obtain ⟨tp, p, hv⟩ := hg.syn g hgn
    refine (Tryz.strconv_Atoi_syntax_var t (by omega) h tp p C.w0 hv).mono ?_
    rintro e w' ⟨N, rfl, _, _, hb⟩
    refine ⟨[_, _], rfl, ?_, zEh hb⟩
    simp only [e1, e2, Bool.false_eq_true, if_false]
    exact ⟨_, _, rfl, ⟨[.int .i64 0], rfl, rfl⟩, _, _, _, rfl, rfl, rfl, rfl⟩
  | range =>
    have e1 : atoiV t = Lib.atoiSat t.data.toList := by simp only [atoiV, h]
    have e2 : zDJ t = false := by simp only [zDJ, h]
    obtain ⟨g, hgn⟩ : ∃ g, Tryz.prog.globalNamed "strconv.ErrRange" = some g := Option.isSome_iff_exists.1 (by kernel_rfl)
    obtain ⟨tp, p, hv⟩ := hg.rng g hgn
    refine (Tryz.strconv_Atoi_range_var t (by omega) h tp p C.w0 hv).mono ?_
    rintro e w' ⟨N, rfl, _, _, hb⟩
    refine ⟨[_, _], rfl, ?_, zEh hb⟩
    simp only [e1, e2, Bool.false_eq_true, if_false]
    exact ⟨_, _, rfl, ⟨[.int .i64 _], rfl, rfl⟩, _, _, _, rfl, rfl, rfl, rfl⟩
@[push_cast] def zQe : Con := ⟨[.dat .str, .dat .str], fun (x : ByteArray × ByteArray × Unit) => x.1.size ≤ 1000000, fun (x : ByteArray × ByteArray × Unit) => { res := [.val .str (trimV x.1 x.2.1)] }⟩
theorem zQf : FnSpec Tryz.prog 175 zQe := by
  refine zBm ⟨_, Tryz.func175, by kernel_rfl, rfl⟩ (fun _ => rfl) (fun _ => rfl) fun C γ x vs hpre hen => ?_
  have hargs := hen.args
  obtain ⟨(t : ByteArray), (u : ByteArray), _⟩ := x
  obtain ⟨v0, _, rfl, h0, v1, _, rfl, h1, rfl⟩ := hargs
  obtain rfl : v0 = .string t := zBs h0
  obtain rfl : v1 = .string u := zBs h1
  have hn : t.size ≤ 1000000 := hpre
  refine (Tryz.strings_TrimSuffix t u C.w0 (by omega)).mono ?_
  rintro e w' ⟨rfl, rfl⟩
  exact ⟨[_], rfl, ⟨_, [], rfl, ⟨[.string _], rfl, rfl⟩, rfl, rfl, rfl⟩, Keep.refl _ _⟩
@[push_cast] def zRK : Con := ⟨[.dat .str, .dat .str], fun (x : ByteArray × ByteArray × Unit) => x.1.size ≤ 1000000, fun (x : ByteArray × ByteArray × Unit) =>
  { res := [.val .str (cut1 x.1 x.2.1), .val .str (cut2 x.1 x.2.1), .val .bool (cutB x.1 x.2.1)] }⟩
theorem zQA : FnSpec Tryz.prog 83 zRK := by
  refine zBm ⟨_, Tryz.func83, by kernel_rfl, rfl⟩ (fun _ => rfl) (fun _ => rfl) fun C γ x vs hpre hen => ?_
  have hg := hen.ds.2.gd
  rw [hen.P] at hg
  have hargs := hen.args
  obtain ⟨(t : ByteArray), (u : ByteArray), _⟩ := x
  obtain ⟨v0, _, rfl, h0, v1, _, rfl, h1, rfl⟩ := hargs
  obtain rfl : v0 = .string t := zBs h0
  obtain rfl : v1 = .string u := zBs h1
  have hn : t.size ≤ 1000000 := hpre
  obtain ⟨m, hm⟩ := hg.max 1 (by kernel_rfl)
  refine (Tryz.strings_Cut t u m C.w0 (by omega) hm).mono ?_
  rintro e w' ⟨rfl, n, rfl⟩
  exact ⟨[_, _, _], rfl, ⟨_, _, rfl, ⟨[.string _], rfl, rfl⟩, _, _, rfl, ⟨[.string _], rfl, rfl⟩, _, _, rfl, ⟨[.bool _], rfl, rfl⟩, rfl, rfl, rfl⟩, ⟨rfl, rfl, rfl, Nat.le_refl _, fun _ _ _ => rfl⟩⟩
@[push_cast] def zI0 : Con := ⟨[.dat .str, .dat .str], fun (x : ByteArray × ByteArray × Unit) => x.1.size ≤ 1000000 ∧ 1 ≤ x.2.1.size, fun (x : ByteArray × ByteArray × Unit) =>
  { res := [.val (.sl .str) (zAP x.1 x.2.1)] }⟩
theorem zH1 : FnSpec Tryz.prog 122 zI0 := by
  refine zBm ⟨_, Tryz.func122, by kernel_rfl, rfl⟩ (fun _ => rfl) (fun _ => rfl) fun C γ x vs hpre hen => ?_
  have hg := hen.ds.2.gd
  rw [hen.P] at hg
  have hlt := hen.ownlt
  have hargs := hen.args
  obtain ⟨(t : ByteArray), (u : ByteArray), _⟩ := x
  obtain ⟨v0, _, rfl, h0, v1, _, rfl, h1, rfl⟩ := hargs
  obtain rfl : v0 = .string t := zBs h0
  obtain rfl : v1 = .string u := zBs h1
  obtain ⟨hn, hu⟩ := hpre
  dsimp only at hn hu
  obtain ⟨m, hm⟩ := hg.max 1 (by kernel_rfl)
  refine (Tryz.strings_Split t u m C.w0 (by omega) hm hu).mono ?_
  rintro e w' ⟨rfl, rfl⟩
  refine ⟨[_], rfl, ⟨_, [], rfl, ?_, rfl, rfl, rfl⟩, ⟨rfl, rfl, rfl, by simp only [World.alloc, Array.size_push]; omega, fun k hk _ => by simp only [World.alloc, Array.getElem?_push]; rw [if_neg (by omega)]⟩⟩
  have hlen : (Lib.splitB u 0 (Lib.countB t u) t).length = Lib.countB t u + 1 := Lib.splitB_all u hu 0 _ t rfl
  have hcl : Lib.countB t u ≤ t.size := Lib.countB_le u hu _ t (Nat.le_refl _)
  have hfm : (Lib.splitB u 0 (Lib.countB t u) t).flatMap (Sh.str).cells = (Lib.splitB u 0 (Lib.countB t u) t).map Value.string := by
    generalize Lib.splitB u 0 (Lib.countB t u) t = m
    induction m with
    | nil => rfl
    | cons x m ih => simp only [List.flatMap_cons, List.map_cons, ih]; rfl
  refine ⟨[.slice (some ⟨C.w0.heap.size, 0, none⟩) _ _], zAZ (e := 9) (sh := .str) rfl ?_ (fun g hg => ?_), rfl⟩
  · show World.ownsRow _ 0 _ 1 _ (Lib.splitB u 0 (Lib.countB t u) t).length ((Lib.splitB u 0 (Lib.countB t u) t).flatMap (Sh.str).cells)
    rw [hfm, hlen]
    have hheap : (C.w0.alloc (.cells ((Lib.splitB u 0 (Lib.countB t u) t).map Value.string).toArray 9)).heap[C.w0.heap.size]? = some (.cells ((Lib.splitB u 0 (Lib.countB t u) t).map Value.string).toArray 9 (0, 0)) := by simp only [World.alloc, Array.getElem?_push, if_true]
    exact ⟨by simp [hlen], .inr ⟨C.w0.heap.size, Lib.countB t u + 1, ((Lib.splitB u 0 (Lib.countB t u) t).map Value.string).toArray, rfl, Nat.zero_le _, hheap, Nat.le_refl _, by unfold maxLen; omega, by simp [hlen], by rw [List.toList_toArray, List.take_of_length_le (by simp [hlen])]⟩⟩
  · simp only [Value.ownBlock, Option.some.injEq] at hg
    subst hg
    refine ⟨.inr (.inl (Nat.le_refl _)), ?_⟩
    cases ho : γ.own C.w0.heap.size with
    | none => rfl
    | some l => have := hlt _ l ho; omega
theorem zNZ (b p : ByteArray) : (trimV b p).size ≤ b.size := by
  have h := Lib.trimSuffix_le b.data.toList p.data.toList
  rw [Lib.size_eq b]
  show (Lib.trimSuffix b.data.toList p.data.toList).toArray.size ≤ _
  rw [List.size_toArray]
  exact h
theorem zOD (b p : ByteArray) : (cut1 b p).size ≤ b.size := by
  rw [Lib.size_eq b]
  show (Lib.cut b.data.toList p.data.toList).1.toArray.size ≤ _
  rw [List.size_toArray]
  unfold Lib.cut
  split
  · rw [List.length_take]; omega
  · exact Nat.le_refl _
theorem zHY (p : ByteArray) : ∀ (k : Nat) (b : ByteArray), ∀ x ∈ Lib.splitB p 0 k b, x.size ≤ b.size
  | 0, b, x, h => by
    rw [Lib.splitB_zero, List.mem_singleton] at h
    rw [h]; exact Nat.le_refl _
  | k + 1, b, x, h => by
    by_cases hi : Lib.indexB b p = -1
    · rw [Lib.splitB_miss p 0 _ b hi, List.mem_singleton] at h
      rw [h]; exact Nat.le_refl _
    · have h0 : -1 ≤ Lib.indexB b p := Lib.index_ge b.data.toList p.data.toList
      obtain ⟨i, hi2⟩ : ∃ i : Nat, Lib.indexB b p = i := ⟨(Lib.indexB b p).toNat, by omega⟩
      rw [Lib.splitB_hit p 0 k b i hi2] at h
      rcases List.mem_cons.1 h with rfl | h
      · rw [ByteArray.size_extract]; omega
      · have := zHY p k _ x h
        rw [ByteArray.size_extract] at this
        omega
theorem zH0 (b p : ByteArray) : ∀ x ∈ zAP b p, x.size ≤ b.size := zHY p _ b
theorem zEu (b p : ByteArray) (h : 1 ≤ p.size) : (zAP b p).length = Lib.countB b p + 1 := Lib.splitB_all p h 0 _ b rfl
theorem zHZ (b p : ByteArray) (h : 1 ≤ p.size) : (zAP b p).length ≤ b.size + 1 := by
  rw [zEu b p h]
  have := Lib.countB_le p h _ b (Nat.le_refl _)
  omega
theorem zEg {n : Int} (h : InR n) : (itoaV n).size ≤ 21 := by
  unfold InR at h
  have := Lib.itoa_length_le n (by omega) (by omega)
  show (Lib.itoa n).toArray.size ≤ _
  rw [List.size_toArray]; exact this
end Go.Proofs.YtlgkplnifaoeeaaGreatDoor
namespace Go.Proofs.YtlgkplnifaoeeaaGreatDoor
open Go.RowKit Go.VS
def chgE (l : List Int) (i n y : Int) : Int := if (l.length : Int) ≤ i then 4 else if n = 0 then 1 else if 30 < l.getD i.toNat 0 + y then 3 else if l.getD i.toNat 0 + y < 0 then 9 else 0
def chgL (l : List Int) (i n y : Int) : List Int := if chgE l i n y = 0 then l.set i.toNat (l.getD i.toNat 0 + y) else l
structure ChgPre (rc : RC) (i y : Int) : Prop where
  hrc : rc = .flat 3 .int (flatI rc)
  len : (flatI rc).length ≤ 1000
  at' : ∀ k, k < (flatI rc).length → 0 ≤ (flatI rc).getD k 0 ∧ (flatI rc).getD k 0 ≤ 30
  i : 0 ≤ i ∧ i ≤ 99999
  y : -99999 ≤ y ∧ y ≤ 99999
@[push_cast] def zOu : Con := ⟨[.lend, .dat .int, .dat .int, .dat .int], fun (x : RC × Int × Int × Int × Unit) => ChgPre x.1 x.2.1 x.2.2.2.1,
  fun (x : RC × Int × Int × Int × Unit) => Out.mk [.val (.err 161) (chgE (flatI x.1) x.2.1 x.2.2.1 x.2.2.2.1)] [(0, .flat 3 .int (chgL (flatI x.1) x.2.1 x.2.2.1 x.2.2.2.1))] []⟩
theorem zQu : FnSpec Tryz.prog 127 zOu := by
  refine FnSpec.of_tri' (E := know [] [] [] []) (zAm all_nil all_nil all_nil) Tryz.func127 rfl rfl (by kernel_rfl) ?_
  intro C x hE hnl hfit hpre
  simp only [Tryz.ntmps127, Tryz.results127, maxLen, Nat.reduceSub, Nat.reducePow, Nat.reduceAdd, Int.cast_ofNat_Int, push_cast] at hnl hfit hpre ⊢
  obtain ⟨(rc : RC), (i : Int), (n : Int), (y : Int), _⟩ := x
  dsimp only at hfit hpre ⊢
  obtain ⟨hrc, hlen, hat, hi, hy⟩ := hpre
  generalize flatI rc = l at *
  subst hrc
  by_cases h1 : (l.length : Int) ≤ i
  · have e1 : chgE l i n y = 4 := if_pos h1
    have e2 : chgL l i n y = l := by rw [chgL, e1]; rfl
    replace hnl := And.intro hnl (And.intro e1 e2)
    exact auB
  have hk := hat i.toNat (by omega)
  by_cases h2 : n = 0
  · have e1 : chgE l i n y = 1 := by rw [chgE, if_neg h1, if_pos h2]
    have e2 : chgL l i n y = l := by rw [chgL, e1]; rfl
    replace hnl := And.intro hnl (And.intro e1 e2)
    exact auB
  by_cases h3 : 30 < l.getD i.toNat 0 + y
  · have e1 : chgE l i n y = 3 := by rw [chgE, if_neg h1, if_neg h2, if_pos h3]
    have e2 : chgL l i n y = l := by rw [chgL, e1]; rfl
    replace hnl := And.intro hnl (And.intro e1 e2)
    exact auB
  by_cases h4 : l.getD i.toNat 0 + y < 0
  · have e1 : chgE l i n y = 9 := by rw [chgE, if_neg h1, if_neg h2, if_neg h3, if_pos h4]
    have e2 : chgL l i n y = l := by rw [chgL, e1]; rfl
    replace hnl := And.intro hnl (And.intro e1 e2)
    exact auB
  have e1 : chgE l i n y = 0 := by rw [chgE, if_neg h1, if_neg h2, if_neg h3, if_neg h4]
  have e2 : chgL l i n y = l.set i.toNat (l.getD i.toNat 0 + y) := by rw [chgL, if_pos e1]
  replace hnl := And.intro hnl (And.intro e1 e2)
  exact auB
end Go.Proofs.YtlgkplnifaoeeaaGreatDoor
namespace Go.Proofs.YtlgkplnifaoeeaaGreatDoor
open Go.RowKit Go.VS
def nlS : ByteArray := ⟨#[10]⟩
def spS : ByteArray := ⟨#[32]⟩
theorem zRW : ({ data := #[10] } : ByteArray) = nlS := rfl
theorem zML : ({ data := #[32] } : ByteArray) = spS := rfl
def lastV (b : ByteArray) : Int := atoiV (cut1 ((zAP (trimV b nlS) nlS).getD (((zAP (trimV b nlS) nlS).length : Int) - 1).toNat ByteArray.empty) spS)
@[push_cast] def zPb : Con := ⟨[.dat .str], fun (x : ByteArray × Unit) => x.1.size ≤ 100000, fun (x : ByteArray × Unit) => { res := [.val .int (lastV x.1)] }⟩
theorem zPc : FnSpec Tryz.prog 128 zPb := by
  refine FnSpec.of_tri' (E := know [(175, zQe), (122, zI0), (83, zRK), (124, zKK)] [] [] []) (zAm (all_cons zQf (all_cons zH1 (all_cons zQA (all_cons zJb all_nil)))) all_nil all_nil) Tryz.func128 rfl rfl (by kernel_rfl) ?_
  intro C x hE hnl hfit hpre
  simp only [Tryz.ntmps128, Tryz.results128, maxLen, Nat.reduceSub, Nat.reducePow, Nat.reduceAdd, Int.cast_ofNat_Int, push_cast] at hnl hfit hpre ⊢
  obtain ⟨(b : ByteArray), _⟩ := x
  dsimp only at hfit hpre ⊢
  have h1 : 1 ≤ nlS.size := Nat.le_refl _
  have h2 := zNZ b nlS
  have h3 := zEu (trimV b nlS) nlS h1
  have h4 := zH0 (trimV b nlS) nlS _ (zAw ByteArray.empty (show (((zAP (trimV b nlS) nlS).length : Int) - 1).toNat < (zAP (trimV b nlS) nlS).length by omega))
  have h5 := zOD ((zAP (trimV b nlS) nlS).getD (((zAP (trimV b nlS) nlS).length : Int) - 1).toNat ByteArray.empty) spS
  have h6 := zHZ (trimV b nlS) nlS h1
  replace hnl := And.intro hnl (And.intro zRW zML)
  cases hA : zDJ (cut1 ((zAP (trimV b nlS) nlS).getD (((zAP (trimV b nlS) nlS).length : Int) - 1).toNat ByteArray.empty) spS) with
  | true =>
    replace hnl := And.intro hnl hA
    repeat' (first|(refine goK (by assumption) ?_; iterate 4 (try clear hK K))|(refine zAd fun K hK => ?_)|((first|refine zAb hE rfl ?_|refine zAh ?_|((first|refine zAa hE 1 rfl rfl (by kernel_rfl) ?_|refine zAa hE 2 rfl rfl (by kernel_rfl) ?_|refine zAa hE 3 rfl rfl (by kernel_rfl) ?_|refine zAa hE 4 rfl rfl (by kernel_rfl) ?_); simp only [List.length_cons, List.length_nil, Nat.reduceAdd, Nat.reduceSub, List.take_succ_cons, List.take_zero, List.drop_succ_cons, List.drop_zero])); simp +contextual only [hnl, ↓kN, ↓kP, ↓kG, ↓qN, ↓qP, ↓qG, push_cast, seval, reduceCtorEq, Int.cast_ofNat_Int])|refine zAc ?_|((first|refine zAg ?_|refine zAf ?_); simp only [thenQ, zAk, if_true, if_false, Nat.reduceEqDiff, reduceCtorEq])|(refine zAe (by rfl) (fun hb => ?_) (fun hb => ?_) <;> (try simp only [b1, b2, b3, b4, reduceCtorEq, b5, b6] at hb) <;> (try omega))|refine zAi (by rfl) ?_ ?_|refine andS ?_|(refine ⟨fun hc => ?_, fun hc => ?_⟩)|(intro hc; try omega))
    rfl
  | false =>
    replace hnl := And.intro hnl hA
    repeat' (first|(refine goK (by assumption) ?_; iterate 4 (try clear hK K))|(refine zAd fun K hK => ?_)|((first|refine zAb hE rfl ?_|refine zAh ?_|((first|refine zAa hE 1 rfl rfl (by kernel_rfl) ?_|refine zAa hE 2 rfl rfl (by kernel_rfl) ?_|refine zAa hE 3 rfl rfl (by kernel_rfl) ?_|refine zAa hE 4 rfl rfl (by kernel_rfl) ?_); simp only [List.length_cons, List.length_nil, Nat.reduceAdd, Nat.reduceSub, List.take_succ_cons, List.take_zero, List.drop_succ_cons, List.drop_zero])); simp +contextual only [hnl, ↓kN, ↓kP, ↓kG, ↓qN, ↓qP, ↓qG, push_cast, seval, reduceCtorEq, Int.cast_ofNat_Int])|refine zAc ?_|((first|refine zAg ?_|refine zAf ?_); simp only [thenQ, zAk, if_true, if_false, Nat.reduceEqDiff, reduceCtorEq])|(refine zAe (by rfl) (fun hb => ?_) (fun hb => ?_) <;> (try simp only [b1, b2, b3, b4, reduceCtorEq, b5, b6] at hb) <;> (try omega))|refine zAi (by rfl) ?_ ?_|refine andS ?_|(refine ⟨fun hc => ?_, fun hc => ?_⟩)|(intro hc; try omega))
    rfl
def textV (least : Int) (order : ByteArray) : ByteArray := itoaV least ++ spS ++ order
def zC9 (book : ByteArray) (least : Int) (order : ByteArray) : ByteArray := book ++ itoaV (sumV (lastV book) (textV least order)) ++ spS ++ textV least order ++ nlS
structure WrPre (book : ByteArray) (least : Int) (order : ByteArray) : Prop where
  book : book.size ≤ 100000
  least : InR least
  order : order.size ≤ 1000
@[push_cast] def zEB : Con := ⟨[.dat .str, .dat .int, .dat .str], fun (x : ByteArray × Int × ByteArray × Unit) => WrPre x.1 x.2.1 x.2.2.1, fun (x : ByteArray × Int × ByteArray × Unit) => { res := [.val .str (zC9 x.1 x.2.1 x.2.2.1)] }⟩
theorem zBt (a b : ByteArray) : (a ++ b).size = a.size + b.size := ByteArray.size_append
theorem zKB : FnSpec Tryz.prog 80 zEB := by
  refine FnSpec.of_tri' (E := know [(125, zLb), (128, zPb), (19, zFO)] [] [] []) (zAm (all_cons zJv (all_cons zPc (all_cons zFB all_nil))) all_nil all_nil) Tryz.func80 rfl rfl (by kernel_rfl) ?_
  intro C x hE hnl hfit hpre
  simp only [Tryz.ntmps80, Tryz.results80, maxLen, Nat.reduceSub, Nat.reducePow, Nat.reduceAdd, Int.cast_ofNat_Int, push_cast] at hnl hfit hpre ⊢
  obtain ⟨(book : ByteArray), (least : Int), (order : ByteArray), _⟩ := x
  dsimp only at hfit hpre ⊢
  obtain ⟨hb1, hb2, hb3⟩ := hpre
  have h1 := zEg hb2
  have h2 : nlS.size = 1 := rfl
  have h3 : spS.size = 1 := rfl
  have h4 : (textV least order).size = (itoaV least).size + 1 + order.size := by unfold textV; rw [zBt, zBt]; rfl
  have h5 := zCG (lastV book) (textV least order) (textV least order).size
  have h6 : InR (sumV (lastV book) (textV least order)) := by unfold InR sumV; omega
  have h7 := zEg h6
  have hT : itoaV least ++ spS ++ order = textV least order := rfl
  have h8 : (itoaV least ++ spS).size = (itoaV least).size + 1 := zBt _ _
  have h9 : (book ++ itoaV (sumV (lastV book) (textV least order))).size = book.size + (itoaV (sumV (lastV book) (textV least order))).size := zBt _ _
  have h10 : (book ++ itoaV (sumV (lastV book) (textV least order)) ++ spS).size = book.size + (itoaV (sumV (lastV book) (textV least order))).size + 1 := by rw [zBt, h9]; rfl
  have h11 : (book ++ itoaV (sumV (lastV book) (textV least order)) ++ spS ++ textV least order).size = book.size + (itoaV (sumV (lastV book) (textV least order))).size + 1 + (textV least order).size := by rw [zBt, h10]
  have h12 : book.size ≤ 100000 := hb1
  replace hnl := And.intro hnl (And.intro zRW (And.intro zML (And.intro hT (And.intro h2 (And.intro h3 (And.intro h8 (And.intro h9 (And.intro h10 h11))))))))
  repeat' (first|(refine goK (by assumption) ?_; iterate 4 (try clear hK K))|(refine zAd fun K hK => ?_)|((first|refine zAb hE rfl ?_|refine zAh ?_|((first|refine zAa hE 1 rfl rfl (by kernel_rfl) ?_|refine zAa hE 2 rfl rfl (by kernel_rfl) ?_|refine zAa hE 3 rfl rfl (by kernel_rfl) ?_|refine zAa hE 4 rfl rfl (by kernel_rfl) ?_); simp only [List.length_cons, List.length_nil, Nat.reduceAdd, Nat.reduceSub, List.take_succ_cons, List.take_zero, List.drop_succ_cons, List.drop_zero])); simp +contextual only [hnl, ↓kN, ↓kP, ↓kG, ↓qN, ↓qP, ↓qG, push_cast, seval, reduceCtorEq, Int.cast_ofNat_Int])|refine zAc ?_|((first|refine zAg ?_|refine zAf ?_); simp only [thenQ, zAk, if_true, if_false, Nat.reduceEqDiff, reduceCtorEq])|(refine zAe (by rfl) (fun hb => ?_) (fun hb => ?_) <;> (try simp only [b1, b2, b3, b4, reduceCtorEq, b5, b6] at hb) <;> (try omega))|refine zAi (by rfl) ?_ ?_|refine andS ?_|(refine ⟨fun hc => ?_, fun hc => ?_⟩)|(intro hc; try omega))
  all_goals rfl
end Go.Proofs.YtlgkplnifaoeeaaGreatDoor
namespace Go.Proofs.YtlgkplnifaoeeaaGreatDoor
open Go.RowKit Go.VS
theorem zF2 : FnSpec Tryz.prog 62 zBc := by
  refine FnSpec.of_tri' (E := know [] [] [] []) (zAm all_nil all_nil all_nil) Tryz.func62 rfl rfl (by kernel_rfl) ?_
  intro C x hE hnl hfit hpre
  simp only [Tryz.ntmps62, Tryz.results62, maxLen, Nat.reduceSub, Nat.reducePow, Nat.reduceAdd, Int.cast_ofNat_Int, push_cast] at hnl hfit hpre ⊢
  obtain ⟨(n : Int), (lo : Int), (hi : Int), _⟩ := x
  dsimp only at hfit hpre ⊢
  repeat' (first|(refine goK (by assumption) ?_; iterate 4 (try clear hK K))|(refine zAd fun K hK => ?_)|((first|refine zAb hE rfl ?_|refine zAh ?_|((first|refine zAa hE 1 rfl rfl (by kernel_rfl) ?_|refine zAa hE 2 rfl rfl (by kernel_rfl) ?_|refine zAa hE 3 rfl rfl (by kernel_rfl) ?_|refine zAa hE 4 rfl rfl (by kernel_rfl) ?_); simp only [List.length_cons, List.length_nil, Nat.reduceAdd, Nat.reduceSub, List.take_succ_cons, List.take_zero, List.drop_succ_cons, List.drop_zero])); simp +contextual only [hnl, ↓kN, ↓kP, ↓kG, ↓qN, ↓qP, ↓qG, push_cast, seval, reduceCtorEq, Int.cast_ofNat_Int])|refine zAc ?_|((first|refine zAg ?_|refine zAf ?_); simp only [thenQ, zAk, if_true, if_false, Nat.reduceEqDiff, reduceCtorEq])|(refine zAe (by rfl) (fun hb => ?_) (fun hb => ?_) <;> (try simp only [b1, b2, b3, b4, reduceCtorEq, b5, b6] at hb) <;> (try omega))|refine zAi (by rfl) ?_ ?_|refine andS ?_|(refine ⟨fun hc => ?_, fun hc => ?_⟩)|(intro hc; try omega))
  all_goals first | omega | (simp only [decide_eq_decide]; omega) | (simp only [hc, decide_true, decide_false, Bool.true_or, Bool.false_or]; done) | (simp; done) | (simp; omega) | (simp [*]; done) | (simp [*]; omega)
def rPic (l : List Int) (n : Int) : Bool := decide (1 ≤ l.length ∧ l.length ≤ 40) && l.all fun c => decide (0 ≤ c ∧ c < n)
theorem zIN {l : List Int} {n : Int} : rPic l n = true ↔ (1 ≤ l.length ∧ l.length ≤ 40) ∧ ∀ c ∈ l, 0 ≤ c ∧ c < n := by
  simp only [rPic, Bool.and_eq_true, decide_eq_true_eq, List.all_eq_true]
theorem zGY {l : List Int} {n : Int} (h : n ≤ 5) : rPic l n = okPic l n := by
  rw [Bool.eq_iff_iff, zIN, zBp]
  exact ⟨fun ⟨a, b⟩ => ⟨a, fun c hc => by have := b c hc; omega⟩, fun ⟨a, b⟩ => ⟨a, fun c hc => by have := b c hc; omega⟩⟩
theorem zPU {l : List Int} {n : Int} (h : ¬ ((1 ≤ l.length ∧ l.length ≤ 40) ∧ ∀ c ∈ l, 0 ≤ c ∧ c < n)) : rPic l n = false := by
  rw [Bool.eq_false_iff]
  exact fun h2 => h (zIN.1 h2)
@[push_cast] def zIM : Con := ⟨[.dat (.sl .int), .dat .int], fun (x : List Int × Int × Unit) => -1000000 ≤ x.2.1 ∧ x.2.1 ≤ 1000000, fun (x : List Int × Int × Unit) => { res := [.val .bool (rPic x.1 x.2.1)] }⟩
theorem zGZ : FnSpec Tryz.prog 63 zIM := by
  refine FnSpec.of_tri' (E := know [(62, zBc)] [] [] []) (zAm (all_cons zF2 all_nil) all_nil all_nil) Tryz.func63 rfl rfl (by kernel_rfl) ?_
  intro C x hE hnl hfit hpre
  simp only [Tryz.ntmps63, Tryz.results63, maxLen, Nat.reduceSub, Nat.reducePow, Nat.reduceAdd, Int.cast_ofNat_Int, push_cast] at hnl hfit hpre ⊢
  obtain ⟨(l : List Int), (n : Int), _⟩ := x
  dsimp only at hfit hpre ⊢
  by_cases h1 : 1 ≤ l.length ∧ l.length ≤ 40
  rotate_left
  · have e := zPU (l := l) (n := n) (fun h => h1 h.1)
    replace hnl := And.intro hnl e
    exact auB
  repeat' (first|(refine goK (by assumption) ?_; iterate 4 (try clear hK K))|(refine zAd fun K hK => ?_)|((first|refine zAb hE rfl ?_|refine zAh ?_|((first|refine zAa hE 1 rfl rfl (by kernel_rfl) ?_|refine zAa hE 2 rfl rfl (by kernel_rfl) ?_|refine zAa hE 3 rfl rfl (by kernel_rfl) ?_|refine zAa hE 4 rfl rfl (by kernel_rfl) ?_); simp only [List.length_cons, List.length_nil, Nat.reduceAdd, Nat.reduceSub, List.take_succ_cons, List.take_zero, List.drop_succ_cons, List.drop_zero])); simp +contextual only [hnl, ↓kN, ↓kP, ↓kG, ↓qN, ↓qP, ↓qG, push_cast, seval, reduceCtorEq, Int.cast_ofNat_Int])|refine zAc ?_|((first|refine zAg ?_|refine zAf ?_); simp only [thenQ, zAk, if_true, if_false, Nat.reduceEqDiff, reduceCtorEq])|(refine zAe (by rfl) (fun hb => ?_) (fun hb => ?_) <;> (try simp only [b1, b2, b3, b4, reduceCtorEq, b5, b6] at hb) <;> (try omega))|refine zAi (by rfl) ?_ ?_|refine andS ?_|(refine ⟨fun hc => ?_, fun hc => ?_⟩)|(intro hc; try omega))
  refine zAl (fun k : Nat => AS.of [(0, .one (.val (.sl .int) l)), (1, .one (.val .int n)), (5, .I k)] [] []) (fun k => k ≤ l.length ∧ ∀ i, i < k → 0 ≤ l.getD i 0 ∧ l.getD i 0 < n) (fun k => l.length - k) 0 ⟨Nat.zero_le _, by omega⟩ ?_ ?_
  · refine zAj ?_ ?_ ?_ <;> simp only [push_cast, seval, reduceCtorEq, Int.cast_ofNat_Int]
  intro k ⟨hk, hall⟩ K' hL
  rcases Nat.lt_or_ge k l.length with hkl | hkl
  · by_cases h2 : 0 ≤ l.getD k 0 ∧ l.getD k 0 < n
    · repeat' (first|(refine goK (by assumption) ?_; iterate 4 (try clear hK K))|(refine zAd fun K hK => ?_)|((first|refine zAb hE rfl ?_|refine zAh ?_|((first|refine zAa hE 1 rfl rfl (by kernel_rfl) ?_|refine zAa hE 2 rfl rfl (by kernel_rfl) ?_|refine zAa hE 3 rfl rfl (by kernel_rfl) ?_|refine zAa hE 4 rfl rfl (by kernel_rfl) ?_); simp only [List.length_cons, List.length_nil, Nat.reduceAdd, Nat.reduceSub, List.take_succ_cons, List.take_zero, List.drop_succ_cons, List.drop_zero])); simp +contextual only [hnl, ↓kN, ↓kP, ↓kG, ↓qN, ↓qP, ↓qG, push_cast, seval, reduceCtorEq, Int.cast_ofNat_Int])|refine zAc ?_|((first|refine zAg ?_|refine zAf ?_); simp only [thenQ, zAk, if_true, if_false, Nat.reduceEqDiff, reduceCtorEq])|(refine zAe (by rfl) (fun hb => ?_) (fun hb => ?_) <;> (try simp only [b1, b2, b3, b4, reduceCtorEq, b5, b6] at hb) <;> (try omega))|refine zAi (by rfl) ?_ ?_|refine andS ?_|(refine ⟨fun hc => ?_, fun hc => ?_⟩)|(intro hc; try omega))
      refine hL _ (k + 1) ⟨by omega, fun i hi => ?_⟩ (by omega) ?_
      · rcases Nat.lt_or_ge i k with h3 | h3
        · exact hall i h3
        · obtain rfl : i = k := by omega
          exact h2
      refine zAj ?_ ?_ ?_ <;> simp only [push_cast, seval, reduceCtorEq, Int.cast_ofNat_Int]
    · have e := zPU (l := l) (n := n) (fun h => h2 (h.2 _ (zAw 0 hkl)))
      replace hnl := And.intro hnl e
      exact auB
  · obtain rfl : k = l.length := by omega
    have e : rPic l n = true := zIN.2 ⟨h1, fun c hc => by
      obtain ⟨i, hi, rfl⟩ := List.getElem_of_mem hc
      have := hall i hi
      rwa [List.getD_eq_getElem?_getD, List.getElem?_eq_getElem hi] at this⟩
    replace hnl := And.intro hnl e
    exact auB
theorem zFV : FnSpec Tryz.prog 64 zHR := by
  refine FnSpec.of_tri' (E := know [] [] [] []) (zAm all_nil all_nil all_nil) Tryz.func64 rfl rfl (by kernel_rfl) ?_
  intro C x hE hnl hfit hpre
  simp only [Tryz.ntmps64, Tryz.results64, maxLen, Nat.reduceSub, Nat.reducePow, Nat.reduceAdd, Int.cast_ofNat_Int, push_cast] at hnl hfit hpre ⊢
  obtain ⟨(l : List Int), (n : Int), _⟩ := x
  dsimp only at hfit hpre ⊢
  obtain ⟨⟨hn0, hn1⟩, hl, hat⟩ := hpre
  obtain ⟨m, rfl⟩ : ∃ m : Nat, n = m := ⟨n.toNat, by omega⟩
  repeat' (first|(refine goK (by assumption) ?_; iterate 4 (try clear hK K))|(refine zAd fun K hK => ?_)|((first|refine zAb hE rfl ?_|refine zAh ?_|((first|refine zAa hE 1 rfl rfl (by kernel_rfl) ?_|refine zAa hE 2 rfl rfl (by kernel_rfl) ?_|refine zAa hE 3 rfl rfl (by kernel_rfl) ?_|refine zAa hE 4 rfl rfl (by kernel_rfl) ?_); simp only [List.length_cons, List.length_nil, Nat.reduceAdd, Nat.reduceSub, List.take_succ_cons, List.take_zero, List.drop_succ_cons, List.drop_zero])); simp +contextual only [hnl, ↓kN, ↓kP, ↓kG, ↓qN, ↓qP, ↓qG, push_cast, seval, reduceCtorEq, Int.cast_ofNat_Int])|refine zAc ?_|((first|refine zAg ?_|refine zAf ?_); simp only [thenQ, zAk, if_true, if_false, Nat.reduceEqDiff, reduceCtorEq])|(refine zAe (by rfl) (fun hb => ?_) (fun hb => ?_) <;> (try simp only [b1, b2, b3, b4, reduceCtorEq, b5, b6] at hb) <;> (try omega))|refine zAi (by rfl) ?_ ?_|refine andS ?_|(refine ⟨fun hc => ?_, fun hc => ?_⟩)|(intro hc; try omega))
  refine zAl (fun k : Nat => AS.of [(0, .one (.val (.sl .int) l)), (5, .one (.ref 8)), (6, .I k)] [(8, .flat 3 .int (palV (l.take k) m))] []) (fun k => k ≤ l.length) (fun k => l.length - k) 0 (Nat.zero_le _) ?_ ?_
  · refine zAj ?_ ?_ ?_ <;> simp only [push_cast, seval, reduceCtorEq, Int.cast_ofNat_Int]
    simp [palV, cntV, zDk]
  intro k hk K' hL
  by_cases hkl : k < l.length
  · have h1 := hat _ (zAw 0 hkl)
    have h2 : (l.getD k 0).toNat < m := by omega
    have h3 : (palV (l.take k) m).getD (l.getD k 0).toNat 0 = cntV (l.getD k 0) (l.take k) := by
      unfold palV
      rw [zCa _ _ h2, Int.toNat_of_nonneg h1.1]
    have h4 := zCJ (l.getD k 0) (l.take k)
    have h5 : (l.take k).length ≤ 1000 := by rw [List.length_take]; omega
    have h6 := zJR (n := m) hkl h1.1
    have h7 : (palV (l.take k) m).length = m := zBK _ _
    replace hnl := And.intro hnl h7
    repeat' (first|(refine goK (by assumption) ?_; iterate 4 (try clear hK K))|(refine zAd fun K hK => ?_)|((first|refine zAb hE rfl ?_|refine zAh ?_|((first|refine zAa hE 1 rfl rfl (by kernel_rfl) ?_|refine zAa hE 2 rfl rfl (by kernel_rfl) ?_|refine zAa hE 3 rfl rfl (by kernel_rfl) ?_|refine zAa hE 4 rfl rfl (by kernel_rfl) ?_); simp only [List.length_cons, List.length_nil, Nat.reduceAdd, Nat.reduceSub, List.take_succ_cons, List.take_zero, List.drop_succ_cons, List.drop_zero])); simp +contextual only [hnl, ↓kN, ↓kP, ↓kG, ↓qN, ↓qP, ↓qG, push_cast, seval, reduceCtorEq, Int.cast_ofNat_Int])|refine zAc ?_|((first|refine zAg ?_|refine zAf ?_); simp only [thenQ, zAk, if_true, if_false, Nat.reduceEqDiff, reduceCtorEq])|(refine zAe (by rfl) (fun hb => ?_) (fun hb => ?_) <;> (try simp only [b1, b2, b3, b4, reduceCtorEq, b5, b6] at hb) <;> (try omega))|refine zAi (by rfl) ?_ ?_|refine andS ?_|(refine ⟨fun hc => ?_, fun hc => ?_⟩)|(intro hc; try omega))
    refine hL _ (k + 1) (by omega) (by omega) ?_
    refine zAj ?_ ?_ ?_ <;> simp only [push_cast, seval, reduceCtorEq, Int.cast_ofNat_Int]
    exact .inl (congrArg _ h6)
  · obtain rfl : k = l.length := by omega
    rw [List.take_length]
    exact auB
theorem zSt {l : List Int} {i : Nat} (hi : i < l.length) {m : Int} (h : m < l.getD i 0) : m < maxV l := by
  have := zPq (l := l) (k := l.length - 1) (i := i) (by omega)
  unfold maxV
  omega
theorem zSu {l : List Int} {m : Int} (hp : 0 < l.length) (h : ∀ i, i < l.length → l.getD i 0 ≤ m) : ¬ m < maxV l := by
  intro h2
  obtain ⟨i, h3, h4⟩ := zPr h2
  have := h i (by omega)
  omega
theorem zIL : FnSpec Tryz.prog 22 zI7 := by
  refine FnSpec.of_tri' (E := know [(62, zBc), (63, zIM), (64, zHR)] [] [] []) (zAm (all_cons zF2 (all_cons zGZ (all_cons zFV all_nil))) all_nil all_nil) Tryz.func22 rfl rfl (by kernel_rfl) ?_
  intro C x hE hnl hfit hpre
  simp only [Tryz.ntmps22, Tryz.results22, maxLen, Nat.reduceSub, Nat.reducePow, Nat.reduceAdd, Int.cast_ofNat_Int, push_cast] at hnl hfit hpre ⊢
  obtain ⟨(l : List Int), (n : Int), _⟩ := x
  dsimp only at hfit hpre ⊢
  by_cases h : 1 ≤ n ∧ n ≤ 5 ∧ okPic l n = true
  rotate_left
  · have he := zL8 h
    by_cases h1 : 1 ≤ n ∧ n ≤ 5
    · have e2 : rPic l n = false := by
        rw [zGY h1.2, Bool.eq_false_iff]
        exact fun h2 => h ⟨h1.1, h1.2, h2⟩
      replace hnl := And.intro hnl (And.intro he e2)
      exact auB
    · replace hnl := And.intro hnl he
      exact auB
  obtain ⟨h1, h2, h3⟩ := h
  obtain ⟨⟨g1, g2⟩, g3⟩ := zBp.1 h3
  have hp : PalPre l n := ⟨by omega, by omega, fun c hc => by have := g3 c hc; omega⟩
  have h4 : rPic l n = true := by rw [zGY h2]; exact h3
  obtain ⟨m, rfl⟩ : ∃ m : Nat, n = m := ⟨n.toNat, by omega⟩
  have h5 : (palV l m).length = m := zGt _ _
  replace hnl := And.intro hnl (And.intro h4 (And.intro (eq_true hp) h5))
  repeat' (first|(refine goK (by assumption) ?_; iterate 4 (try clear hK K))|(refine zAd fun K hK => ?_)|((first|refine zAb hE rfl ?_|refine zAh ?_|((first|refine zAa hE 1 rfl rfl (by kernel_rfl) ?_|refine zAa hE 2 rfl rfl (by kernel_rfl) ?_|refine zAa hE 3 rfl rfl (by kernel_rfl) ?_|refine zAa hE 4 rfl rfl (by kernel_rfl) ?_); simp only [List.length_cons, List.length_nil, Nat.reduceAdd, Nat.reduceSub, List.take_succ_cons, List.take_zero, List.drop_succ_cons, List.drop_zero])); simp +contextual only [hnl, ↓kN, ↓kP, ↓kG, ↓qN, ↓qP, ↓qG, push_cast, seval, reduceCtorEq, Int.cast_ofNat_Int])|refine zAc ?_|((first|refine zAg ?_|refine zAf ?_); simp only [thenQ, zAk, if_true, if_false, Nat.reduceEqDiff, reduceCtorEq])|(refine zAe (by rfl) (fun hb => ?_) (fun hb => ?_) <;> (try simp only [b1, b2, b3, b4, reduceCtorEq, b5, b6] at hb) <;> (try omega))|refine zAi (by rfl) ?_ ?_|refine andS ?_|(refine ⟨fun hc => ?_, fun hc => ?_⟩)|(intro hc; try omega))
  refine zAl (fun k : Nat => AS.of [(1, .one (.val .int (m : Int))), (6, .one (.ref 19)), (7, .I k)] [(19, .flat 3 .int (palV l m))] []) (fun k => k ≤ m ∧ ∀ i, i < k → (palV l m).getD i 0 ≤ 30) (fun k => m - k) 0 ⟨Nat.zero_le _, by omega⟩ ?_ ?_
  · refine zAj ?_ ?_ ?_ <;> simp only [push_cast, seval, reduceCtorEq, Int.cast_ofNat_Int]
  intro k ⟨hk, hall⟩ K' hL
  rcases Nat.lt_or_ge k m with hkm | hkm
  · by_cases h6 : 30 < (palV l m).getD k 0
    · have he := zL9 (l := l) (n := (m : Int)) ⟨h1, h2, h3⟩ (by rw [Int.toNat_natCast]; exact zSt (by omega) h6)
      replace hnl := And.intro hnl he
      exact auB
    · repeat' (first|(refine goK (by assumption) ?_; iterate 4 (try clear hK K))|(refine zAd fun K hK => ?_)|((first|refine zAb hE rfl ?_|refine zAh ?_|((first|refine zAa hE 1 rfl rfl (by kernel_rfl) ?_|refine zAa hE 2 rfl rfl (by kernel_rfl) ?_|refine zAa hE 3 rfl rfl (by kernel_rfl) ?_|refine zAa hE 4 rfl rfl (by kernel_rfl) ?_); simp only [List.length_cons, List.length_nil, Nat.reduceAdd, Nat.reduceSub, List.take_succ_cons, List.take_zero, List.drop_succ_cons, List.drop_zero])); simp +contextual only [hnl, ↓kN, ↓kP, ↓kG, ↓qN, ↓qP, ↓qG, push_cast, seval, reduceCtorEq, Int.cast_ofNat_Int])|refine zAc ?_|((first|refine zAg ?_|refine zAf ?_); simp only [thenQ, zAk, if_true, if_false, Nat.reduceEqDiff, reduceCtorEq])|(refine zAe (by rfl) (fun hb => ?_) (fun hb => ?_) <;> (try simp only [b1, b2, b3, b4, reduceCtorEq, b5, b6] at hb) <;> (try omega))|refine zAi (by rfl) ?_ ?_|refine andS ?_|(refine ⟨fun hc => ?_, fun hc => ?_⟩)|(intro hc; try omega))
      refine hL _ (k + 1) ⟨by omega, fun i hi => ?_⟩ (by omega) ?_
      · rcases Nat.lt_or_ge i k with h7 | h7
        · exact hall i h7
        · obtain rfl : i = k := by omega
          omega
      refine zAj ?_ ?_ ?_ <;> simp only [push_cast, seval, reduceCtorEq, Int.cast_ofNat_Int]
  · obtain rfl : k = m := by omega
    have he := zL7 (l := l) (n := (k : Int)) ⟨h1, h2, h3⟩ (by rw [Int.toNat_natCast]; exact zSu (by omega) (fun i hi => hall i (by omega)))
    replace hnl := And.intro hnl he
    exact auB
end Go.Proofs.YtlgkplnifaoeeaaGreatDoor
namespace Go.Proofs.YtlgkplnifaoeeaaGreatDoor
open Go.RowKit Go.VS
theorem zSH {l : List Int} {p : List (List Int)} (h : ∀ i, i < p.length → lsum (p.getD i []) = (palV l p.length).getD i 0) : rowsP p = palV l p.length := by
  refine zFw 0 (by rw [zGt, rowsP, List.length_map]) fun i hi => ?_
  rw [rowsP, List.length_map] at hi
  rw [← h i hi, rowsP, List.getD_eq_getElem?_getD, List.getElem?_map, List.getElem?_eq_getElem hi, List.getD_eq_getElem?_getD, List.getElem?_eq_getElem hi]
  rfl
theorem zSI {l : List Int} {p : List (List Int)} {i : Nat} (hi : i < p.length) (h : ¬ lsum (p.getD i []) = (palV l p.length).getD i 0) : ¬ rowsP p = palV l p.length := by
  intro h2
  refine h ?_
  rw [zFJ h2 hi]
  unfold palV
  exact (zCa (fun c => cntV (c : Int) l) 0 hi).symm
set_option maxRecDepth 10000 in
theorem zLr : FnSpec Tryz.prog 26 zFg := by
  refine FnSpec.of_tri' (E := know [(69, zGX), (63, zIM), (64, zHR), (70, zGw), (71, zOC)] [] [] []) (zAm (all_cons zNL (all_cons zGZ (all_cons zFV (all_cons zLq (all_cons zNG all_nil))))) all_nil all_nil) Tryz.func26 rfl rfl (by kernel_rfl) ?_
  intro C x hE hnl hfit hpre
  simp only [Tryz.ntmps26, Tryz.results26, maxLen, Nat.reduceSub, Nat.reducePow, Nat.reduceAdd, Int.cast_ofNat_Int, push_cast] at hnl hfit hpre ⊢
  obtain ⟨(l : List Int), (p : List (List Int)), _⟩ := x
  dsimp only at hfit hpre ⊢
  rcases zFy p with he | he
  rotate_left
  · replace hnl := And.intro hnl (And.intro he (zHx (l := l) he))
    exact auB
  have hin := zEd he
  have hrows := hin.rows
  have hcols := hin.cols
  have hro := zGY (l := l) (n := (p.length : Int)) (by omega)
  cases hpi : okPic l p.length with
  | false =>
    replace hnl := And.intro hnl (And.intro he (And.intro (hro.trans hpi) (zHy he hpi)))
    repeat' (first|(refine goK (by assumption) ?_; iterate 4 (try clear hK K))|(refine zAd fun K hK => ?_)|((first|refine zAb hE rfl ?_|refine zAh ?_|((first|refine zAa hE 1 rfl rfl (by kernel_rfl) ?_|refine zAa hE 2 rfl rfl (by kernel_rfl) ?_|refine zAa hE 3 rfl rfl (by kernel_rfl) ?_|refine zAa hE 4 rfl rfl (by kernel_rfl) ?_); simp only [List.length_cons, List.length_nil, Nat.reduceAdd, Nat.reduceSub, List.take_succ_cons, List.take_zero, List.drop_succ_cons, List.drop_zero])); simp +contextual only [hnl, ↓kN, ↓kP, ↓kG, ↓qN, ↓qP, ↓qG, push_cast, seval, reduceCtorEq, Int.cast_ofNat_Int])|refine zAc ?_|((first|refine zAg ?_|refine zAf ?_); simp only [thenQ, zAk, if_true, if_false, Nat.reduceEqDiff, reduceCtorEq])|(refine zAe (by rfl) (fun hb => ?_) (fun hb => ?_) <;> (try simp only [b1, b2, b3, b4, reduceCtorEq, b5, b6] at hb) <;> (try omega))|refine zAi (by rfl) ?_ ?_|refine andS ?_|(refine ⟨fun hc => ?_, fun hc => ?_⟩)|(intro hc; try omega))
  | true =>
  obtain ⟨⟨g1, g2⟩, g3⟩ := zBp.1 hpi
  have hp : PalPre l p.length := ⟨by omega, by omega, fun c hc => by have := g3 c hc; omega⟩
  have hsm := hin.small
  have hpl : (palV l p.length).length = p.length := zGt _ _
  replace hnl := And.intro hnl (And.intro he (And.intro (hro.trans hpi) (And.intro (eq_true hp) (And.intro (eq_true hsm) hpl))))
  repeat' (first|(refine goK (by assumption) ?_; iterate 4 (try clear hK K))|(refine zAd fun K hK => ?_)|((first|refine zAb hE rfl ?_|refine zAh ?_|((first|refine zAa hE 1 rfl rfl (by kernel_rfl) ?_|refine zAa hE 2 rfl rfl (by kernel_rfl) ?_|refine zAa hE 3 rfl rfl (by kernel_rfl) ?_|refine zAa hE 4 rfl rfl (by kernel_rfl) ?_); simp only [List.length_cons, List.length_nil, Nat.reduceAdd, Nat.reduceSub, List.take_succ_cons, List.take_zero, List.drop_succ_cons, List.drop_zero])); simp +contextual only [hnl, ↓kN, ↓kP, ↓kG, ↓qN, ↓qP, ↓qG, push_cast, seval, reduceCtorEq, Int.cast_ofNat_Int])|refine zAc ?_|((first|refine zAg ?_|refine zAf ?_); simp only [thenQ, zAk, if_true, if_false, Nat.reduceEqDiff, reduceCtorEq])|(refine zAe (by rfl) (fun hb => ?_) (fun hb => ?_) <;> (try simp only [b1, b2, b3, b4, reduceCtorEq, b5, b6] at hb) <;> (try omega))|refine zAi (by rfl) ?_ ?_|refine andS ?_|(refine ⟨fun hc => ?_, fun hc => ?_⟩)|(intro hc; try omega))
  refine zAl (fun i : Nat => AS.of [(0, .one (.val (.sl .int) l)), (1, .one (.val (.sl (.sl .int)) p)), (7, .one (.ref 26)), (8, .I i)] [(26, .flat 3 .int (palV l p.length))] []) (fun i => i ≤ p.length ∧ ∀ i', i' < i → lsum (p.getD i' []) = (palV l p.length).getD i' 0) (fun i => p.length - i) 0 ⟨Nat.zero_le _, by omega⟩ ?_ ?_
  · refine zAj ?_ ?_ ?_ <;> simp only [push_cast, seval, reduceCtorEq, Int.cast_ofNat_Int]
  intro i ⟨hi, hall⟩ K' hL
  rcases Nat.lt_or_ge i p.length with hil | hil
  · have hT : ∀ k, InR (lsum ((p.getD i []).take k)) := fun k => by have := hin.sumR hil k; unfold InR; omega
    by_cases h1 : lsum (p.getD i []) = (palV l p.length).getD i 0
    · replace hnl := And.intro hnl (eq_true hT)
      repeat' (first|(refine goK (by assumption) ?_; iterate 4 (try clear hK K))|(refine zAd fun K hK => ?_)|((first|refine zAb hE rfl ?_|refine zAh ?_|((first|refine zAa hE 1 rfl rfl (by kernel_rfl) ?_|refine zAa hE 2 rfl rfl (by kernel_rfl) ?_|refine zAa hE 3 rfl rfl (by kernel_rfl) ?_|refine zAa hE 4 rfl rfl (by kernel_rfl) ?_); simp only [List.length_cons, List.length_nil, Nat.reduceAdd, Nat.reduceSub, List.take_succ_cons, List.take_zero, List.drop_succ_cons, List.drop_zero])); simp +contextual only [hnl, ↓kN, ↓kP, ↓kG, ↓qN, ↓qP, ↓qG, push_cast, seval, reduceCtorEq, Int.cast_ofNat_Int])|refine zAc ?_|((first|refine zAg ?_|refine zAf ?_); simp only [thenQ, zAk, if_true, if_false, Nat.reduceEqDiff, reduceCtorEq])|(refine zAe (by rfl) (fun hb => ?_) (fun hb => ?_) <;> (try simp only [b1, b2, b3, b4, reduceCtorEq, b5, b6] at hb) <;> (try omega))|refine zAi (by rfl) ?_ ?_|refine andS ?_|(refine ⟨fun hc => ?_, fun hc => ?_⟩)|(intro hc; try omega))
      refine hL _ (i + 1) ⟨by omega, fun i' hi' => ?_⟩ (by omega) ?_
      · rcases Nat.lt_or_ge i' i with h3 | h3
        · exact hall i' h3
        · obtain rfl : i' = i := by omega
          exact h1
      refine zAj ?_ ?_ ?_ <;> simp only [push_cast, seval, reduceCtorEq, Int.cast_ofNat_Int]
    · have e5 := zHz he hpi (zSI hil h1)
      replace hnl := And.intro hnl (And.intro e5 (eq_true hT))
      exact auB
  obtain rfl : i = p.length := by omega
  have hrw := zSH hall
  have hz := zHw he hpi hrw
  have hnn : ∀ c, c < p.length → ∀ x ∈ p.getD c [], 0 ≤ x := by
    intro c hc x hx
    obtain ⟨j, hj, rfl⟩ := List.getElem_of_mem hx
    have := hin.at hc (show j < wid p by rw [← hin.row hc]; exact hj)
    rw [List.getD_eq_getElem?_getD (l := p.getD c []), List.getElem?_eq_getElem hj] at this
    exact this.1
  replace hnl := And.intro hnl hz
  repeat' (first|(refine goK (by assumption) ?_; iterate 4 (try clear hK K))|(refine zAd fun K hK => ?_)|((first|refine zAb hE rfl ?_|refine zAh ?_|((first|refine zAa hE 1 rfl rfl (by kernel_rfl) ?_|refine zAa hE 2 rfl rfl (by kernel_rfl) ?_|refine zAa hE 3 rfl rfl (by kernel_rfl) ?_|refine zAa hE 4 rfl rfl (by kernel_rfl) ?_); simp only [List.length_cons, List.length_nil, Nat.reduceAdd, Nat.reduceSub, List.take_succ_cons, List.take_zero, List.drop_succ_cons, List.drop_zero])); simp +contextual only [hnl, ↓kN, ↓kP, ↓kG, ↓qN, ↓qP, ↓qG, push_cast, seval, reduceCtorEq, Int.cast_ofNat_Int])|refine zAc ?_|((first|refine zAg ?_|refine zAf ?_); simp only [thenQ, zAk, if_true, if_false, Nat.reduceEqDiff, reduceCtorEq])|(refine zAe (by rfl) (fun hb => ?_) (fun hb => ?_) <;> (try simp only [b1, b2, b3, b4, reduceCtorEq, b5, b6] at hb) <;> (try omega))|refine zAi (by rfl) ?_ ?_|refine andS ?_|(refine ⟨fun hc => ?_, fun hc => ?_⟩)|(intro hc; try omega))
  refine zAl (fun k : Nat => AS.of [(0, .one (.val (.sl .int) l)), (9, .one (.ref 44)), (10, .one (.ref 79)), (11, .I k)] [(44, .deep 25 3 .int (remV l p k)), (79, .flat 3 .int (tbl k (pixV l p)))] []) (fun k => k ≤ l.length) (fun k => l.length - k) 0 (Nat.zero_le _) ?_ ?_
  · refine zAj ?_ ?_ ?_ <;> simp only [push_cast, seval, reduceCtorEq, Int.cast_ofNat_Int]
    exact ⟨.inl (by rw [zJ1 hnn]), by omega, rfl⟩
  intro k hk K' hL
  rcases Nat.lt_or_ge k l.length with hkl | hkl
  · have h1 := g3 _ (zAw 0 hkl)
    have h2 : (l.getD k 0).toNat < p.length := by omega
    have h3 := zIR (l := l) (p := p) (k := k) h2
    rw [Int.toNat_of_nonneg h1.1] at h3
    have h6 : ((spr (p.getD (l.getD k 0).toNat [])).length : Int) = lsum (p.getD (l.getD k 0).toNat []) := zG9 hin h2
    have h10 := zCJ (l.getD k 0) (l.take k)
    have h7 : cntV (l.getD k 0) (l.take k) + 1 ≤ lsum (p.getD (l.getD k 0).toNat []) := by
      rw [zFJ hrw h2, Int.toNat_of_nonneg h1.1]
      have e1 := zCK (l.getD k 0) hkl
      rw [if_pos rfl] at e1
      have e2 := zCX (l.getD k 0) l (k + 1)
      omega
    have ht : (cntV (l.getD k 0) (l.take k)).toNat < (spr (p.getD (l.getD k 0).toNat [])).length := by omega
    obtain ⟨x, hx1, hx2, hx3⟩ := zLC (zAw 0 ht)
    have hx4 : pixV l p k = (x : Int) := hx2
    have hrl := zIQ (p.getD (l.getD k 0).toNat []) (cntV (l.getD k 0) (l.take k)).toNat
    have hset := zME hkl h1.1 h2 ht hx4 hx1
    have hvl : (remV l p k).length = p.length := zIS
    have hw := hin.row h2
    replace hnl := And.intro hnl (And.intro h3 (And.intro hrl hvl))
    repeat' (first|(refine goK (by assumption) ?_; iterate 4 (try clear hK K))|(refine zAd fun K hK => ?_)|((first|refine zAb hE rfl ?_|refine zAh ?_|((first|refine zAa hE 1 rfl rfl (by kernel_rfl) ?_|refine zAa hE 2 rfl rfl (by kernel_rfl) ?_|refine zAa hE 3 rfl rfl (by kernel_rfl) ?_|refine zAa hE 4 rfl rfl (by kernel_rfl) ?_); simp only [List.length_cons, List.length_nil, Nat.reduceAdd, Nat.reduceSub, List.take_succ_cons, List.take_zero, List.drop_succ_cons, List.drop_zero])); simp +contextual only [hnl, ↓kN, ↓kP, ↓kG, ↓qN, ↓qP, ↓qG, push_cast, seval, reduceCtorEq, Int.cast_ofNat_Int])|refine zAc ?_|((first|refine zAg ?_|refine zAf ?_); simp only [thenQ, zAk, if_true, if_false, Nat.reduceEqDiff, reduceCtorEq])|(refine zAe (by rfl) (fun hb => ?_) (fun hb => ?_) <;> (try simp only [b1, b2, b3, b4, reduceCtorEq, b5, b6] at hb) <;> (try omega))|refine zAi (by rfl) ?_ ?_|refine andS ?_|(refine ⟨fun hc => ?_, fun hc => ?_⟩)|(intro hc; try omega))
    refine zAl (fun j : Nat => AS.of [(0, .one (.val (.sl .int) l)), (9, .one (.ref 44)), (10, .one (.ref 79)), (11, .I k), (12, .I j)] [(44, .deep 25 3 .int (remV l p k)), (79, .flat 3 .int (tbl k (pixV l p)))] []) (fun j => j ≤ x) (fun j => x - j) 0 (Nat.zero_le _) ?_ ?_
    · refine zAj ?_ ?_ ?_ <;> simp only [push_cast, seval, reduceCtorEq, Int.cast_ofNat_Int]
    intro j hj K2 hL2
    have hjr : j < (p.getD (l.getD k 0).toNat []).length := by omega
    have hra := zLt (t := (cntV (l.getD k 0) (l.take k)).toNat) hjr
    rcases Nat.lt_or_ge j x with hjx | hjx
    · have h0 : (remR (p.getD (l.getD k 0).toNat []) (cntV (l.getD k 0) (l.take k)).toNat).getD j 0 = 0 := by rw [hra]; exact zSE ht (by rw [hx2]; omega)
      replace hnl := And.intro hnl h0
      repeat' (first|(refine goK (by assumption) ?_; iterate 4 (try clear hK K))|(refine zAd fun K hK => ?_)|((first|refine zAb hE rfl ?_|refine zAh ?_|((first|refine zAa hE 1 rfl rfl (by kernel_rfl) ?_|refine zAa hE 2 rfl rfl (by kernel_rfl) ?_|refine zAa hE 3 rfl rfl (by kernel_rfl) ?_|refine zAa hE 4 rfl rfl (by kernel_rfl) ?_); simp only [List.length_cons, List.length_nil, Nat.reduceAdd, Nat.reduceSub, List.take_succ_cons, List.take_zero, List.drop_succ_cons, List.drop_zero])); simp +contextual only [hnl, ↓kN, ↓kP, ↓kG, ↓qN, ↓qP, ↓qG, push_cast, seval, reduceCtorEq, Int.cast_ofNat_Int])|refine zAc ?_|((first|refine zAg ?_|refine zAf ?_); simp only [thenQ, zAk, if_true, if_false, Nat.reduceEqDiff, reduceCtorEq])|(refine zAe (by rfl) (fun hb => ?_) (fun hb => ?_) <;> (try simp only [b1, b2, b3, b4, reduceCtorEq, b5, b6] at hb) <;> (try omega))|refine zAi (by rfl) ?_ ?_|refine andS ?_|(refine ⟨fun hc => ?_, fun hc => ?_⟩)|(intro hc; try omega))
      refine hL2 _ (j + 1) (by omega) (by omega) ?_
      refine zAj ?_ ?_ ?_ <;> simp only [push_cast, seval, reduceCtorEq, Int.cast_ofNat_Int]
    · obtain rfl : j = x := by omega
      have h0 : ¬ (remR (p.getD (l.getD k 0).toNat []) (cntV (l.getD k 0) (l.take k)).toNat).getD j 0 = 0 := by rw [hra]; have := zSF ht hx2; omega
      have h00 : (remR (p.getD (l.getD k 0).toNat []) (cntV (l.getD k 0) (l.take k)).toNat).getD j 0 ≤ 1000000 := by
        rw [hra]
        have e1 := (zCJ (j : Int) ((spr (p.getD (l.getD k 0).toNat [])).drop (cntV (l.getD k 0) (l.take k)).toNat)).2
        have e2 := hin.sumR h2 (p.getD (l.getD k 0).toNat []).length
        rw [List.take_length] at e2
        rw [List.length_drop] at e1
        omega
      have h01 : 0 ≤ (remR (p.getD (l.getD k 0).toNat []) (cntV (l.getD k 0) (l.take k)).toNat).getD j 0 := by rw [hra]; exact (zCJ _ _).1
      have h11 : (tbl k (pixV l p)).length = k := zBK _ _
      replace hnl := And.intro hnl (And.intro (eq_false h0) h11)
      repeat' (first|(refine goK (by assumption) ?_; iterate 4 (try clear hK K))|(refine zAd fun K hK => ?_)|((first|refine zAb hE rfl ?_|refine zAh ?_|((first|refine zAa hE 1 rfl rfl (by kernel_rfl) ?_|refine zAa hE 2 rfl rfl (by kernel_rfl) ?_|refine zAa hE 3 rfl rfl (by kernel_rfl) ?_|refine zAa hE 4 rfl rfl (by kernel_rfl) ?_); simp only [List.length_cons, List.length_nil, Nat.reduceAdd, Nat.reduceSub, List.take_succ_cons, List.take_zero, List.drop_succ_cons, List.drop_zero])); simp +contextual only [hnl, ↓kN, ↓kP, ↓kG, ↓qN, ↓qP, ↓qG, push_cast, seval, reduceCtorEq, Int.cast_ofNat_Int])|refine zAc ?_|((first|refine zAg ?_|refine zAf ?_); simp only [thenQ, zAk, if_true, if_false, Nat.reduceEqDiff, reduceCtorEq])|(refine zAe (by rfl) (fun hb => ?_) (fun hb => ?_) <;> (try simp only [b1, b2, b3, b4, reduceCtorEq, b5, b6] at hb) <;> (try omega))|refine zAi (by rfl) ?_ ?_|refine andS ?_|(refine ⟨fun hc => ?_, fun hc => ?_⟩)|(intro hc; try omega))
      rw [h3] at hset
      refine hL _ (k + 1) (by omega) (by omega) ?_
      refine zAj ?_ ?_ ?_ <;> simp only [push_cast, seval, reduceCtorEq, Int.cast_ofNat_Int]
      exact ⟨.inl (by rw [hset]), .inl (by rw [zFr, hx4])⟩
  · obtain rfl : k = l.length := by omega
    repeat' (first|(refine goK (by assumption) ?_; iterate 4 (try clear hK K))|(refine zAd fun K hK => ?_)|((first|refine zAb hE rfl ?_|refine zAh ?_|((first|refine zAa hE 1 rfl rfl (by kernel_rfl) ?_|refine zAa hE 2 rfl rfl (by kernel_rfl) ?_|refine zAa hE 3 rfl rfl (by kernel_rfl) ?_|refine zAa hE 4 rfl rfl (by kernel_rfl) ?_); simp only [List.length_cons, List.length_nil, Nat.reduceAdd, Nat.reduceSub, List.take_succ_cons, List.take_zero, List.drop_succ_cons, List.drop_zero])); simp +contextual only [hnl, ↓kN, ↓kP, ↓kG, ↓qN, ↓qP, ↓qG, push_cast, seval, reduceCtorEq, Int.cast_ofNat_Int])|refine zAc ?_|((first|refine zAg ?_|refine zAf ?_); simp only [thenQ, zAk, if_true, if_false, Nat.reduceEqDiff, reduceCtorEq])|(refine zAe (by rfl) (fun hb => ?_) (fun hb => ?_) <;> (try simp only [b1, b2, b3, b4, reduceCtorEq, b5, b6] at hb) <;> (try omega))|refine zAi (by rfl) ?_ ?_|refine andS ?_|(refine ⟨fun hc => ?_, fun hc => ?_⟩)|(intro hc; try omega))
    rfl
theorem zRk : FnSpec Tryz.prog 43 cpCon := by
  refine FnSpec.of_tri' (E := know [(72, zDP), (63, zIM), (92, prCon)] [] [] []) (zAm (all_cons zHU (all_cons zGZ (all_cons zRj all_nil))) all_nil all_nil) Tryz.func43 rfl rfl (by kernel_rfl) ?_
  intro C x hE hnl hfit hpre
  simp only [Tryz.ntmps43, Tryz.results43, maxLen, Nat.reduceSub, Nat.reducePow, Nat.reduceAdd, Int.cast_ofNat_Int, push_cast] at hnl hfit hpre ⊢
  obtain ⟨(l : List Int), (d : List Int), (c : List (List Int)), ⟨(u : List Int), (v : List Int)⟩, _⟩ := x
  dsimp only at hfit hpre ⊢
  by_cases hc : InTab 0 99 c
  rotate_left
  · have h1 := zBY hc
    have e : errCP l d c (u, v) = 1 := zOO hc
    replace hnl := And.intro hnl (And.intro h1 e)
    exact auB
  have h1 := zCM hc
  have hw : (c.getD 0 []).length = wid c := rfl
  have hrs := hc.rows
  have hcs := hc.cols
  have ro1 := zGY (l := l) (n := (c.length : Int)) (by omega)
  have ro2 := zGY (l := d) (n := (wid c : Int)) (by omega)
  cases hl : okPic l c.length with
  | false =>
    have e : errCP l d c (u, v) = 1 := zIo hc (fun h => by rw [hl] at h; cases h.1)
    replace hnl := And.intro hnl (And.intro h1 (And.intro (ro1.trans hl) e))
    repeat' (first|(refine goK (by assumption) ?_; iterate 4 (try clear hK K))|(refine zAd fun K hK => ?_)|((first|refine zAb hE rfl ?_|refine zAh ?_|((first|refine zAa hE 1 rfl rfl (by kernel_rfl) ?_|refine zAa hE 2 rfl rfl (by kernel_rfl) ?_|refine zAa hE 3 rfl rfl (by kernel_rfl) ?_|refine zAa hE 4 rfl rfl (by kernel_rfl) ?_); simp only [List.length_cons, List.length_nil, Nat.reduceAdd, Nat.reduceSub, List.take_succ_cons, List.take_zero, List.drop_succ_cons, List.drop_zero])); simp +contextual only [hnl, ↓kN, ↓kP, ↓kG, ↓qN, ↓qP, ↓qG, push_cast, seval, reduceCtorEq, Int.cast_ofNat_Int])|refine zAc ?_|((first|refine zAg ?_|refine zAf ?_); simp only [thenQ, zAk, if_true, if_false, Nat.reduceEqDiff, reduceCtorEq])|(refine zAe (by rfl) (fun hb => ?_) (fun hb => ?_) <;> (try simp only [b1, b2, b3, b4, reduceCtorEq, b5, b6] at hb) <;> (try omega))|refine zAi (by rfl) ?_ ?_|refine andS ?_|(refine ⟨fun hc => ?_, fun hc => ?_⟩)|(intro hc; try omega))
  | true =>
  cases hd : okPic d (wid c) with
  | false =>
    have e : errCP l d c (u, v) = 1 := zIo hc (fun h => by rw [hd] at h; cases h.2)
    replace hnl := And.intro hnl (And.intro h1 (And.intro (ro1.trans hl) (And.intro hw (And.intro (ro2.trans hd) e))))
    repeat' (first|(refine goK (by assumption) ?_; iterate 4 (try clear hK K))|(refine zAd fun K hK => ?_)|((first|refine zAb hE rfl ?_|refine zAh ?_|((first|refine zAa hE 1 rfl rfl (by kernel_rfl) ?_|refine zAa hE 2 rfl rfl (by kernel_rfl) ?_|refine zAa hE 3 rfl rfl (by kernel_rfl) ?_|refine zAa hE 4 rfl rfl (by kernel_rfl) ?_); simp only [List.length_cons, List.length_nil, Nat.reduceAdd, Nat.reduceSub, List.take_succ_cons, List.take_zero, List.drop_succ_cons, List.drop_zero])); simp +contextual only [hnl, ↓kN, ↓kP, ↓kG, ↓qN, ↓qP, ↓qG, push_cast, seval, reduceCtorEq, Int.cast_ofNat_Int])|refine zAc ?_|((first|refine zAg ?_|refine zAf ?_); simp only [thenQ, zAk, if_true, if_false, Nat.reduceEqDiff, reduceCtorEq])|(refine zAe (by rfl) (fun hb => ?_) (fun hb => ?_) <;> (try simp only [b1, b2, b3, b4, reduceCtorEq, b5, b6] at hb) <;> (try omega))|refine zAi (by rfl) ?_ ?_|refine andS ?_|(refine ⟨fun hc => ?_, fun hc => ?_⟩)|(intro hc; try omega))
  | true =>
  by_cases hle : l.length = d.length
  rotate_left
  · have e : errCP l d c (u, v) = 5 := zOP hc ⟨hl, hd⟩ hle
    replace hnl := And.intro hnl (And.intro h1 (And.intro (ro1.trans hl) (And.intro hw (And.intro (ro2.trans hd) e))))
    exact auB
  by_cases hp : errPr c (u, v) = 0
  rotate_left
  · have e := zOR hc ⟨hl, hd⟩ hle hp
    replace hnl := And.intro hnl (And.intro h1 (And.intro (ro1.trans hl) (And.intro hw (And.intro (ro2.trans hd) e))))
    exact auB
  obtain ⟨_, ha, hh⟩ := zMa hp
  obtain ⟨hul, hua⟩ := ha.row
  obtain ⟨hvl, hva⟩ := ha.col
  dsimp only at hul hua hvl hva
  obtain ⟨⟨g1, g2⟩, g3⟩ := zBp.1 hl
  obtain ⟨⟨g4, g5⟩, g6⟩ := zBp.1 hd
  replace hnl := And.intro hnl (And.intro h1 (And.intro (ro1.trans hl) (And.intro hw (And.intro (ro2.trans hd) hp))))
  repeat' (first|(refine goK (by assumption) ?_; iterate 4 (try clear hK K))|(refine zAd fun K hK => ?_)|((first|refine zAb hE rfl ?_|refine zAh ?_|((first|refine zAa hE 1 rfl rfl (by kernel_rfl) ?_|refine zAa hE 2 rfl rfl (by kernel_rfl) ?_|refine zAa hE 3 rfl rfl (by kernel_rfl) ?_|refine zAa hE 4 rfl rfl (by kernel_rfl) ?_); simp only [List.length_cons, List.length_nil, Nat.reduceAdd, Nat.reduceSub, List.take_succ_cons, List.take_zero, List.drop_succ_cons, List.drop_zero])); simp +contextual only [hnl, ↓kN, ↓kP, ↓kG, ↓qN, ↓qP, ↓qG, push_cast, seval, reduceCtorEq, Int.cast_ofNat_Int])|refine zAc ?_|((first|refine zAg ?_|refine zAf ?_); simp only [thenQ, zAk, if_true, if_false, Nat.reduceEqDiff, reduceCtorEq])|(refine zAe (by rfl) (fun hb => ?_) (fun hb => ?_) <;> (try simp only [b1, b2, b3, b4, reduceCtorEq, b5, b6] at hb) <;> (try omega))|refine zAi (by rfl) ?_ ?_|refine andS ?_|(refine ⟨fun hc => ?_, fun hc => ?_⟩)|(intro hc; try omega))
  refine zAl (fun k : Nat => AS.of [(0, .one (.val (.sl .int) l)), (1, .one (.val (.sl .int) d)), (2, .one (.val (.sl (.sl .int)) c)), (7, .one (.box 7)), (10, .I k)] [] [(7, .one (.val (.prod (.sl .int) (.sl .int)) (u, v)))]) (fun k => k ≤ l.length ∧ ∀ i, i < k → u.getD (l.getD i 0).toNat 0 + v.getD (d.getD i 0).toNat 0 = (c.getD (l.getD i 0).toNat []).getD (d.getD i 0).toNat 0) (fun k => l.length - k) 0 ⟨Nat.zero_le _, by omega⟩ ?_ ?_
  · refine zAj ?_ ?_ ?_ <;> simp only [push_cast, seval, reduceCtorEq, Int.cast_ofNat_Int]
  intro k ⟨hk, hall⟩ K' hL
  by_cases hkl : k < l.length
  · have k1 := g3 _ (zAw 0 hkl)
    have k2 := g6 _ (zAw 0 (show k < d.length by omega))
    have k3 : (l.getD k 0).toNat < c.length := by omega
    have k4 : (d.getD k 0).toNat < wid c := by omega
    have k5 := hua (l.getD k 0).toNat (by omega)
    have k6 := hva (d.getD k 0).toNat (by omega)
    have k7 := hc.len k3
    replace hnl := And.intro hnl k7
    repeat' (first|(refine goK (by assumption) ?_; iterate 4 (try clear hK K))|(refine zAd fun K hK => ?_)|((first|refine zAb hE rfl ?_|refine zAh ?_|((first|refine zAa hE 1 rfl rfl (by kernel_rfl) ?_|refine zAa hE 2 rfl rfl (by kernel_rfl) ?_|refine zAa hE 3 rfl rfl (by kernel_rfl) ?_|refine zAa hE 4 rfl rfl (by kernel_rfl) ?_); simp only [List.length_cons, List.length_nil, Nat.reduceAdd, Nat.reduceSub, List.take_succ_cons, List.take_zero, List.drop_succ_cons, List.drop_zero])); simp +contextual only [hnl, ↓kN, ↓kP, ↓kG, ↓qN, ↓qP, ↓qG, push_cast, seval, reduceCtorEq, Int.cast_ofNat_Int])|refine zAc ?_|((first|refine zAg ?_|refine zAf ?_); simp only [thenQ, zAk, if_true, if_false, Nat.reduceEqDiff, reduceCtorEq])|(refine zAe (by rfl) (fun hb => ?_) (fun hb => ?_) <;> (try simp only [b1, b2, b3, b4, reduceCtorEq, b5, b6] at hb) <;> (try omega))|refine zAi (by rfl) ?_ ?_|refine andS ?_|(refine ⟨fun hc => ?_, fun hc => ?_⟩)|(intro hc; try omega))
    · exact (zOQ hc ⟨hl, hd⟩ hle hp fun h => hb (h k hkl)).symm
    · refine hL _ (k + 1) ⟨by omega, fun i hi => ?_⟩ (by omega) ?_
      · rcases Nat.lt_or_ge i k with h3 | h3
        · exact hall i h3
        · obtain rfl : i = k := by omega
          exact hb
      refine zAj ?_ ?_ ?_ <;> simp only [push_cast, seval, reduceCtorEq, Int.cast_ofNat_Int]
  · obtain rfl : k = l.length := by omega
    repeat' (first|(refine goK (by assumption) ?_; iterate 4 (try clear hK K))|(refine zAd fun K hK => ?_)|((first|refine zAb hE rfl ?_|refine zAh ?_|((first|refine zAa hE 1 rfl rfl (by kernel_rfl) ?_|refine zAa hE 2 rfl rfl (by kernel_rfl) ?_|refine zAa hE 3 rfl rfl (by kernel_rfl) ?_|refine zAa hE 4 rfl rfl (by kernel_rfl) ?_); simp only [List.length_cons, List.length_nil, Nat.reduceAdd, Nat.reduceSub, List.take_succ_cons, List.take_zero, List.drop_succ_cons, List.drop_zero])); simp +contextual only [hnl, ↓kN, ↓kP, ↓kG, ↓qN, ↓qP, ↓qG, push_cast, seval, reduceCtorEq, Int.cast_ofNat_Int])|refine zAc ?_|((first|refine zAg ?_|refine zAf ?_); simp only [thenQ, zAk, if_true, if_false, Nat.reduceEqDiff, reduceCtorEq])|(refine zAe (by rfl) (fun hb => ?_) (fun hb => ?_) <;> (try simp only [b1, b2, b3, b4, reduceCtorEq, b5, b6] at hb) <;> (try omega))|refine zAi (by rfl) ?_ ?_|refine andS ?_|(refine ⟨fun hc => ?_, fun hc => ?_⟩)|(intro hc; try omega))
    exact (zON hc ⟨hl, hd⟩ hle hp fun i hi => hall i hi).symm
end Go.Proofs.YtlgkplnifaoeeaaGreatDoor
namespace Go.Proofs.YtlgkplnifaoeeaaGreatDoor
open Go.RowKit Go.VS
def pPut : ByteArray := ⟨#[112, 117, 116]⟩
def pTake : ByteArray := ⟨#[116, 97, 107, 101]⟩
def pWant : ByteArray := ⟨#[119, 97, 110, 116]⟩
def pDrop : ByteArray := ⟨#[100, 114, 111, 112]⟩
def pCost : ByteArray := ⟨#[99, 111, 115, 116]⟩
def zTO : ByteArray := ⟨#[119, 97, 115, 116, 101]⟩
def zTN : ByteArray := ⟨#[99, 108, 97, 105, 109]⟩
end Go.Proofs.YtlgkplnifaoeeaaGreatDoor
namespace Go.Proofs.YtlgkplnifaoeeaaGreatDoor
open Go.RowKit Go.VS Go.OT
def zBu (a b : List Int) (c : List (List Int)) (k : Nat) : List Int := (List.range (k + 1)).map (partV a b c)
def enK (a b : List Int) (c : List (List Int)) (p : List Int × Int × Unit → Bool) (k : Nat) : Bool := p (zBu a b c k, nuV a b c k, ())
def zDT (a b : List Int) (c : List (List Int)) (p : List Int × Int × Unit → Bool) : Nat := stopK (maxU a b) (enK a b c p)
theorem zHS (a b : List Int) (c : List (List Int)) (k : Nat) : (zBu a b c k).length = k + 1 := by simp [zBu]
theorem zLm (a b : List Int) (c : List (List Int)) (k : Nat) : zBu a b c (k + 1) = zBu a b c k ++ [partV a b c (k + 1)] := by
  unfold zBu
  rw [List.range_succ, List.map_append]
  rfl
theorem zJT (a b : List Int) (c : List (List Int)) {k m : Nat} (h : m ≤ k) : (zBu a b c k).getD m 0 = partV a b c m := by
  simp [zBu, List.getD_eq_getElem?_getD, Nat.lt_succ_of_le h]
theorem zMO {M k : Nat} {en : Nat → Bool} (h1 : k ≤ M) (h2 : ∀ m, m < k → en m = false) (h3 : k = M ∨ en k = true) : stopK M en = k := by
  obtain ⟨g1, g2, g3⟩ := zFM M en
  rcases Nat.lt_trichotomy (stopK M en) k with h | h | h
  · have := h2 _ h
    rw [g3 (by omega)] at this
    cases this
  · exact h
  · rcases h3 with h3 | h3
    · omega
    · rw [g2 _ h] at h3
      cases h3
abbrev zOd := List Int × List Int × List (List Int) × ((List Int × Int × Unit → Prop) × (List Int × Int × Unit → Bool)) × Unit
@[reducible] def zMH : List AD := [.dat (.sl .int), .dat (.sl .int), .dat (.sl (.sl .int)), .fnc [.sl .int, .int] .bool]
@[push_cast] theorem zS2 {a : Sh} {r : Nat} {bs : List BV} : zJC a (.ref r :: bs) = none := rfl
def rowsC (p : List (List Int)) (n i : Nat) : List (List Int) := p.take i ++ List.replicate (n - i) []
theorem zP2 {p : List (List Int)} {n i : Nat} (h : p.length = n) (hi : i ≤ n) : (rowsC p n i).length = n := by simp [rowsC]; omega
theorem zP3 {p : List (List Int)} {n i : Nat} (h : p.length = n) (hi : i < n) (z : List Int) : ((rowsC p n i).set i z).set i (p.getD i []) = rowsC p n (i + 1) := by
  rw [List.set_set]
  unfold rowsC
  have e : n - i = (n - (i + 1)) + 1 := by omega
  rw [e, List.replicate_succ, List.set_append_right _ _ (by simp; omega), List.length_take, Nat.min_eq_left (by omega), Nat.sub_self, List.set_cons_zero, List.take_succ_eq_append_getElem (by omega), List.append_assoc]
  simp [List.getD_eq_getElem?_getD, show i < p.length by omega]
theorem zSG (p : List (List Int)) (n : Nat) : rowsC p n 0 = List.replicate n [] := by simp [rowsC]
theorem zP1 {p : List (List Int)} {n : Nat} (h : p.length = n) : rowsC p n n = p := by simp [rowsC, ← h]
theorem zMJ {f : Nat → Int} {M : Int} : ∀ n : Nat, (∀ i, i < n → f i ≤ M) → sg n f ≤ n * M
  | 0, _ => by simp [sg]
  | n + 1, h => by
    have h1 := zMJ n fun i hi => h i (by omega)
    have h2 := h n (by omega)
    show sg n f + f n ≤ _
    rw [Int.natCast_add, Int.add_mul]
    omega
theorem zMv {a b : List Int} {c : List (List Int)} (hm : MC a b c) : maxU a b ≤ 1200 := by
  have h1 : sumL a ≤ a.length * 200 := zMJ _ fun i hi => (hm.ha.at hi).2
  have := hm.a5
  unfold maxU
  omega
structure SeI (a b : List Int) (c : List (List Int)) (p : List Int × Int × Unit → Bool) (k : Nat) : Prop where
  le : k ≤ maxU a b
  no : ∀ m, m < k → enK a b c p m = false
theorem zNN (C : Ctx) (γ : Gam) (x : zOd) (vs : List Value) (hm : MC x.1 x.2.1 x.2.2.1) (hq : ∀ y, x.2.2.2.1.1 y) (hen : Entry C γ Tryz.prog zMH x vs) :
    Calls Tryz.prog 216 vs.toArray C.w0 (fun e w => ∃ ch, e = .panicked ch ∧
      zGz C 183 (.sl (.sl .int)) (.sl .int) (stepP x.1 x.2.1 x.2.2.1 (zDT x.1 x.2.1 x.2.2.1 x.2.2.2.1.2)) (zBu x.1 x.2.1 x.2.2.1 (zDT x.1 x.2.1 x.2.2.1 x.2.2.2.1.2)) ch w) := by
  refine zTP (E := know [(188, zL5), (189, zPy)] [] [] [17]) (zAm (all_cons zM8 (all_cons zPz all_nil)) all_nil all_nil) (G := fun C => zGz C 183 (.sl (.sl .int)) (.sl .int) _ _) Tryz.func216 rfl (by simp [zAN, Tryz.ntmps216]) ?_ C γ vs hen
  clear hen vs γ C
  intro C hP hE hnl hfit
  obtain ⟨(a : List Int), (b : List Int), (c : List (List Int)), ⟨(q : List Int × Int × Unit → Prop), (p : List Int × Int × Unit → Bool)⟩, _⟩ := x
  dsimp only at hm hq hfit ⊢
  have ha5 := hm.a5
  have hb5 := hm.b5
  have hT : ∃ fs, C.P.underlying 183 = some (.struct fs) := by rw [hP]; exact ⟨_, Tryz.underlying183⟩
  have hu : C.P.underlying 25 = some (.slice 3) := by rw [hP]; exact Tryz.underlying25
  have hs : (C.P.info? 3).map (·.size) = some 1 := by rw [hP]; kernel_rfl
  simp only [Tryz.ntmps216, Tryz.results216, maxLen, Nat.reduceSub, Nat.reducePow, Nat.reduceAdd, Int.cast_ofNat_Int, push_cast] at hnl hfit ⊢
  repeat' (first|(refine goP (by assumption) ?_; iterate 4 (try clear hK K))|(refine zDm fun K hK => ?_)|(refine zBE ?_; refine zAb hE rfl ?_; simp +contextual only [hnl, ↓kN, ↓kP, ↓kG, ↓qN, ↓qP, ↓qG, push_cast, seval, reduceCtorEq, Int.cast_ofNat_Int])|(refine zBE ?_; (refine zDz hE 3 [0] rfl (by decide +kernel) ?_; simp only [List.length_cons, List.length_nil, Nat.reduceAdd, Nat.reduceSub, List.take_succ_cons, List.take_zero, List.drop_succ_cons, List.drop_zero, pickM, headM, List.filterMap_cons, List.filterMap_nil, List.getElem?_cons_zero, List.getElem?_cons_succ, List.contains_cons, List.contains_nil, Nat.reduceBEq, Bool.or_false, Bool.false_or, Bool.true_or, Bool.or_true, if_true, Bool.false_eq_true, if_false, List.cons_append, List.nil_append]; simp +contextual only [hnl, ↓kN, ↓kP, ↓kG, ↓qN, ↓qP, ↓qG, push_cast, seval, reduceCtorEq, Int.cast_ofNat_Int]))|first|(refine goK (by assumption) ?_; iterate 4 (try clear hK K))|(refine zAd fun K hK => ?_)|((first|refine zAb hE rfl ?_|refine zAh ?_); simp +contextual only [hnl, ↓kN, ↓kP, ↓kG, ↓qN, ↓qP, ↓qG, push_cast, seval, reduceCtorEq, Int.cast_ofNat_Int])|refine zAc ?_|((first|refine zAg ?_|refine zAf ?_); simp only [thenQ, zAk, if_true, if_false, Nat.reduceEqDiff, reduceCtorEq])|(refine zAe (by rfl) (fun hb => ?_) (fun hb => ?_) <;> (try simp only [b1, b2, b3, b4, reduceCtorEq, b5, b6] at hb) <;> (try omega))|refine zAi (by rfl) ?_ ?_|refine andS ?_|(refine ⟨fun hc => ?_, fun hc => ?_⟩)|(intro hc; try omega))
  refine zH8 ?_
  refine zNY (fun k : Nat => AS.of [(0, .one (.val (.sl .int) a)), (1, .one (.val (.sl .int) b)), (2, .one (.val (.sl (.sl .int)) c)), (3, .one (.fnv [.sl .int, .int] .bool q p)), (8, .one (.box 8))] [(17, .flat 3 .int (zBu a b c k))] [(8, .rcd [.val (.sl (.sl .int)) (stepP a b c k), .ref 17])])
    (SeI a b c p) (fun k => maxU a b - k) 0 ⟨Nat.zero_le _, fun m hm => absurd hm (Nat.not_lt_zero _)⟩ ?_ ?_
  · refine zAj ?_ ?_ ?_ <;> simp only [push_cast, seval, reduceCtorEq, Int.cast_ofNat_Int]
    · exact .inl rfl
    · rfl
  intro k hI K' hL
  have hst := stepI hm k hI.le
  have hlen : (stepP a b c k).length = a.length := hst.way.shp.rows
  refine zH8 ?_
  repeat' (first|(refine goP (by assumption) ?_; iterate 4 (try clear hK K))|(refine zDm fun K hK => ?_)|(refine zBE ?_; refine zAb hE rfl ?_; simp +contextual only [hnl, ↓kN, ↓kP, ↓kG, ↓qN, ↓qP, ↓qG, push_cast, seval, reduceCtorEq, Int.cast_ofNat_Int])|(refine zBE ?_; (refine zDz hE 3 [0] rfl (by decide +kernel) ?_; simp only [List.length_cons, List.length_nil, Nat.reduceAdd, Nat.reduceSub, List.take_succ_cons, List.take_zero, List.drop_succ_cons, List.drop_zero, pickM, headM, List.filterMap_cons, List.filterMap_nil, List.getElem?_cons_zero, List.getElem?_cons_succ, List.contains_cons, List.contains_nil, Nat.reduceBEq, Bool.or_false, Bool.false_or, Bool.true_or, Bool.or_true, if_true, Bool.false_eq_true, if_false, List.cons_append, List.nil_append]; simp +contextual only [hnl, ↓kN, ↓kP, ↓kG, ↓qN, ↓qP, ↓qG, push_cast, seval, reduceCtorEq, Int.cast_ofNat_Int]))|first|(refine goK (by assumption) ?_; iterate 4 (try clear hK K))|(refine zAd fun K hK => ?_)|((first|refine zAb hE rfl ?_|refine zAh ?_); simp +contextual only [hnl, ↓kN, ↓kP, ↓kG, ↓qN, ↓qP, ↓qG, push_cast, seval, reduceCtorEq, Int.cast_ofNat_Int])|refine zAc ?_|((first|refine zAg ?_|refine zAf ?_); simp only [thenQ, zAk, if_true, if_false, Nat.reduceEqDiff, reduceCtorEq])|(refine zAe (by rfl) (fun hb => ?_) (fun hb => ?_) <;> (try simp only [b1, b2, b3, b4, reduceCtorEq, b5, b6] at hb) <;> (try omega))|refine zAi (by rfl) ?_ ?_|refine andS ?_|(refine ⟨fun hc => ?_, fun hc => ?_⟩)|(intro hc; try omega))
  refine zBE ?_
  repeat' (first|(refine goK (by assumption) ?_; iterate 4 (try clear hK K))|(refine zAd fun K hK => ?_)|((first|refine zAb hE rfl ?_|refine zAh ?_); simp +contextual only [hnl, ↓kN, ↓kP, ↓kG, ↓qN, ↓qP, ↓qG, push_cast, seval, reduceCtorEq, Int.cast_ofNat_Int])|refine zAc ?_|((first|refine zAg ?_|refine zAf ?_); simp only [thenQ, zAk, if_true, if_false, Nat.reduceEqDiff, reduceCtorEq])|(refine zAe (by rfl) (fun hb => ?_) (fun hb => ?_) <;> (try simp only [b1, b2, b3, b4, reduceCtorEq, b5, b6] at hb) <;> (try omega))|refine zAi (by rfl) ?_ ?_|refine andS ?_|(refine ⟨fun hc => ?_, fun hc => ?_⟩)|(intro hc; try omega))
  refine zAl (fun i : Nat => AS.of [(0, .one (.val (.sl .int) a)), (1, .one (.val (.sl .int) b)), (2, .one (.val (.sl (.sl .int)) c)), (3, .one (.fnv [.sl .int, .int] .bool q p)), (8, .one (.box 8)), (9, .one (.ref 22)), (24, .one (.val (.sl (.sl .int)) (stepP a b c k))), (25, .I (stepP a b c k).length), (26, .I i)] [(17, .flat 3 .int (zBu a b c k)), (22, .deep 25 3 .int (rowsC (stepP a b c k) a.length i))] [(8, .rcd [.val (.sl (.sl .int)) (stepP a b c k), .ref 17])])
    (fun i => i ≤ a.length) (fun i => a.length - i) 0 (Nat.zero_le _) ?_ ?_
  · refine zAj ?_ ?_ ?_ <;> simp only [push_cast, seval, reduceCtorEq, Int.cast_ofNat_Int]
    rw [zSG, hlen]
    exact .inl rfl
  intro i hi K2 hL2
  have hrl := zP2 hlen hi
  rcases Nat.lt_or_ge i a.length with hia | hia
  · have hw := hst.way.shp.cols i (by omega)
    have hg := zP3 hlen hia (List.replicate ((stepP a b c k).getD i []).length 0)
    have hgl : ((rowsC (stepP a b c k) a.length i).set i (List.replicate ((stepP a b c k).getD i []).length 0)).length = a.length := by rw [List.length_set, hrl]
    have hgg : ((rowsC (stepP a b c k) a.length i).set i (List.replicate ((stepP a b c k).getD i []).length 0)).getD i [] = List.replicate ((stepP a b c k).getD i []).length 0 := by
      rw [List.getD_eq_getElem?_getD, List.getElem?_set_self (by omega)]; rfl
    repeat' (first|((refine zRz hE 5 hu hs rfl rfl ?_; simp only [List.length_cons, List.length_nil, Nat.reduceAdd, Nat.reduceSub, List.take_succ_cons, List.take_zero, List.drop_succ_cons, List.drop_zero]; simp +contextual only [hnl, ↓kN, ↓kP, ↓kG, ↓qN, ↓qP, ↓qG, copyS, push_cast, seval, reduceCtorEq, Int.cast_ofNat_Int]))|first|(refine goK (by assumption) ?_; iterate 4 (try clear hK K))|(refine zAd fun K hK => ?_)|((first|refine zAb hE rfl ?_|refine zAh ?_); simp +contextual only [hnl, ↓kN, ↓kP, ↓kG, ↓qN, ↓qP, ↓qG, push_cast, seval, reduceCtorEq, Int.cast_ofNat_Int])|refine zAc ?_|((first|refine zAg ?_|refine zAf ?_); simp only [thenQ, zAk, if_true, if_false, Nat.reduceEqDiff, reduceCtorEq])|(refine zAe (by rfl) (fun hb => ?_) (fun hb => ?_) <;> (try simp only [b1, b2, b3, b4, reduceCtorEq, b5, b6] at hb) <;> (try omega))|refine zAi (by rfl) ?_ ?_|refine andS ?_|(refine ⟨fun hc => ?_, fun hc => ?_⟩)|(intro hc; try omega))
    refine ⟨by rw [hgg, List.length_replicate], ?_⟩
    repeat' (first|(refine goK (by assumption) ?_; iterate 4 (try clear hK K))|(refine zAd fun K hK => ?_)|((first|refine zAb hE rfl ?_|refine zAh ?_); simp +contextual only [hnl, ↓kN, ↓kP, ↓kG, ↓qN, ↓qP, ↓qG, push_cast, seval, reduceCtorEq, Int.cast_ofNat_Int])|refine zAc ?_|((first|refine zAg ?_|refine zAf ?_); simp only [thenQ, zAk, if_true, if_false, Nat.reduceEqDiff, reduceCtorEq])|(refine zAe (by rfl) (fun hb => ?_) (fun hb => ?_) <;> (try simp only [b1, b2, b3, b4, reduceCtorEq, b5, b6] at hb) <;> (try omega))|refine zAi (by rfl) ?_ ?_|refine andS ?_|(refine ⟨fun hc => ?_, fun hc => ?_⟩)|(intro hc; try omega))
    rw [hg]
    refine hL2 _ (i + 1) (by omega) (by omega) ?_
    refine zAj ?_ ?_ ?_ <;> simp only [push_cast, seval, reduceCtorEq, Int.cast_ofNat_Int]
    done
  · obtain rfl : i = a.length := by omega
    have hra := zP1 hlen
    have hends : (nextP a b c (stepP a b c k)).isSome = true := by
      by_cases hb : bestV a b c (stepP a b c k) < 0
      · rw [(zGp hm.hc hst.way hb).1]; rfl
      · obtain ⟨p', h4, _⟩ := zFd hm.hc hst.way hb
        rw [h4]; rfl
    have hpre2 : NextPre a b c (.deep 25 3 .int (stepP a b c k)) := ⟨by rw [zFv], by rw [zFv]; exact hst.way.shp, hm.hc, by rw [zFv]; exact hends⟩
    rcases Nat.lt_or_ge k (maxU a b) with hk | hk
    · have hb0 := (hst.more hm).2 hk
      obtain ⟨n1, n2, n3, n4, n5⟩ := hst.next hm hk
      replace hnl := And.intro hnl (And.intro hra (And.intro n2 (eq_true (show 0 ≤ bestV a b c (stepP a b c k) by omega))))
      replace hnl := And.intro hnl (eq_true (hq (zBu a b c k, nextN a b c (stepP a b c k), ())))
      by_cases he : enK a b c p k = true
      · have hfk : zDT a b c p = k := zMO hI.le hI.no (.inr he)
        replace hnl := And.intro hnl (show p (zBu a b c k, nextN a b c (stepP a b c k), ()) = true from he)
        repeat' (first|(refine goK (by assumption) ?_; iterate 4 (try clear hK K))|(refine zAd fun K hK => ?_)|((first|refine zAb hE rfl ?_|refine zAh ?_); simp +contextual only [hnl, ↓kN, ↓kP, ↓kG, ↓qN, ↓qP, ↓qG, push_cast, seval, reduceCtorEq, Int.cast_ofNat_Int])|refine zAc ?_|((first|refine zAg ?_|refine zAf ?_); simp only [thenQ, zAk, if_true, if_false, Nat.reduceEqDiff, reduceCtorEq])|(refine zAe (by rfl) (fun hb => ?_) (fun hb => ?_) <;> (try simp only [b1, b2, b3, b4, reduceCtorEq, b5, b6] at hb) <;> (try omega))|refine zAi (by rfl) ?_ ?_|refine andS ?_|(refine ⟨fun hc => ?_, fun hc => ?_⟩)|(intro hc; try omega))
        repeat' (first|(refine goP (by assumption) ?_; iterate 4 (try clear hK K))|(refine zDm fun K hK => ?_)|(refine zBE ?_; refine zAb hE rfl ?_; simp +contextual only [hnl, ↓kN, ↓kP, ↓kG, ↓qN, ↓qP, ↓qG, push_cast, seval, reduceCtorEq, Int.cast_ofNat_Int])|(refine zBE ?_; (refine zDz hE 3 [0] rfl (by decide +kernel) ?_; simp only [List.length_cons, List.length_nil, Nat.reduceAdd, Nat.reduceSub, List.take_succ_cons, List.take_zero, List.drop_succ_cons, List.drop_zero, pickM, headM, List.filterMap_cons, List.filterMap_nil, List.getElem?_cons_zero, List.getElem?_cons_succ, List.contains_cons, List.contains_nil, Nat.reduceBEq, Bool.or_false, Bool.false_or, Bool.true_or, Bool.or_true, if_true, Bool.false_eq_true, if_false, List.cons_append, List.nil_append]; simp +contextual only [hnl, ↓kN, ↓kP, ↓kG, ↓qN, ↓qP, ↓qG, push_cast, seval, reduceCtorEq, Int.cast_ofNat_Int]))|first|(refine goK (by assumption) ?_; iterate 4 (try clear hK K))|(refine zAd fun K hK => ?_)|((first|refine zAb hE rfl ?_|refine zAh ?_); simp +contextual only [hnl, ↓kN, ↓kP, ↓kG, ↓qN, ↓qP, ↓qG, push_cast, seval, reduceCtorEq, Int.cast_ofNat_Int])|refine zAc ?_|((first|refine zAg ?_|refine zAf ?_); simp only [thenQ, zAk, if_true, if_false, Nat.reduceEqDiff, reduceCtorEq])|(refine zAe (by rfl) (fun hb => ?_) (fun hb => ?_) <;> (try simp only [b1, b2, b3, b4, reduceCtorEq, b5, b6] at hb) <;> (try omega))|refine zAi (by rfl) ?_ ?_|refine andS ?_|(refine ⟨fun hc => ?_, fun hc => ?_⟩)|(intro hc; try omega))
        rw [hfk]
        refine zHc (b := true) (by rfl) (fun _ => ?_) (fun hb => absurd hb (by decide))
        refine zKn (t := AS.of [(8, .one (.box 8))] [] [(8, .rcd [.val (.sl (.sl .int)) (stepP a b c k), .val (.sl .int) (zBu a b c k)])]) (by refine zAj ?_ ?_ ?_ <;> simp only [push_cast, seval, reduceCtorEq, Int.cast_ofNat_Int]) ?_; obtain ⟨fs, hT⟩ := hT; refine zH9 hE hT rfl ?_; simp +contextual only [hnl, ↓kN, ↓kP, ↓kG, ↓qN, ↓qP, ↓qG, push_cast, seval, reduceCtorEq, Int.cast_ofNat_Int]
      · replace hnl := And.intro hnl (show p (zBu a b c k, nextN a b c (stepP a b c k), ()) = false from (Bool.not_eq_true _).mp he)
        have h17 := zHS a b c k
        have h18 := zJT a b c (Nat.le_refl k)
        have h19 := zGu hm k hI.le
        repeat' (first|(refine goK (by assumption) ?_; iterate 4 (try clear hK K))|(refine zAd fun K hK => ?_)|((first|refine zAb hE rfl ?_|refine zAh ?_); simp +contextual only [hnl, ↓kN, ↓kP, ↓kG, ↓qN, ↓qP, ↓qG, push_cast, seval, reduceCtorEq, Int.cast_ofNat_Int])|refine zAc ?_|((first|refine zAg ?_|refine zAf ?_); simp only [thenQ, zAk, if_true, if_false, Nat.reduceEqDiff, reduceCtorEq])|(refine zAe (by rfl) (fun hb => ?_) (fun hb => ?_) <;> (try simp only [b1, b2, b3, b4, reduceCtorEq, b5, b6] at hb) <;> (try omega))|refine zAi (by rfl) ?_ ?_|refine andS ?_|(refine ⟨fun hc => ?_, fun hc => ?_⟩)|(intro hc; try omega))
        repeat' (first|(refine goP (by assumption) ?_; iterate 4 (try clear hK K))|(refine zDm fun K hK => ?_)|(refine zBE ?_; refine zAb hE rfl ?_; simp +contextual only [hnl, ↓kN, ↓kP, ↓kG, ↓qN, ↓qP, ↓qG, push_cast, seval, reduceCtorEq, Int.cast_ofNat_Int])|(refine zBE ?_; (refine zDz hE 3 [0] rfl (by decide +kernel) ?_; simp only [List.length_cons, List.length_nil, Nat.reduceAdd, Nat.reduceSub, List.take_succ_cons, List.take_zero, List.drop_succ_cons, List.drop_zero, pickM, headM, List.filterMap_cons, List.filterMap_nil, List.getElem?_cons_zero, List.getElem?_cons_succ, List.contains_cons, List.contains_nil, Nat.reduceBEq, Bool.or_false, Bool.false_or, Bool.true_or, Bool.or_true, if_true, Bool.false_eq_true, if_false, List.cons_append, List.nil_append]; simp +contextual only [hnl, ↓kN, ↓kP, ↓kG, ↓qN, ↓qP, ↓qG, push_cast, seval, reduceCtorEq, Int.cast_ofNat_Int]))|first|(refine goK (by assumption) ?_; iterate 4 (try clear hK K))|(refine zAd fun K hK => ?_)|((first|refine zAb hE rfl ?_|refine zAh ?_); simp +contextual only [hnl, ↓kN, ↓kP, ↓kG, ↓qN, ↓qP, ↓qG, push_cast, seval, reduceCtorEq, Int.cast_ofNat_Int])|refine zAc ?_|((first|refine zAg ?_|refine zAf ?_); simp only [thenQ, zAk, if_true, if_false, Nat.reduceEqDiff, reduceCtorEq])|(refine zAe (by rfl) (fun hb => ?_) (fun hb => ?_) <;> (try simp only [b1, b2, b3, b4, reduceCtorEq, b5, b6] at hb) <;> (try omega))|refine zAi (by rfl) ?_ ?_|refine andS ?_|(refine ⟨fun hc => ?_, fun hc => ?_⟩)|(intro hc; try omega))
        refine zHc (b := false) (by rfl) (fun hb => absurd hb (by decide)) (fun _ => zQc ?_)
        repeat' (first|(refine goP (by assumption) ?_; iterate 4 (try clear hK K))|(refine zDm fun K hK => ?_)|(refine zBE ?_; refine zAb hE rfl ?_; simp +contextual only [hnl, ↓kN, ↓kP, ↓kG, ↓qN, ↓qP, ↓qG, push_cast, seval, reduceCtorEq, Int.cast_ofNat_Int])|(refine zBE ?_; (refine zDz hE 3 [0] rfl (by decide +kernel) ?_; simp only [List.length_cons, List.length_nil, Nat.reduceAdd, Nat.reduceSub, List.take_succ_cons, List.take_zero, List.drop_succ_cons, List.drop_zero, pickM, headM, List.filterMap_cons, List.filterMap_nil, List.getElem?_cons_zero, List.getElem?_cons_succ, List.contains_cons, List.contains_nil, Nat.reduceBEq, Bool.or_false, Bool.false_or, Bool.true_or, Bool.or_true, if_true, Bool.false_eq_true, if_false, List.cons_append, List.nil_append]; simp +contextual only [hnl, ↓kN, ↓kP, ↓kG, ↓qN, ↓qP, ↓qG, push_cast, seval, reduceCtorEq, Int.cast_ofNat_Int]))|first|(refine goK (by assumption) ?_; iterate 4 (try clear hK K))|(refine zAd fun K hK => ?_)|((first|refine zAb hE rfl ?_|refine zAh ?_); simp +contextual only [hnl, ↓kN, ↓kP, ↓kG, ↓qN, ↓qP, ↓qG, push_cast, seval, reduceCtorEq, Int.cast_ofNat_Int])|refine zAc ?_|((first|refine zAg ?_|refine zAf ?_); simp only [thenQ, zAk, if_true, if_false, Nat.reduceEqDiff, reduceCtorEq])|(refine zAe (by rfl) (fun hb => ?_) (fun hb => ?_) <;> (try simp only [b1, b2, b3, b4, reduceCtorEq, b5, b6] at hb) <;> (try omega))|refine zAi (by rfl) ?_ ?_|refine andS ?_|(refine ⟨fun hc => ?_, fun hc => ?_⟩)|(intro hc; try omega))
        have e2 : (((zBu a b c k).length : Int) - 1).toNat = k := by omega
        have n4' : 0 ≤ nextN a b c (stepP a b c k) ∧ nextN a b c (stepP a b c k) ≤ 99 := ⟨n4, n5⟩
        have hmx := zMv hm
        rw [e2, h18]
        refine ⟨by unfold InR; omega, ⟨by omega, by omega⟩, by omega, by unfold InR; omega, rfl, by omega, ?_⟩
        have e3 : zBu a b c k ++ [partV a b c k + nextN a b c (stepP a b c k)] = zBu a b c (k + 1) := (zLm a b c k).symm
        refine hL _ (k + 1) ⟨by omega, fun m hmk => ?_⟩ (by omega) ?_
        · rcases Nat.lt_or_ge m k with h | h
          · exact hI.no m h
          · obtain rfl : m = k := by omega
            exact (Bool.not_eq_true _).mp he
        refine zAj ?_ ?_ ?_ <;> simp only [push_cast, seval, reduceCtorEq, Int.cast_ofNat_Int]
        rw [e3]
        exact .inl rfl
    · have hb0 : bestV a b c (stepP a b c k) < 0 := by
        have := (hst.more hm).1
        omega
      obtain ⟨n2, _, _⟩ := zGp hm.hc hst.way hb0
      replace hnl := And.intro hnl (And.intro hra (And.intro n2 (eq_false (show ¬ 0 ≤ bestV a b c (stepP a b c k) by omega))))
      have hfk : zDT a b c p = k := zMO hI.le hI.no (.inl (by have := hI.le; omega))
      repeat' (first|(refine goK (by assumption) ?_; iterate 4 (try clear hK K))|(refine zAd fun K hK => ?_)|((first|refine zAb hE rfl ?_|refine zAh ?_); simp +contextual only [hnl, ↓kN, ↓kP, ↓kG, ↓qN, ↓qP, ↓qG, push_cast, seval, reduceCtorEq, Int.cast_ofNat_Int])|refine zAc ?_|((first|refine zAg ?_|refine zAf ?_); simp only [thenQ, zAk, if_true, if_false, Nat.reduceEqDiff, reduceCtorEq])|(refine zAe (by rfl) (fun hb => ?_) (fun hb => ?_) <;> (try simp only [b1, b2, b3, b4, reduceCtorEq, b5, b6] at hb) <;> (try omega))|refine zAi (by rfl) ?_ ?_|refine andS ?_|(refine ⟨fun hc => ?_, fun hc => ?_⟩)|(intro hc; try omega))
      repeat' (first|(refine goP (by assumption) ?_; iterate 4 (try clear hK K))|(refine zDm fun K hK => ?_)|(refine zBE ?_; refine zAb hE rfl ?_; simp +contextual only [hnl, ↓kN, ↓kP, ↓kG, ↓qN, ↓qP, ↓qG, push_cast, seval, reduceCtorEq, Int.cast_ofNat_Int])|(refine zBE ?_; (refine zDz hE 3 [0] rfl (by decide +kernel) ?_; simp only [List.length_cons, List.length_nil, Nat.reduceAdd, Nat.reduceSub, List.take_succ_cons, List.take_zero, List.drop_succ_cons, List.drop_zero, pickM, headM, List.filterMap_cons, List.filterMap_nil, List.getElem?_cons_zero, List.getElem?_cons_succ, List.contains_cons, List.contains_nil, Nat.reduceBEq, Bool.or_false, Bool.false_or, Bool.true_or, Bool.or_true, if_true, Bool.false_eq_true, if_false, List.cons_append, List.nil_append]; simp +contextual only [hnl, ↓kN, ↓kP, ↓kG, ↓qN, ↓qP, ↓qG, push_cast, seval, reduceCtorEq, Int.cast_ofNat_Int]))|first|(refine goK (by assumption) ?_; iterate 4 (try clear hK K))|(refine zAd fun K hK => ?_)|((first|refine zAb hE rfl ?_|refine zAh ?_); simp +contextual only [hnl, ↓kN, ↓kP, ↓kG, ↓qN, ↓qP, ↓qG, push_cast, seval, reduceCtorEq, Int.cast_ofNat_Int])|refine zAc ?_|((first|refine zAg ?_|refine zAf ?_); simp only [thenQ, zAk, if_true, if_false, Nat.reduceEqDiff, reduceCtorEq])|(refine zAe (by rfl) (fun hb => ?_) (fun hb => ?_) <;> (try simp only [b1, b2, b3, b4, reduceCtorEq, b5, b6] at hb) <;> (try omega))|refine zAi (by rfl) ?_ ?_|refine andS ?_|(refine ⟨fun hc => ?_, fun hc => ?_⟩)|(intro hc; try omega))
      rw [hfk]
      refine zHc (b := true) (by rfl) (fun _ => ?_) (fun hb => absurd hb (by decide))
      refine zKn (t := AS.of [(8, .one (.box 8))] [] [(8, .rcd [.val (.sl (.sl .int)) (stepP a b c k), .val (.sl .int) (zBu a b c k)])]) (by refine zAj ?_ ?_ ?_ <;> simp only [push_cast, seval, reduceCtorEq, Int.cast_ofNat_Int]) ?_; obtain ⟨fs, hT⟩ := hT; refine zH9 hE hT rfl ?_; simp +contextual only [hnl, ↓kN, ↓kP, ↓kG, ↓qN, ↓qP, ↓qG, push_cast, seval, reduceCtorEq, Int.cast_ofNat_Int]
end Go.Proofs.YtlgkplnifaoeeaaGreatDoor
namespace Go.Proofs.YtlgkplnifaoeeaaGreatDoor
open Go.RowKit Go.VS Go.OT
theorem zRx (xt : TypeId) (v : Value) (w : World) : (Instr.typeAssert (.iface 183 v) xt 183 true).run Tryz.prog w = .ok (.tuple #[v, .bool true]) w := by
  have hu := run_underlying (P := Tryz.prog) Tryz.underlying183 w
  simp [Instr.typeAssert, hu]
theorem zQg {w : World} {g : Nat} {t : TypeId} {x y : Value} (h : w.heap[g]? = some (.cells #[x, y] t (0, 0))) (u v : Value) :
    w.cell? ⟨g, 0, none⟩ = some x ∧ w.frozen? ⟨g, 0, none⟩ = false ∧ (w.setCell ⟨g, 0, none⟩ u).cell? ⟨g, 1, none⟩ = some y ∧ (w.setCell ⟨g, 0, none⟩ u).frozen? ⟨g, 1, none⟩ = false ∧
    ((w.setCell ⟨g, 0, none⟩ u).setCell ⟨g, 1, none⟩ v).heap[g]? = some (.cells #[u, v] t (0, 0)) ∧ Keep (fun k => k = g) w ((w.setCell ⟨g, 0, none⟩ u).setCell ⟨g, 1, none⟩ v) := by
  have e1 : w.setCell ⟨g, 0, none⟩ u = w.setRow g #[u, y] := setCell_eq_setRow w g 0 #[x, y] t (0, 0) u h
  have h1 : (w.setRow g #[u, y]).heap[g]? = some (.cells #[u, y] t (0, 0)) := setRow_heap w g _ _ t _ h
  have e2 : (w.setRow g #[u, y]).setCell ⟨g, 1, none⟩ v = (w.setRow g #[u, y]).setRow g #[u, v] := setCell_eq_setRow _ g 1 #[u, y] t (0, 0) v h1
  rw [e1, e2]
  refine ⟨by simp [World.cell?, h], by simp [World.frozen?, h], by simp [World.cell?, h1], by simp [World.frozen?, h1], setRow_heap _ g _ _ t _ h1, ⟨rfl, rfl, rfl, by simp [World.setRow], fun k hk hne => ?_⟩⟩
  rw [setRow_other _ g k _ hne, setRow_other _ g k _ hne]
theorem zKW (b : Nat) (a1 a2 : Option Addr) (n1 c1 n2 c2 : Nat) (w : World) (t : TypeId) (x y : Value) (hb : w.heap[b]? = some (.cells #[x, y] t (0, 0))) :
    CallsD Tryz.prog 215 #[.pointer (some ⟨b, 0, none⟩)] (.panicking [{ v := .iface 183 (.agg #[.slice a1 n1 c1, .slice a2 n2 c2]), recovered := false }]) w fun e u' w' =>
      e = .returned (.tuple #[]) ∧ u' = .panicking [{ v := .iface 183 (.agg #[.slice a1 n1 c1, .slice a2 n2 c2]), recovered := true }] ∧
      Keep (fun k => k = b) w w' ∧ w'.heap[b]? = some (.cells #[.slice a1 n1 c1, .slice a2 n2 c2] t (0, 0)) := by
  refine callsD_of_wpS Tryz.func215 rfl fun c₀ cs hu => ?_
  apply wpS_seq
  apply wpS_region
  simp [wpOpsS, go_sem, recoverD, hu, Tryz.ntmps215, Exit.thenS]
  apply wpS_seq
  apply wpS_region
  simp [wpOpsS, go_sem, Exit.thenS, zRx]
  have hblt : b < w.heap.size := (Array.getElem?_eq_some_iff.1 hb).1
  have h1 : (w.alloc (.cells #[.slice a1 n1 c1, .slice a2 n2 c2] 183)).heap[w.heap.size]? = some (.cells #[.slice a1 n1 c1, .slice a2 n2 c2] 183 (0, 0)) := by simp only [World.alloc, Array.getElem?_push, if_true]
  have h2 : (w.alloc (.cells #[.slice a1 n1 c1, .slice a2 n2 c2] 183)).heap[b]? = some (.cells #[x, y] t (0, 0)) := by
    simp only [World.alloc, Array.getElem?_push]
    rw [if_neg (by omega)]
    exact hb
  obtain ⟨W, hW⟩ : ∃ W, W = w.alloc (.cells #[.slice a1 n1 c1, .slice a2 n2 c2] 183) := ⟨_, rfl⟩
  have hkW : Keep (fun k => k = b) w W := by
    rw [hW]
    exact ⟨rfl, rfl, rfl, by simp only [World.alloc, Array.size_push]; omega, fun k hk _ => by simp only [World.alloc, Array.getElem?_push]; rw [if_neg (by omega)]⟩
  rw [← hW] at h1 h2 ⊢
  have l0 : W.cell? ⟨w.heap.size, 0, none⟩ = some (.slice a1 n1 c1) := by simp [World.cell?, h1]
  have l1 : W.cell? ⟨w.heap.size, 1, none⟩ = some (.slice a2 n2 c2) := by simp [World.cell?, h1]
  obtain ⟨e1, e2, e3, e4, e5, e6⟩ := zQg h2 (.slice a1 n1 c1) (.slice a2 n2 c2)
  apply wpS_seq
  apply wpS_seq
  apply wpS_region
  simp [wpOpsS, go_sem, Exit.thenS]
  refine wpS_cond (t := false) (by simp [Act.eval, Array.replicate]) ?_
  simp only [Bool.false_eq_true, if_false]
  refine wpS_of_wp (wp_skip ?_)
  simp only [Exit.thenS]
  apply wpS_region
  simp [wpOpsS, go_sem, Exit.thenS, l0, l1, e1, e2, e3, e4, bodyPostS, results, Tryz.results215]
  exact ⟨hkW.step e6 (fun k hk _ => hk), e5⟩
@[push_cast] def zPk : Con := ⟨zMH, fun (x : zOd) => MC x.1 x.2.1 x.2.2.1 ∧ ∀ y, x.2.2.2.1.1 y,
  fun (x : zOd) => { res := [.val (.prod (.sl (.sl .int)) (.sl .int)) (stepP x.1 x.2.1 x.2.2.1 (zDT x.1 x.2.1 x.2.2.1 x.2.2.2.1.2), zBu x.1 x.2.1 x.2.2.1 (zDT x.1 x.2.1 x.2.2.1 x.2.2.2.1.2))] }⟩
set_option maxRecDepth 20000 in
theorem zPl : FnSpec Tryz.prog 182 zPk := by
  refine ⟨⟨_, Tryz.func182, by kernel_rfl, rfl⟩, fun C γ x vs hpre hen => ?_⟩
  have hP := hen.P
  have hlt := hen.ownlt
  obtain ⟨hm, hq⟩ := hpre
  have hargs := hen.args
  obtain ⟨(a : List Int), (b : List Int), (c : List (List Int)), ⟨(q : List Int × Int × Unit → Prop), (p : List Int × Int × Unit → Bool)⟩, _⟩ := x
  dsimp only at hm hq
  obtain ⟨va, _, rfl, ha, vb, _, rfl, hb, vc, _, rfl, hc, vf, _, rfl, hf, rfl⟩ := hargs
  have hmf : ∀ (fn : Fn) (first cap : Array Value) (w : World), (Instr.makeFunc fn first cap).run Tryz.prog w = .ok (.func fn first cap) w := fun _ _ _ _ => rfl
  show Calls _ _ #[va, vb, vc, vf] C.w0 _
  obtain ⟨w, hw⟩ : ∃ w, w = C.w0 := ⟨_, rfl⟩
  obtain ⟨W, hW⟩ : ∃ W, W = w.alloc (.cells #[.slice none 0 0, .slice none 0 0] 183) := ⟨_, rfl⟩
  have hsz : W.heap.size = w.heap.size + 1 := by rw [hW]; simp only [World.alloc, Array.size_push]
  have hold : ∀ k, k < w.heap.size → W.heap[k]? = w.heap[k]? := fun k hk => by rw [hW]; simp only [World.alloc, Array.getElem?_push]; rw [if_neg (by omega)]
  have hnew : W.heap[w.heap.size]? = some (.cells #[.slice none 0 0, .slice none 0 0] 183 (0, 0)) := by rw [hW]; simp only [World.alloc, Array.getElem?_push, if_true]
  have hkW : ∀ L, Keep L w W := fun L => ⟨by rw [hW]; rfl, by rw [hW]; rfl, by rw [hW]; rfl, by omega, fun k hk _ => hold k hk⟩
  let C1 : Ctx := ⟨Tryz.prog, fun _ => False, W, fun b => C.zn γ b ∧ b < w.heap.size, 0, fun _ => undef, fun _ => 0, []⟩
  let γ1 : Gam := ⟨fun _ => ⟨none, 0, 0⟩, fun _ _ => ⟨none, 0, 0⟩, fun _ => 0, fun _ => none⟩
  have hmono : ∀ (s : Sh) (x : s.T) v, vrep w (C.zn γ) s x v → vrep W (C1.zn γ1) s x v := fun s x v ⟨cs, h1, h2⟩ => ⟨cs, zAs (by omega) (fun b hb hz => ⟨⟨.inl ⟨hz, hb⟩, rfl⟩, hold b hb⟩) s x cs h1, h2⟩
  rw [← hw] at ha hb hc
  have hf' : FnOK C1.P C1.L C1.w0 [.sl .int, .int] .bool q p vf := by
    obtain ⟨f, pre, caps, e1, e2, e3⟩ := hf
    rw [hP] at e2 e3
    exact ⟨f, pre, caps, e1, e2, fun w1 Z x vs hk hg hqx hargs => e3 w1 Z x vs (by rw [← hw]; exact (hkW C.L).step hk (fun b hb _ => hb.elim)) hg hqx hargs⟩
  have hgd : Gd C1.P C1.w0 := by
    have h1 := hen.ds.2.gd
    rw [hP, ← hw] at h1
    exact h1.later (hkW _)
  have hcall := zNN C1 γ1 (a, b, c, (q, p), ()) [va, vb, vc, vf] hm hq ⟨rfl, rfl, ⟨rfl, hgd, fun k hk => hk.elim⟩, fun r hr => absurd hr (Nat.not_lt_zero _), fun k l h => (by cases h), ⟨va, _, rfl, hmono _ _ _ ha, vb, _, rfl, hmono _ _ _ hb, vc, _, rfl, hmono _ _ _ hc, vf, _, rfl, hf', rfl⟩, fun p hp => (by cases hp), fun p hp => (by cases hp)⟩
  rw [← hw]
  go_enter_defers Tryz.func182, Tryz.ntmps182
  rw [show [va, vb, vc, vf].toArray = #[va, vb, vc, vf] from rfl] at hcall
  have hcall' : Calls Tryz.prog 216 #[va, vb, vc, vf] (C.w0.alloc (.cells #[.slice none 0 0, .slice none 0 0] 183)) (fun e w' => ∃ ch, e = .panicked ch ∧ zGz C1 183 (.sl (.sl .int)) (.sl .int) (stepP a b c (zDT a b c p)) (zBu a b c (zDT a b c p)) ch w') := by rw [← hw, ← hW]; exact hcall
  go_wp2_with (go_at_call 216; refine hcall'.mono ?_; rintro e w2 ⟨ch, rfl, g1, u, v, rfl, ⟨cu, hu, rfl⟩, ⟨cv, hv, rfl⟩, hk⟩)
  rw [← hw]
  have hu' := hu
  have hv' := hv
  obtain ⟨a1, c1, rfl, _⟩ := hu'
  obtain ⟨a2, c2, rfl, _⟩ := hv'
  have hb2 : w2.heap[w.heap.size]? = some (.cells #[.slice none 0 0, .slice none 0 0] 183 (0, 0)) := (hk.block w.heap.size (show w.heap.size < W.heap.size by omega) (fun h => h)).trans hnew
  have hk2 : Keep C.L w w2 := (hkW C.L).step hk (fun b hb _ => hb.elim)
  have hmono2 : ∀ (w3 : World), Keep (fun k => k = w.heap.size) w2 w3 → ∀ (s : Sh) (x : s.T) cs, pers w2 (C1.zn g1) s x cs → pers w3 (C.zn γ) s x cs := fun w3 hk3 s x cs hx => by
    refine zAs hk3.size (fun b hb hz => ?_) s x cs hx
    obtain ⟨hz1, _⟩ := hz
    rcases hz1 with ⟨h1, h2⟩ | h1 | h1
    · exact ⟨h1, hk3.block b hb (by omega)⟩
    · have h1' : W.heap.size ≤ b := h1
      refine ⟨⟨.inr (.inl (by rw [← hw]; omega)), ?_⟩, hk3.block b hb (by omega)⟩
      cases ho : γ.own b with
      | none => rfl
      | some l => exact absurd (hlt b l ho) (by rw [← hw]; omega)
    · exact h1.elim
  show Leaves Tryz.prog _ _ _ _ (.panicking _) w2
  refine leaves_cons (f := 215) (args := #[.pointer (some ⟨w.heap.size, 0, none⟩)]) (by simp) (by simp [go_sem]) ?_
  refine (zKW w.heap.size a1 a2 _ c1 _ c2 w2 _ _ _ hb2).mono ?_
  rintro e u' w3 ⟨rfl, rfl, hk3, hc3⟩
  have k0 : w3.cell? ⟨w.heap.size, 0, none⟩ = some (.slice a1 (stepP a b c (zDT a b c p)).length c1) := by simp [World.cell?, hc3]
  have k1 : w3.cell? ⟨w.heap.size, 1, none⟩ = some (.slice a2 (zBu a b c (zDT a b c p)).length c2) := by simp [World.cell?, hc3]
  have hu3 := hmono2 w3 hk3 _ _ _ hu
  have hv3 := hmono2 w3 hk3 _ _ _ hv
  have hkeep : Keep C.L w w3 := hk2.step hk3 (fun b hb hlt => absurd hlt (by omega))
  simp [Leaves, settle, results, Tryz.results182, go_sem, k0, k1]
  exact ⟨⟨γ, ⟨[], [], [_], rfl, ⟨_, [], rfl, ⟨_, ⟨_, _, rfl, hu3, hv3⟩, rfl⟩, rfl, rfl, rfl⟩, List.nodup_nil, List.nodup_nil⟩, fun p hp => absurd hp (List.not_mem_nil), fun p hp => absurd hp (List.not_mem_nil), fun k l hl => by have h1 := hlt k l hl; rw [← hw] at h1; have := hkeep.size; omega⟩, hkeep⟩
end Go.Proofs.YtlgkplnifaoeeaaGreatDoor
