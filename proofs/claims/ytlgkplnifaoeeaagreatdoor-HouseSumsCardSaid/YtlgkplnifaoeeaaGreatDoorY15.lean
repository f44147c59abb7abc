import Derived.Test.YtlgkplnifaoeeaaGreatDoorY14
import Derived.Test.YtlgkplnifaoeeaaGreatDoorY4
set_option linter.unusedSimpArgs false
set_option linter.unusedVariables false
namespace Go.Proofs.YtlgkplnifaoeeaaGreatDoor
open Go.RowKit Go.VS
theorem zBw {x y : Bool} (o : x = true → y = true) (h : y = false) : x = false := by
  cases x with
  | false => rfl
  | true => rw [o rfl] at h; cases h
structure StateSz (s : State) : Prop where
  c : s.1.length ≤ 1000
  row : ∀ k, k < s.1.length → (s.1.getD k []).length ≤ 1000
  a : s.2.1.length ≤ 1000
  b : s.2.2.1.length ≤ 1000
abbrev stSh : Sh := .prod (.sl (.sl .int)) (.prod (.sl .int) (.prod (.sl .int) .int))
def zCc (s : State) : AS := AS.of [(2, .one (.box 2))] [(27, .deep 25 3 .int s.1), (8, .flat 3 .int s.2.1), (11, .flat 3 .int s.2.2.1)] [(2, .rcd [.ref 27, .ref 8, .ref 11, .val .int s.2.2.2])]
def zIl (s : State) : AS := AS.of [(2, .one (.box 2))] [] [(2, .rcd [.val (.sl (.sl .int)) s.1, .val (.sl .int) s.2.1, .val (.sl .int) s.2.2.1, .val .int s.2.2.2])]
structure CloneQ (nl : Nat) (s : State) (e : Exit) (t : AS) : Prop where
  e : e = .normal ∨ e = .ret
  h : Weak nl t (zCc s)
set_option maxHeartbeats 4000000 in
theorem zJh {C : Ctx} (hE : KnowOK C.P (know [(119, zE4)] [])) (hnl : C.nl = 0) (s : State) (hs : StateSz s) {code : Code} (hb : Tryz.f74.body = some code) :
    tri C 31 code (CloneQ 0 s) (AS.of [(0, .one (.val stSh s))] [] []) := by
  obtain ⟨c, a, b, w⟩ := s
  obtain ⟨hc, hrow, ha, hbl⟩ := hs
  dsimp only at *
  have hb' : code = (Tryz.f74.body).getD .skip := by rw [hb]; rfl
  subst hb'
  clear hb
  show tri C 31 _ _ _
  dsimp only [Tryz.f74]
  simp only [Option.getD_some]
  have hnl0 := hnl
  replace hnl := And.intro hnl (And.intro ha hbl)
  repeat' (first|(refine goK (by assumption) ?_; iterate 4 (try clear hK K))|(refine zAd fun K hK => ?_)|((first|refine zAb hE rfl ?_|refine zAh ?_); simp +contextual only [hnl, ↓kN, ↓kP, ↓kG, ↓qN, ↓qP, ↓qG, push_cast, seval, reduceCtorEq, Int.cast_ofNat_Int])|refine zAc ?_|((first|refine zAg ?_|refine zAf ?_); simp only [thenQ, zAk, if_true, if_false, Nat.reduceEqDiff, reduceCtorEq])|(refine zAe (by rfl) (fun hb => ?_) (fun hb => ?_) <;> (try simp only [b1, b2, b3, b4, reduceCtorEq, b5, b6] at hb) <;> (try omega))|refine zAi (by rfl) ?_ ?_|refine andS ?_|(refine ⟨fun hc => ?_, fun hc => ?_⟩)|(intro hc; try omega))
  refine zEW hE (fun D s => (D 8 = true → D 2 = true) ∧
    (D 8 = true → D 5 = true) ∧
    (D 10 = true → D 8 = true) ∧
    (D 10 = true → D 9 = true) ∧
    s.boxes 1 = some (.one (.val (.prod (.sl (.sl .int)) (.prod (.sl .int) (.prod (.sl .int) .int))) (c, a, b, w))) ∧
    s.boxes 2 = some (.rcd [.nils, .nils, .nils, .val .int 0]) ∧
    s.env 1 = .one (.box 1) ∧
    s.env 2 = .one (.box 2) ∧
    (D 2 = true → s.roots 8 = some (.flat 3 .int a)) ∧
    (D 5 = true → s.roots 11 = some (.flat 3 .int b)) ∧
    (D 0 = true → s.env 6 = .one (.boxf 1 4 1 1)) ∧
    (D 1 = true → s.env 7 = .one (.val (.sl .int) a)) ∧
    (D 2 = true → s.env 8 = .one (.ref 8)) ∧
    (D 3 = true → s.env 9 = .one (.boxf 1 4 2 2)) ∧
    (D 4 = true → s.env 10 = .one (.val (.sl .int) b)) ∧
    (D 5 = true → s.env 11 = .one (.ref 11)) ∧
    (D 6 = true → s.env 12 = .one (.boxf 1 4 3 3)) ∧
    (D 7 = true → s.env 13 = .one (.val .int w)) ∧
    (D 8 = true → s.env 14 = .rcd [.nils, .ref 8, .ref 11, .val .int w]) ∧
    (D 9 = true → s.env 3 = .one (.box 3)) ∧
    (D 9 = true → D 10 = false → s.boxes 3 = some (.rcd [.nils, .nils, .nils, .val .int 0])) ∧
    (D 10 = true → s.boxes 3 = some (.rcd [.nils, .ref 8, .ref 11, .val .int w]))) rfl (by kernel_rfl) ?_ ?_ ?_
  · dsimp only
    simp only [push_cast, seval, reduceCtorEq, Int.cast_ofNat_Int]
  · refine ⟨fun D s h0 hp hI => ?_, fun D s h0 hp hI => ?_, fun D s h0 hp hI => ?_, fun D s h0 hp hI => ?_, fun D s h0 hp hI => ?_, fun D s h0 hp hI => ?_, fun D s h0 hp hI => ?_, fun D s h0 hp hI => ?_, fun D s h0 hp hI => ?_, fun D s h0 hp hI => ?_, fun D s h0 hp hI => ?_, trivial⟩
    all_goals obtain ⟨o1, o2, o3, o4, q1, q2, e1, e2, r8, r11, f0, f1, f2, f3, f4, f5, f6, f7, f8, f9, g9, f10⟩ := hI
    all_goals replace hp := List.all_eq_true.1 hp
    · simp +contextual only [hnl, h0, o1, o2, o3, o4, q1, q2, e1, e2, r8, r11, f0, f1, f2, f3, f4, f5, f6, f7, f8, f9, g9, f10, setD, ↓kN, ↓kP, push_cast, seval, reduceCtorEq, Int.cast_ofNat_Int]
    · have d0 := hp 0 (by decide)
      simp +contextual only [d0, hnl, h0, o1, o2, o3, o4, q1, q2, e1, e2, r8, r11, f0, f1, f2, f3, f4, f5, f6, f7, f8, f9, g9, f10, setD, ↓kN, ↓kP, push_cast, seval, reduceCtorEq, Int.cast_ofNat_Int]
    · have d1 := hp 1 (by decide)
      have n8 := zBw o1 h0
      have n10 := zBw o3 n8
      simp +contextual only [d1, n8, n10, hnl, h0, o1, o2, o3, o4, q1, q2, e1, e2, r8, r11, f0, f1, f2, f3, f4, f5, f6, f7, f8, f9, g9, f10, setD, ↓kN, ↓kP, push_cast, seval, reduceCtorEq, Int.cast_ofNat_Int]
    · simp +contextual only [hnl, h0, o1, o2, o3, o4, q1, q2, e1, e2, r8, r11, f0, f1, f2, f3, f4, f5, f6, f7, f8, f9, g9, f10, setD, ↓kN, ↓kP, push_cast, seval, reduceCtorEq, Int.cast_ofNat_Int]
    · have d3 := hp 3 (by decide)
      simp +contextual only [d3, hnl, h0, o1, o2, o3, o4, q1, q2, e1, e2, r8, r11, f0, f1, f2, f3, f4, f5, f6, f7, f8, f9, g9, f10, setD, ↓kN, ↓kP, push_cast, seval, reduceCtorEq, Int.cast_ofNat_Int]
    · have d4 := hp 4 (by decide)
      have n8 := zBw o2 h0
      have n10 := zBw o3 n8
      simp +contextual only [d4, n8, n10, hnl, h0, o1, o2, o3, o4, q1, q2, e1, e2, r8, r11, f0, f1, f2, f3, f4, f5, f6, f7, f8, f9, g9, f10, setD, ↓kN, ↓kP, push_cast, seval, reduceCtorEq, Int.cast_ofNat_Int]
    · simp +contextual only [hnl, h0, o1, o2, o3, o4, q1, q2, e1, e2, r8, r11, f0, f1, f2, f3, f4, f5, f6, f7, f8, f9, g9, f10, setD, ↓kN, ↓kP, push_cast, seval, reduceCtorEq, Int.cast_ofNat_Int]
    · have d6 := hp 6 (by decide)
      simp +contextual only [d6, hnl, h0, o1, o2, o3, o4, q1, q2, e1, e2, r8, r11, f0, f1, f2, f3, f4, f5, f6, f7, f8, f9, g9, f10, setD, ↓kN, ↓kP, push_cast, seval, reduceCtorEq, Int.cast_ofNat_Int]
    · have d2 := hp 2 (by decide)
      have d5 := hp 5 (by decide)
      have d7 := hp 7 (by decide)
      have n10 := zBw o3 h0
      simp +contextual only [d2, d5, d7, n10, hnl, h0, o1, o2, o3, o4, q1, q2, e1, e2, r8, r11, f0, f1, f2, f3, f4, f5, f6, f7, f8, f9, g9, f10, setD, ↓kN, ↓kP, push_cast, seval, reduceCtorEq, Int.cast_ofNat_Int]
    · have n10 := zBw o4 h0
      simp +contextual only [n10, hnl, h0, o1, o2, o3, o4, q1, q2, e1, e2, r8, r11, f0, f1, f2, f3, f4, f5, f6, f7, f8, f9, g9, f10, setD, ↓kN, ↓kP, push_cast, seval, reduceCtorEq, Int.cast_ofNat_Int]
    · have d8 := hp 8 (by decide)
      have d9 := hp 9 (by decide)
      simp +contextual only [d8, d9, hnl, h0, o1, o2, o3, o4, q1, q2, e1, e2, r8, r11, f0, f1, f2, f3, f4, f5, f6, f7, f8, f9, g9, f10, setD, ↓kN, ↓kP, push_cast, seval, reduceCtorEq, Int.cast_ofNat_Int]
  intro D s hD hI
  obtain ⟨o1, o2, o3, o4, q1, q2, e1, e2, r8, r11, f0, f1, f2, f3, f4, f5, f6, f7, f8, f9, g9, f10⟩ := hI
  have v1 := r8 (hD 2 (by decide))
  have v2 := r11 (hD 5 (by decide))
  have v3 := f10 (hD 10 (by decide))
  have v4 := f9 (hD 9 (by decide))
  refine goK hK ?_
  refine zAK (t := AS.of [(1, .one (.box 1)), (2, .one (.box 2)), (3, .one (.box 3))] [(8, .flat 3 .int a), (11, .flat 3 .int b)] [(1, .one (.val stSh (c, a, b, w))), (2, .rcd [.nils, .nils, .nils, .val .int 0]), (3, .rcd [.nils, .ref 8, .ref 11, .val .int w])]) ?_ ?_
  · refine zAj ?_ ?_ ?_ <;> simp only [v1, v2, v3, v4, q1, q2, e1, e2, push_cast, seval, reduceCtorEq, Int.cast_ofNat_Int]
  clear hK hD
  repeat' (first|(refine goK (by assumption) ?_; iterate 4 (try clear hK K))|(refine zAd fun K hK => ?_)|((first|refine zAb hE rfl ?_|refine zAh ?_); simp +contextual only [hnl, ↓kN, ↓kP, ↓kG, ↓qN, ↓qP, ↓qG, push_cast, seval, reduceCtorEq, Int.cast_ofNat_Int])|refine zAc ?_|((first|refine zAg ?_|refine zAf ?_); simp only [thenQ, zAk, if_true, if_false, Nat.reduceEqDiff, reduceCtorEq])|(refine zAe (by rfl) (fun hb => ?_) (fun hb => ?_) <;> (try simp only [b1, b2, b3, b4, reduceCtorEq, b5, b6] at hb) <;> (try omega))|refine zAi (by rfl) ?_ ?_|refine andS ?_|(refine ⟨fun hc => ?_, fun hc => ?_⟩)|(intro hc; try omega))
  refine zAl (fun k : Nat => AS.of [(2, .one (.box 2)), (3, .one (.box 3)), (16, .one (.val (.sl (.sl .int)) c)), (17, .I (c.length : Nat)), (18, .I (k : Nat))] [(27, .deep 25 3 .int (c.take k)), (8, .flat 3 .int a), (11, .flat 3 .int b)] [(2, .rcd [.nils, .nils, .nils, .val .int 0]), (3, .rcd [.ref 27, .ref 8, .ref 11, .val .int w])]) (fun k => k ≤ c.length) (fun k => c.length - k) 0 (Nat.zero_le _) ?_ ?_
  · refine zAj ?_ ?_ ?_ <;> simp only [push_cast, seval, reduceCtorEq, Int.cast_ofNat_Int]
    all_goals first | omega | rfl | exact ⟨by omega, rfl⟩ | skip
  intro k hk K' hL
  rcases Nat.lt_or_ge k c.length with hkl | hkl
  · have hrk := hrow k hkl
    have htl : (c.take k).length ≤ 1000000 := by rw [List.length_take]; omega
    have hst : c.take k ++ [c.getD k []] = c.take (k + 1) := by
      rw [List.take_succ_eq_append_getElem hkl]
      simp [List.getD_eq_getElem?_getD, hkl]
    replace hnl := And.intro hnl (And.intro hrk (And.intro htl hst))
    repeat' (first|(refine goK (by assumption) ?_; iterate 4 (try clear hK K))|(refine zAd fun K hK => ?_)|((first|refine zAb hE rfl ?_|refine zAh ?_); simp +contextual only [hnl, ↓kN, ↓kP, ↓kG, ↓qN, ↓qP, ↓qG, push_cast, seval, reduceCtorEq, Int.cast_ofNat_Int])|refine zAc ?_|((first|refine zAg ?_|refine zAf ?_); simp only [thenQ, zAk, if_true, if_false, Nat.reduceEqDiff, reduceCtorEq])|(refine zAe (by rfl) (fun hb => ?_) (fun hb => ?_) <;> (try simp only [b1, b2, b3, b4, reduceCtorEq, b5, b6] at hb) <;> (try omega))|refine zAi (by rfl) ?_ ?_|refine andS ?_|(refine ⟨fun hc => ?_, fun hc => ?_⟩)|(intro hc; try omega))
    refine zEW hE (fun D s => (D 5 = true → D 1 = true) ∧
      (D 5 = true → D 4 = true) ∧
      (D 4 = true → D 3 = true) ∧
      (D 7 = true → D 5 = true) ∧
      s.env 2 = .one (.box 2) ∧
      s.env 3 = .one (.box 3) ∧
      s.env 5 = .one (.val (.sl .int) (c.getD k [])) ∧
      s.env 16 = .one (.val (.sl (.sl .int)) c) ∧
      s.env 17 = .I (c.length : Nat) ∧
      s.env 18 = .I (k : Nat) ∧
      s.boxes 2 = some (.rcd [.nils, .nils, .nils, .val .int 0]) ∧
      s.roots 8 = some (.flat 3 .int a) ∧
      s.roots 11 = some (.flat 3 .int b) ∧
      s.roots 27 = some (.deep 25 3 .int (if D 5 = true then c.take (k + 1) else c.take k)) ∧
      (D 3 = true → D 5 = false → s.roots 25 = some (.flat 3 .int (c.getD k []))) ∧
      (D 5 = false → s.boxes 3 = some (.rcd [.ref 27, .ref 8, .ref 11, .val .int w])) ∧
      (D 5 = true → D 7 = false → s.boxes 3 = some (.rcd [.any, .ref 8, .ref 11, .val .int w])) ∧
      (D 7 = true → s.boxes 3 = some (.rcd [.ref 27, .ref 8, .ref 11, .val .int w])) ∧
      (D 0 = true → s.env 22 = .one (.boxf 3 4 0 0)) ∧
      (D 1 = true → D 5 = false → s.env 23 = .one (.ref 27)) ∧
      (D 2 = true → s.env 24 = .one (.val (.sl .int) (c.getD k []))) ∧
      (D 3 = true → D 5 = false → s.env 25 = .one (.ref 25)) ∧
      (D 4 = true → D 5 = false → s.env 26 = .one (.lits 25)) ∧
      (D 5 = true → s.env 27 = .one (.ref 27)) ∧
      (D 6 = true → s.env 28 = .one (.boxf 3 4 0 0))) rfl (by kernel_rfl) ?_ ?_ ?_
    · dsimp only
      simp only [push_cast, seval, reduceCtorEq, Int.cast_ofNat_Int]
    · refine ⟨fun D s h0 hp hI => ?_, fun D s h0 hp hI => ?_, fun D s h0 hp hI => ?_, fun D s h0 hp hI => ?_, fun D s h0 hp hI => ?_, fun D s h0 hp hI => ?_, fun D s h0 hp hI => ?_, fun D s h0 hp hI => ?_, trivial⟩
      all_goals obtain ⟨o1, o2, o3, o4, e2, e3, e5, e16, e17, e18, q2, r8, r11, r27, r25, q3, q5, q7, f0, f1, f2, f3, f4, f5, f6⟩ := hI
      all_goals replace hp := List.all_eq_true.1 hp
      · simp +contextual only [hnl, h0, o1, o2, o3, o4, e2, e3, e5, e16, e17, e18, q2, r8, r11, r27, r25, q3, q5, q7, f0, f1, f2, f3, f4, f5, f6, setD, ↓kN, ↓kP, push_cast, seval, reduceCtorEq, Int.cast_ofNat_Int]
      · have d0 := hp 0 (by decide)
        have n5 := zBw o1 h0
        have n7 := zBw o4 n5
        simp +contextual only [d0, n5, n7, hnl, h0, o1, o2, o3, o4, e2, e3, e5, e16, e17, e18, q2, r8, r11, r27, r25, q3, q5, q7, f0, f1, f2, f3, f4, f5, f6, setD, ↓kN, ↓kP, push_cast, seval, reduceCtorEq, Int.cast_ofNat_Int]
      · simp +contextual only [hnl, h0, o1, o2, o3, o4, e2, e3, e5, e16, e17, e18, q2, r8, r11, r27, r25, q3, q5, q7, f0, f1, f2, f3, f4, f5, f6, setD, ↓kN, ↓kP, push_cast, seval, reduceCtorEq, Int.cast_ofNat_Int]
      · have d2 := hp 2 (by decide)
        have n4 := zBw o3 h0
        have n5 := zBw o2 n4
        have n7 := zBw o4 n5
        simp +contextual only [d2, n4, n5, n7, hnl, h0, o1, o2, o3, o4, e2, e3, e5, e16, e17, e18, q2, r8, r11, r27, r25, q3, q5, q7, f0, f1, f2, f3, f4, f5, f6, setD, ↓kN, ↓kP, push_cast, seval, reduceCtorEq, Int.cast_ofNat_Int]
      · have d3 := hp 3 (by decide)
        have n5 := zBw o2 h0
        have n7 := zBw o4 n5
        simp +contextual only [d3, n5, n7, hnl, h0, o1, o2, o3, o4, e2, e3, e5, e16, e17, e18, q2, r8, r11, r27, r25, q3, q5, q7, f0, f1, f2, f3, f4, f5, f6, setD, ↓kN, ↓kP, push_cast, seval, reduceCtorEq, Int.cast_ofNat_Int]
      · have d1 := hp 1 (by decide)
        have d4 := hp 4 (by decide)
        have n7 := zBw o4 h0
        have d3 := o3 d4
        simp +contextual only [d1, d4, n7, d3, hnl, h0, o1, o2, o3, o4, e2, e3, e5, e16, e17, e18, q2, r8, r11, r27, r25, q3, q5, q7, f0, f1, f2, f3, f4, f5, f6, setD, ↓kN, ↓kP, push_cast, seval, reduceCtorEq, Int.cast_ofNat_Int]
      · simp +contextual only [hnl, h0, o1, o2, o3, o4, e2, e3, e5, e16, e17, e18, q2, r8, r11, r27, r25, q3, q5, q7, f0, f1, f2, f3, f4, f5, f6, setD, ↓kN, ↓kP, push_cast, seval, reduceCtorEq, Int.cast_ofNat_Int]
      · have d5 := hp 5 (by decide)
        have d6 := hp 6 (by decide)
        simp +contextual only [d5, d6, hnl, h0, o1, o2, o3, o4, e2, e3, e5, e16, e17, e18, q2, r8, r11, r27, r25, q3, q5, q7, f0, f1, f2, f3, f4, f5, f6, setD, ↓kN, ↓kP, push_cast, seval, reduceCtorEq, Int.cast_ofNat_Int]
    intro D s hD hI
    obtain ⟨o1, o2, o3, o4, e2, e3, e5, e16, e17, e18, q2, r8, r11, r27, r25, q3, q5, q7, f0, f1, f2, f3, f4, f5, f6⟩ := hI
    have v1 := r27
    rw [if_pos (hD 5 (by decide))] at v1
    have v3 := q7 (hD 7 (by decide))
    refine goK hK ?_
    refine zAK (t := AS.of [(2, .one (.box 2)), (3, .one (.box 3)), (16, .one (.val (.sl (.sl .int)) c)), (17, .I (c.length : Nat)), (18, .I (k : Nat))] [(27, .deep 25 3 .int (c.take (k + 1))), (8, .flat 3 .int a), (11, .flat 3 .int b)] [(2, .rcd [.nils, .nils, .nils, .val .int 0]), (3, .rcd [.ref 27, .ref 8, .ref 11, .val .int w])]) ?_ ?_
    · refine zAj ?_ ?_ ?_ <;> simp only [v1, v3, r8, r11, q2, e2, e3, e16, e17, e18, push_cast, seval, reduceCtorEq, Int.cast_ofNat_Int]
    clear hK hD
    repeat' (first|(refine goK (by assumption) ?_; iterate 4 (try clear hK K))|(refine zAd fun K hK => ?_)|((first|refine zAb hE rfl ?_|refine zAh ?_); simp +contextual only [hnl, ↓kN, ↓kP, ↓kG, ↓qN, ↓qP, ↓qG, push_cast, seval, reduceCtorEq, Int.cast_ofNat_Int])|refine zAc ?_|((first|refine zAg ?_|refine zAf ?_); simp only [thenQ, zAk, if_true, if_false, Nat.reduceEqDiff, reduceCtorEq])|(refine zAe (by rfl) (fun hb => ?_) (fun hb => ?_) <;> (try simp only [b1, b2, b3, b4, reduceCtorEq, b5, b6] at hb) <;> (try omega))|refine zAi (by rfl) ?_ ?_|refine andS ?_|(refine ⟨fun hc => ?_, fun hc => ?_⟩)|(intro hc; try omega))
    refine hL _ (k + 1) (by omega) (by omega) ?_
    refine zAj ?_ ?_ ?_ <;> simp only [push_cast, seval, reduceCtorEq, Int.cast_ofNat_Int]
  · obtain rfl : k = c.length := by omega
    clear hL
    repeat' (first|(refine goK (by assumption) ?_; iterate 4 (try clear hK K))|(refine zAd fun K hK => ?_)|((first|refine zAb hE rfl ?_|refine zAh ?_); simp +contextual only [hnl, ↓kN, ↓kP, ↓kG, ↓qN, ↓qP, ↓qG, push_cast, seval, reduceCtorEq, Int.cast_ofNat_Int])|refine zAc ?_|((first|refine zAg ?_|refine zAf ?_); simp only [thenQ, zAk, if_true, if_false, Nat.reduceEqDiff, reduceCtorEq])|(refine zAe (by rfl) (fun hb => ?_) (fun hb => ?_) <;> (try simp only [b1, b2, b3, b4, reduceCtorEq, b5, b6] at hb) <;> (try omega))|refine zAi (by rfl) ?_ ?_|refine andS ?_|(refine ⟨fun hc => ?_, fun hc => ?_⟩)|(intro hc; try omega))
    all_goals ((try refine zAh ?_); refine ⟨.inr rfl, ?_⟩; unfold zCc; dsimp only; refine zAj ?_ ?_ ?_ <;> simp only [push_cast, seval, reduceCtorEq, Int.cast_ofNat_Int]; exact .inl (by rw [List.take_length]))
def zOv : Know := know [(119, zE4)] []
theorem zJg : KnowOK Tryz.prog zOv := zAm (all_cons zM5 all_nil) all_nil all_nil
@[push_cast] def zDi : Con := ⟨[.dat stSh], fun (x : State × Unit) => StateSz x.1, fun (x : State × Unit) => { res := [.val stSh x.1] }⟩
theorem stClone_spec : FnSpec Tryz.prog 74 zDi := by
  refine FnSpec.of_tri' (E := zOv) zJg Tryz.func74 rfl rfl (by kernel_rfl) ?_
  intro C x hE hnl hfit hpre
  simp only [Tryz.ntmps74, Tryz.results74, lends] at hnl ⊢
  obtain ⟨s, _⟩ := x
  refine zMU (zMU (zRC (zJh hE hnl s hpre rfl) ?_))
  rintro e t ⟨he, hw⟩
  refine ⟨zCc s, by rw [hnl]; exact hw, zIl s, ?_, ?_⟩
  · unfold zCc zIl
    refine zAj ?_ ?_ ?_ <;> simp only [push_cast, seval, reduceCtorEq, Int.cast_ofNat_Int]
  · unfold zIl
    rcases he with rfl | rfl <;> simp only [zOv, hnl, push_cast, seval, reduceCtorEq, Int.cast_ofNat_Int]
end Go.Proofs.YtlgkplnifaoeeaaGreatDoor
namespace Go.Proofs.YtlgkplnifaoeeaaGreatDoor
open Go.RowKit Go.VS
def hw (t : ByteArray) (i : Nat) : ByteArray := (zAP t spS).getD i ByteArray.empty
def zGM (s : ByteArray) : Bool := zDJ s && decide (0 ≤ atoiV s) && decide (atoiV s ≤ 99999) && decide (itoaV (atoiV s) = s)
def hform (t : ByteArray) : Int × Int := smGet formsL (hw t 0)
def hpOK (t : ByteArray) : Bool := decide (1 ≤ t.size ∧ t.size ≤ 30) && smHas formsL (hw t 0) && decide (((zAP t spS).length : Int) = (hform t).2 + 1) && (List.range ((zAP t spS).length - 1)).all fun i => zGM (hw t (i + 1))
def zJs (t : ByteArray) (k : Nat) : List Int := tbl k fun i => atoiV (hw t (i + 1))
def hargs (t : ByteArray) : List Int := zJs t ((zAP t spS).length - 1)
section
variable {t : ByteArray} {k : Nat}
theorem zCZ : hpOK t = true ↔ ((1 ≤ t.size ∧ t.size ≤ 30) ∧ smHas formsL (hw t 0) = true ∧ ((zAP t spS).length : Int) = (hform t).2 + 1) ∧ ∀ i, i < (zAP t spS).length - 1 → zGM (hw t (i + 1)) = true := by
  simp only [hpOK, Bool.and_eq_true, decide_eq_true_eq, List.all_eq_true, List.mem_range, and_assoc]
theorem zTs (h : ¬ (1 ≤ t.size ∧ t.size ≤ 30)) : hpOK t = false := by
  rw [Bool.eq_false_iff]; exact fun h2 => h (zCZ.1 h2).1.1
theorem zTt (h : ¬ smHas formsL (hw t 0) = true) : hpOK t = false := by
  rw [Bool.eq_false_iff]; exact fun h2 => h (zCZ.1 h2).1.2.1
theorem zTu (h : ¬ ((zAP t spS).length : Int) = (hform t).2 + 1) : hpOK t = false := by
  rw [Bool.eq_false_iff]; exact fun h2 => h (zCZ.1 h2).1.2.2
theorem zTv (hk : k < (zAP t spS).length - 1) (h : ¬ zGM (hw t (k + 1)) = true) : hpOK t = false := by
  rw [Bool.eq_false_iff]; exact fun h2 => h ((zCZ.1 h2).2 k hk)
theorem zFA {s : ByteArray} : zGM s = true ↔ zDJ s = true ∧ 0 ≤ atoiV s ∧ atoiV s ≤ 99999 ∧ itoaV (atoiV s) = s := by
  simp only [zGM, Bool.and_eq_true, decide_eq_true_eq, and_assoc]
theorem zIZ (k : ByteArray) : 0 ≤ (smGet formsL k).1 ∧ (smGet formsL k).1 ≤ 6 ∧ 0 ≤ (smGet formsL k).2 ∧ (smGet formsL k).2 ≤ 3 := by
  unfold smGet
  cases h : formsL.find? (fun p => decide (p.1 = k)) with
  | none => exact ⟨by decide, by decide, by decide, by decide⟩
  | some p =>
    have hm := List.mem_of_find?_eq_some h
    simp only [formsL, List.mem_cons, List.not_mem_nil, or_false] at hm
    rcases hm with rfl | rfl | rfl | rfl | rfl | rfl | rfl <;> exact ⟨by decide, by decide, by decide, by decide⟩
end
@[push_cast] def zE7 : Con := ⟨[.dat .str], fun _ => True, fun (x : ByteArray × Unit) =>
  { res := [.val .int (if hpOK x.1 = true then (hform x.1).1 else 0), .own (.flat 3 .int (if hpOK x.1 = true then hargs x.1 else [])), .val (.err 161) (if hpOK x.1 = true then 0 else 2)] }⟩
set_option maxHeartbeats 4000000 in
theorem zLa : FnSpec Tryz.prog 77 zE7 := by
  refine FnSpec.of_tri' (E := know [(122, zI0), (123, zMg), (124, zKK), (125, zLb)] [] [] []) (zAm (all_cons zH1 (all_cons zNg (all_cons zJb (all_cons zJv all_nil)))) all_nil all_nil) Tryz.func77 rfl rfl (by kernel_rfl) ?_
  intro C x hE hnl hfit hpre
  simp only [Tryz.ntmps77, Tryz.results77, maxLen, Nat.reduceSub, Nat.reducePow, Nat.reduceAdd, Int.cast_ofNat_Int, push_cast] at hnl hfit hpre ⊢
  obtain ⟨(t : ByteArray), _⟩ := x
  dsimp only at hfit hpre ⊢
  by_cases h1 : 1 ≤ t.size ∧ t.size ≤ 30
  rotate_left
  · have e := zTs h1
    replace hnl := And.intro hnl (And.intro e zML)
    exact auA
  have hsp : spS.size = 1 := rfl
  have hpos : 1 ≤ (zAP t spS).length := by rw [zEu t spS (by omega)]; omega
  have hlen := zHZ t spS (by omega)
  have hw0 : (zAP t spS).getD 0 ByteArray.empty = hw t 0 := rfl
  have hfo : smGet formsL (hw t 0) = hform t := rfl
  obtain ⟨f1, f2, f3, f4⟩ := zIZ (hw t 0)
  rw [hfo] at f1 f2 f3 f4
  have hnl1 := hnl
  replace hnl := And.intro hnl (And.intro zML (And.intro hw0 (And.intro hfo hsp)))
  repeat' (first|(refine goK (by assumption) ?_; iterate 4 (try clear hK K))|(refine zAd fun K hK => ?_)|((first|refine zAb hE rfl ?_|refine zAh ?_); simp +contextual only [hnl, ↓kN, ↓kP, ↓kG, ↓qN, ↓qP, ↓qG, push_cast, seval, reduceCtorEq, Int.cast_ofNat_Int])|refine zAc ?_|((first|refine zAg ?_|refine zAf ?_); simp only [thenQ, zAk, if_true, if_false, Nat.reduceEqDiff, reduceCtorEq])|(refine zAe (by rfl) (fun hb => ?_) (fun hb => ?_) <;> (try simp only [b1, b2, b3, b4, reduceCtorEq, b5, b6] at hb) <;> (try omega))|refine zAi (by rfl) ?_ ?_|refine andS ?_|(refine ⟨fun hc => ?_, fun hc => ?_⟩)|(intro hc; try omega))
  refine zEW hE (fun D s => (D 9 = true → D 8 = true) ∧
    s.env 5 = .one (.val (.sl .str) (zAP t spS)) ∧
    (D 0 = true → s.env 26 = .one (.val .smap formsL)) ∧
    (D 1 = true → s.env 27 = .one (.val (.sl .str) (zAP t spS))) ∧
    (D 2 = true → s.env 28 = .one (.padr .str (hw t 0))) ∧
    (D 3 = true → s.env 29 = .one (.val .str (hw t 0))) ∧
    (D 4 = true → s.env 30 = .tup [.val (.prod .int .int) (hform t), .val .bool (smHas formsL (hw t 0))]) ∧
    (D 5 = true → s.env 25 = .tup [.val (.prod .int .int) (hform t), .val .bool (smHas formsL (hw t 0))]) ∧
    (D 6 = true → s.env 31 = .one (.val (.prod .int .int) (hform t))) ∧
    (D 7 = true → s.env 32 = .one (.val .bool (smHas formsL (hw t 0)))) ∧
    (D 8 = true → s.env 6 = .one (.box 6)) ∧
    (D 8 = true → D 9 = false → s.boxes 6 = some (.rcd [.val .int 0, .val .int 0])) ∧
    (D 9 = true → s.boxes 6 = some (.one (.val (.prod .int .int) (hform t)))) ∧
    (D 10 = true → s.env 7 = .one (.val .bool (smHas formsL (hw t 0))))) rfl (by kernel_rfl) ?_ ?_ ?_
  · dsimp only
    simp only [push_cast, seval, reduceCtorEq, Int.cast_ofNat_Int]
  · refine ⟨fun D s h0 hp hI => ?_, fun D s h0 hp hI => ?_, fun D s h0 hp hI => ?_, fun D s h0 hp hI => ?_, fun D s h0 hp hI => ?_, fun D s h0 hp hI => ?_, fun D s h0 hp hI => ?_, fun D s h0 hp hI => ?_, fun D s h0 hp hI => ?_, fun D s h0 hp hI => ?_, fun D s h0 hp hI => ?_, trivial⟩
    all_goals obtain ⟨o1, e5, f0, f1, f2, f3, f4, f5, f6, f7, f8, g8, f9, f10⟩ := hI
    all_goals replace hp := List.all_eq_true.1 hp
    · simp +contextual only [hnl, h0, o1, e5, f0, f1, f2, f3, f4, f5, f6, f7, f8, g8, f9, f10, setD, ↓kN, ↓kP, push_cast, seval, reduceCtorEq, Int.cast_ofNat_Int]
    · simp +contextual only [hnl, h0, o1, e5, f0, f1, f2, f3, f4, f5, f6, f7, f8, g8, f9, f10, setD, ↓kN, ↓kP, push_cast, seval, reduceCtorEq, Int.cast_ofNat_Int]
    · have d1 := hp 1 (by decide)
      simp +contextual only [d1, hnl, h0, o1, e5, f0, f1, f2, f3, f4, f5, f6, f7, f8, g8, f9, f10, setD, ↓kN, ↓kP, push_cast, seval, reduceCtorEq, Int.cast_ofNat_Int]
      omega
    · have d2 := hp 2 (by decide)
      simp +contextual only [d2, hnl, h0, o1, e5, f0, f1, f2, f3, f4, f5, f6, f7, f8, g8, f9, f10, setD, ↓kN, ↓kP, push_cast, seval, reduceCtorEq, Int.cast_ofNat_Int]
    · have d0 := hp 0 (by decide)
      have d3 := hp 3 (by decide)
      simp +contextual only [d0, d3, hnl, h0, o1, e5, f0, f1, f2, f3, f4, f5, f6, f7, f8, g8, f9, f10, setD, ↓kN, ↓kP, push_cast, seval, reduceCtorEq, Int.cast_ofNat_Int]
    · have d4 := hp 4 (by decide)
      simp +contextual only [d4, hnl, h0, o1, e5, f0, f1, f2, f3, f4, f5, f6, f7, f8, g8, f9, f10, setD, ↓kN, ↓kP, push_cast, seval, reduceCtorEq, Int.cast_ofNat_Int]
    · have d5 := hp 5 (by decide)
      simp +contextual only [d5, hnl, h0, o1, e5, f0, f1, f2, f3, f4, f5, f6, f7, f8, g8, f9, f10, setD, ↓kN, ↓kP, push_cast, seval, reduceCtorEq, Int.cast_ofNat_Int]
    · have d5 := hp 5 (by decide)
      simp +contextual only [d5, hnl, h0, o1, e5, f0, f1, f2, f3, f4, f5, f6, f7, f8, g8, f9, f10, setD, ↓kN, ↓kP, push_cast, seval, reduceCtorEq, Int.cast_ofNat_Int]
    · have n9 := zBw o1 h0
      simp +contextual only [n9, hnl, h0, o1, e5, f0, f1, f2, f3, f4, f5, f6, f7, f8, g8, f9, f10, setD, ↓kN, ↓kP, push_cast, seval, reduceCtorEq, Int.cast_ofNat_Int]
    · have d8 := hp 8 (by decide)
      have d6 := hp 6 (by decide)
      simp +contextual only [d8, d6, hnl, h0, o1, e5, f0, f1, f2, f3, f4, f5, f6, f7, f8, g8, f9, f10, setD, ↓kN, ↓kP, push_cast, seval, reduceCtorEq, Int.cast_ofNat_Int]
    · have d7 := hp 7 (by decide)
      simp +contextual only [d7, hnl, h0, o1, e5, f0, f1, f2, f3, f4, f5, f6, f7, f8, g8, f9, f10, setD, ↓kN, ↓kP, push_cast, seval, reduceCtorEq, Int.cast_ofNat_Int]
  intro D s hD hI
  obtain ⟨o1, e5, f0, f1, f2, f3, f4, f5, f6, f7, f8, g8, f9, f10⟩ := hI
  have v1 := f8 (hD 8 (by decide))
  have v2 := f9 (hD 9 (by decide))
  have v3 := f10 (hD 10 (by decide))
  refine goK hK ?_
  refine zAK (t := AS.of [(5, .one (.val (.sl .str) (zAP t spS))), (6, .one (.box 6)), (7, .one (.val .bool (smHas formsL (hw t 0))))] [] [(6, .one (.val (.prod .int .int) (hform t)))]) ?_ ?_
  · refine zAj ?_ ?_ ?_ <;> simp only [v1, v2, v3, e5, push_cast, seval, reduceCtorEq, Int.cast_ofNat_Int]
    all_goals first | exact ⟨_, rfl⟩ | skip
  clear hK hD
  replace hnl := hnl1
  by_cases h2 : smHas formsL (hw t 0) = true
  rotate_left
  · have e := zTt h2
    rw [Bool.not_eq_true] at h2
    replace hnl := And.intro hnl (And.intro e h2)
    exact auA
  by_cases h3 : ((zAP t spS).length : Int) = (hform t).2 + 1
  rotate_left
  · have e := zTu h3
    replace hnl := And.intro hnl (And.intro e (And.intro h2 (eq_false h3)))
    exact auA
  replace hnl := And.intro hnl (And.intro h2 (eq_true h3))
  repeat' (first|(refine goK (by assumption) ?_; iterate 4 (try clear hK K))|(refine zAd fun K hK => ?_)|((first|refine zAb hE rfl ?_|refine zAh ?_); simp +contextual only [hnl, ↓kN, ↓kP, ↓kG, ↓qN, ↓qP, ↓qG, push_cast, seval, reduceCtorEq, Int.cast_ofNat_Int])|refine zAc ?_|((first|refine zAg ?_|refine zAf ?_); simp only [thenQ, zAk, if_true, if_false, Nat.reduceEqDiff, reduceCtorEq])|(refine zAe (by rfl) (fun hb => ?_) (fun hb => ?_) <;> (try simp only [b1, b2, b3, b4, reduceCtorEq, b5, b6] at hb) <;> (try omega))|refine zAi (by rfl) ?_ ?_|refine andS ?_|(refine ⟨fun hc => ?_, fun hc => ?_⟩)|(intro hc; try omega))
  refine zAl (fun k : Nat => AS.of [(6, .one (.box 6)), (8, .one (.ref 78)), (46, .one (.val (.sl .str) ((zAP t spS).drop 1))), (47, .I ((zAP t spS).length - 1 : Nat)), (48, .I k)] [(78, .flat 3 .int (zJs t k))] [(6, .one (.val (.prod .int .int) (hform t)))]) (fun k => k ≤ (zAP t spS).length - 1 ∧ ∀ i, i < k → zGM (hw t (i + 1)) = true) (fun k => (zAP t spS).length - 1 - k) 0 ⟨Nat.zero_le _, by omega⟩ ?_ ?_
  · refine zAj ?_ ?_ ?_ <;> simp only [push_cast, seval, reduceCtorEq, Int.cast_ofNat_Int]
    all_goals first | omega | rfl | exact ⟨by omega, rfl⟩ | (rw [List.length_drop]) | skip
  intro k ⟨hk, hall⟩ K' hL
  have hal : (zJs t k).length = k := zBK _ _
  have hdl : ((zAP t spS).drop 1).length = (zAP t spS).length - 1 := List.length_drop ..
  rcases Nat.lt_or_ge k ((zAP t spS).length - 1) with hkl | hkl
  · have hwk : ((zAP t spS).drop 1).getD k ByteArray.empty = hw t (k + 1) := by
      simp only [List.getD_eq_getElem?_getD, List.getElem?_drop, hw]
      rw [Nat.add_comm]
    have hws : (hw t (k + 1)).size ≤ 30 := by
      have := zH0 t spS (hw t (k + 1)) (by
        have hk1 : k + 1 < (zAP t spS).length := by omega
        simp only [hw, List.getD_eq_getElem?_getD, List.getElem?_eq_getElem hk1, Option.getD_some]
        exact List.getElem_mem _)
      omega
    replace hnl := And.intro hnl (And.intro hwk (And.intro hdl hal))
    by_cases h4 : zGM (hw t (k + 1)) = true
    · obtain ⟨q1, q2, q3, q4⟩ := zFA.1 h4
      have hst : zJs t (k + 1) = zJs t k ++ [atoiV (hw t (k + 1))] := zFr _ _
      have hin : InR (atoiV (hw t (k + 1))) := by unfold InR; omega
      replace hnl := And.intro hnl (And.intro q1 (And.intro q4 (eq_true hin)))
      repeat' (first|(refine goK (by assumption) ?_; iterate 4 (try clear hK K))|(refine zAd fun K hK => ?_)|((first|refine zAb hE rfl ?_|refine zAh ?_); simp +contextual only [hnl, ↓kN, ↓kP, ↓kG, ↓qN, ↓qP, ↓qG, push_cast, seval, reduceCtorEq, Int.cast_ofNat_Int])|refine zAc ?_|((first|refine zAg ?_|refine zAf ?_); simp only [thenQ, zAk, if_true, if_false, Nat.reduceEqDiff, reduceCtorEq])|(refine zAe (by rfl) (fun hb => ?_) (fun hb => ?_) <;> (try simp only [b1, b2, b3, b4, reduceCtorEq, b5, b6] at hb) <;> (try omega))|refine zAi (by rfl) ?_ ?_|refine andS ?_|(refine ⟨fun hc => ?_, fun hc => ?_⟩)|(intro hc; try omega))
      refine hL _ (k + 1) ⟨by omega, fun i hi => ?_⟩ (by omega) ?_
      · rcases Nat.lt_or_ge i k with h5 | h5
        · exact hall i h5
        · obtain rfl : i = k := by omega
          exact h4
      refine zAj ?_ ?_ ?_ <;> simp only [push_cast, seval, reduceCtorEq, Int.cast_ofNat_Int]
      exact .inl (by rw [hst])
    · have e := zTv hkl h4
      cases q1 : zDJ (hw t (k + 1)) with
      | false =>
        replace hnl := And.intro hnl (And.intro q1 e)
        repeat' (first|(refine goK (by assumption) ?_; iterate 4 (try clear hK K))|(refine zAd fun K hK => ?_)|((first|refine zAb hE rfl ?_|refine zAh ?_); simp +contextual only [hnl, ↓kN, ↓kP, ↓kG, ↓qN, ↓qP, ↓qG, push_cast, seval, reduceCtorEq, Int.cast_ofNat_Int])|refine zAc ?_|((first|refine zAg ?_|refine zAf ?_); simp only [thenQ, zAk, if_true, if_false, Nat.reduceEqDiff, reduceCtorEq])|(refine zAe (by rfl) (fun hb => ?_) (fun hb => ?_) <;> (try simp only [b1, b2, b3, b4, reduceCtorEq, b5, b6] at hb) <;> (try omega))|refine zAi (by rfl) ?_ ?_|refine andS ?_|(refine ⟨fun hc => ?_, fun hc => ?_⟩)|(intro hc; try omega))
      | true =>
        by_cases q2 : atoiV (hw t (k + 1)) < 0
        · replace hnl := And.intro hnl (And.intro q1 (And.intro e (eq_true q2)))
          exact auA
        by_cases q3 : 99999 < atoiV (hw t (k + 1))
        · replace hnl := And.intro hnl (And.intro q1 (And.intro e (And.intro (eq_false q2) (eq_true q3))))
          exact auA
        have q4 : ¬ itoaV (atoiV (hw t (k + 1))) = hw t (k + 1) := fun h => h4 (zFA.2 ⟨q1, by omega, by omega, h⟩)
        have hin : InR (atoiV (hw t (k + 1))) := by unfold InR; omega
        replace hnl := And.intro hnl (And.intro q1 (And.intro e (And.intro (eq_false q2) (And.intro (eq_false q3) (And.intro (eq_false q4) (eq_true hin))))))
        exact auA
  · obtain rfl : k = (zAP t spS).length - 1 := by omega
    have e : hpOK t = true := zCZ.2 ⟨⟨h1, h2, h3⟩, hall⟩
    replace hnl := And.intro hnl (And.intro e hdl)
    repeat' (first|(refine goK (by assumption) ?_; iterate 4 (try clear hK K))|(refine zAd fun K hK => ?_)|((first|refine zAb hE rfl ?_|refine zAh ?_); simp +contextual only [hnl, ↓kN, ↓kP, ↓kG, ↓qN, ↓qP, ↓qG, push_cast, seval, reduceCtorEq, Int.cast_ofNat_Int])|refine zAc ?_|((first|refine zAg ?_|refine zAf ?_); simp only [thenQ, zAk, if_true, if_false, Nat.reduceEqDiff, reduceCtorEq])|(refine zAe (by rfl) (fun hb => ?_) (fun hb => ?_) <;> (try simp only [b1, b2, b3, b4, reduceCtorEq, b5, b6] at hb) <;> (try omega))|refine zAi (by rfl) ?_ ?_|refine andS ?_|(refine ⟨fun hc => ?_, fun hc => ?_⟩)|(intro hc; try omega))
    all_goals first | rfl | skip
end Go.Proofs.YtlgkplnifaoeeaaGreatDoor
