import Derived.Test.YtlgkplnifaoeeaaGreatDoorJ16
import Derived.Test.YtlgkplnifaoeeaaGreatDoorJ5
import Derived.Test.YtlgkplnifaoeeaaGreatDoorJ6
set_option linter.unusedSimpArgs false
set_option linter.unusedVariables false
namespace Go.Proofs.YtlgkplnifaoeeaaGreatDoor
open Go.RowKit Go.VS
def langZ (fz : List Nat) : Lang := { tab.lang with frz := fun d => fz.elem d }
def knowZ (fz : List Nat) (l : List (Nat × Con)) : Know := { know l [] [] fz with G := langZ fz }
theorem zQE (fz : List Nat) : LangOK Tryz.prog (langZ fz) := by
  have h := tabOK.lang
  exact ⟨h.info, h.agg, h.int, h.byte, h.bool, h.str, h.sl, h.plain, fun t f n off e => ⟨(h.fld t f n off e).ok⟩, h.fldO, h.fldT, h.pair, h.ones, h.fplain, h.mixed, h.fnT, h.ptrT, h.ifT, h.conc, h.uint, h.ob, h.mp, h.line⟩
theorem zQC {fz : List Nat} {l : List (Nat × Con)} (h1 : ∀ p ∈ l, FnSpec Tryz.prog p.1 p.2) : KnowOK Tryz.prog (knowZ fz l) := by
  have h := zAn (l := l) (k := []) (r := []) (own := fz) h1 all_nil all_nil
  exact ⟨zQE fz, h.con, h.clo, h.self⟩
section
variable (fz : List Nat) (l : List (Nat × Con)) (t f : Nat)
@[push_cast] theorem zTH : (knowZ fz l).G = langZ fz := rfl
@[push_cast] theorem zTK : (knowZ fz l).T f = lk none (l.map fun p => (p.1, some p.2)) f := rfl
@[push_cast] theorem zTI : (knowZ fz l).K f = none := rfl
@[push_cast] theorem zTJ : (knowZ fz l).R f = none := rfl
@[push_cast] theorem zTf : (knowZ fz l).own = fz := rfl
@[push_cast] theorem zTG : (langZ fz).sh t = tab.lang.sh t := rfl
@[push_cast] theorem zTE : (langZ fz).el t = tab.lang.el t := rfl
@[push_cast] theorem zSc : (langZ fz).plain t = tab.lang.plain t := rfl
@[push_cast] theorem zTk : (langZ fz).fld t f = tab.lang.fld t f := rfl
@[push_cast] theorem zSH : (langZ fz).ones t = tab.lang.ones t := rfl
@[push_cast] theorem zRC : (langZ fz).fplain t f = tab.lang.fplain t f := rfl
@[push_cast] theorem zTl : (langZ fz).fnT t = tab.lang.fnT t := rfl
@[push_cast] theorem zSI : (langZ fz).ptrT t = tab.lang.ptrT t := rfl
@[push_cast] theorem zTF : (langZ fz).ob t = tab.lang.ob t := rfl
@[push_cast] theorem zTm : (langZ fz).frz t = fz.elem t := rfl
end
section
variable {C : Ctx} {γ : Gam} {s : AS} {a : Act} {w : World}
theorem zQQ (h : Rel C γ s a w) {b off : Nat} {bs : List BV} (d : Nat) (e : TypeId) {sh : Sh} (hf : sh.flat = true) (hb : s.boxes b = some (.rcd bs)) (hi : bs[off]? = some .nils) : Rel C γ (s.setBox b (.rcd (bs.set off (.mk d e sh [])))) a w := by
  obtain ⟨cs, t, d1, d2, d3, d4, d5⟩ := h.boxes b _ hb
  obtain ⟨v, hv, hvr⟩ := zDL bs cs.toList off _ d2 hi
  simp only [bvRep] at hvr
  subst hvr
  refine h.rebox ⟨cs, t, d1, ?_, d3, d4, d5⟩
  have := zCd _ _ off (.mk d e sh []) _ d2 ⟨hf, World.ownsRow_nil _ _ _ _, fun k hk => by simp [Value.ownBlock] at hk⟩
  rw [zGo _ _ _ hv] at this
  exact this
theorem zRi {N : Nat} {Q : Exit → AS → Prop} {c : Code} (d b off : Nat) (e : TypeId) {sh : Sh} {bs : List BV} (hf : sh.flat = true) (hb : s.boxes b = some (.rcd bs)) (hi : bs[off]? = some .nils) (h : tri C N c Q (s.setBox b (.rcd (bs.set off (.mk d e sh []))))) : tri C N c Q s :=
  ⟨fun γ a w hR hN => h.run γ a w (zQQ hR d e hf hb hi) hN⟩
end
def newS (c : List (List Int)) : State := (c, List.replicate c.length (0 : Int), List.replicate (c.getD 0 []).length (0 : Int), (0 : Int))
def newH (c : List (List Int)) : HX := mkH c (newS c) [] ByteArray.empty
@[push_cast] def zRI : Con := ⟨[.sdat (.sl (.sl .int))], fun _ => True, fun (x : List (List Int) × Unit) => if zBn x.1 = 0 then { res := [.obj ⟨hFs, newH x.1⟩, .val .int 0] } else { res := [.raw (.pointer none), .val .int (zBn x.1)] }⟩
theorem zKY {c : List (List Int)} (h : InTab 0 99 c) : HOK (newS c) := by
  refine ⟨h, List.length_replicate .., List.length_replicate .., fun i hi => ?_, fun i hi => ?_⟩
  · rw [show (newS c).2.1.getD i 0 = 0 from ?_]; · omega
    simp only [newS, List.getD_eq_getElem?_getD, List.getElem?_replicate]
    split <;> rfl
  · rw [show (newS c).2.2.1.getD i 0 = 0 from ?_]; · omega
    simp only [newS, List.getD_eq_getElem?_getD, List.getElem?_replicate]
    split <;> rfl
theorem zQO {c : List (List Int)} (h : InTab 0 99 c) : HInv (newH c) := ⟨zKY h, Nat.zero_le _, Nat.zero_le _⟩
set_option maxHeartbeats 8000000 in
theorem zQP : FnSpec Tryz.prog 30 zRI := by
  refine FnSpec.of_tri' (E := knowZ [14, 19] [(73, zKF), (74, zDl)]) (zQC (all_cons zHN (all_cons stClone_spec all_nil))) Tryz.func30 rfl rfl (by kernel_rfl) ?_
  intro C x hE hnl hfit hpre
  simp only [Tryz.ntmps30, Tryz.results30, maxLen, Nat.reduceSub, Nat.reducePow, Nat.reduceAdd, Int.cast_ofNat_Int, push_cast] at hnl hfit hpre ⊢
  obtain ⟨(c : List (List Int)), _⟩ := x
  dsimp only at hfit hpre ⊢
  by_cases he : zBn c = 0
  rotate_left
  · replace hnl := And.intro hnl (eq_false he)
    exact auA
  have hin := zFw he
  have hr := hin.rows
  have hcl : 1 ≤ (c.getD 0 []).length ∧ (c.getD 0 []).length ≤ 5 := hin.cols
  have hnl0 := hnl
  replace hnl := And.intro hnl he
  refine zAd fun K hK0 => ?_
  have hS := Stop.mk hK0
  clear hK0
  repeat' (first|(refine goK (by assumption) ?_; iterate 4 (try clear hK K))|(refine zAd fun K hK => ?_)|((first|refine zAb hE rfl ?_|refine zAh ?_); simp +contextual only [hnl, ↓kN, ↓kP, ↓kG, ↓qN, ↓qP, ↓qG, push_cast, seval, reduceCtorEq, Int.cast_ofNat_Int])|refine zAc ?_|((first|refine zAg ?_|refine zAf ?_); simp only [thenQ, zAk, if_true, if_false, Nat.reduceEqDiff, reduceCtorEq])|(refine zAe (by rfl) (fun hb => ?_) (fun hb => ?_) <;> (try simp only [b1, b2, b3, b4, reduceCtorEq, b5, b6] at hb) <;> (try omega))|refine zAi (by rfl) ?_ ?_|refine andS ?_|(refine ⟨fun hc => ?_, fun hc => ?_⟩)|(intro hc; try omega))
  refine hS.h _ ?_
  clear hS K
  refine zAd fun K hK0 => ?_
  have hS := Stop.mk hK0
  clear hK0
  repeat' (first|(refine goK (by assumption) ?_; iterate 4 (try clear hK K))|(refine zAd fun K hK => ?_)|((first|refine zAb hE rfl ?_|refine zAh ?_); simp +contextual only [hnl, ↓kN, ↓kP, ↓kG, ↓qN, ↓qP, ↓qG, push_cast, seval, reduceCtorEq, Int.cast_ofNat_Int])|refine zAc ?_|((first|refine zAg ?_|refine zAf ?_); simp only [thenQ, zAk, if_true, if_false, Nat.reduceEqDiff, reduceCtorEq])|(refine zAe (by rfl) (fun hb => ?_) (fun hb => ?_) <;> (try simp only [b1, b2, b3, b4, reduceCtorEq, b5, b6] at hb) <;> (try omega))|refine zAi (by rfl) ?_ ?_|refine andS ?_|(refine ⟨fun hc => ?_, fun hc => ?_⟩)|(intro hc; try omega))
  refine hS.h _ ?_
  clear hS K
  refine zAE (t := AS.of [(0, .one (.val (.sl (.sl .int)) c))] [] []) ?_ ?_
  · refine zAj ?_ ?_ ?_ <;> simp only [push_cast, seval, reduceCtorEq, Int.cast_ofNat_Int]
  have hszA : StateSz (c, List.replicate c.length (0 : Int), List.replicate (c.getD 0 []).length (0 : Int), (0 : Int)) := (zKY hin).sz
  replace hnl := And.intro hnl (eq_true hszA)
  refine zAd fun K hK => ?_
  refine zEV hE (fun D s => (D 12 = true → D 11 = true) ∧
    s.env 0 = .one (.val (.sl (.sl .int)) c) ∧
    (D 0 = true → s.env 11 = .one (.val (.sl (.sl .int)) c)) ∧
    (D 1 = true → s.env 12 = .one (.val (.sl (.sl .int)) c)) ∧
    (D 2 = true → s.env 13 = .I (c.length : Nat)) ∧
    (D 3 = true → s.env 14 = .one (.val (.sl .int) (List.replicate c.length (0 : Int)))) ∧
    (D 4 = true → s.env 15 = .one (.val (.sl (.sl .int)) c)) ∧
    (D 5 = true → s.env 16 = .one (.padr (.sl .int) (c.getD 0 []))) ∧
    (D 6 = true → s.env 17 = .one (.val (.sl .int) (c.getD 0 []))) ∧
    (D 7 = true → s.env 18 = .I ((c.getD 0 []).length : Nat)) ∧
    (D 8 = true → s.env 19 = .one (.val (.sl .int) (List.replicate (c.getD 0 []).length (0 : Int)))) ∧
    (D 9 = true → s.env 20 = .one (.val stSh (c, List.replicate c.length (0 : Int), List.replicate (c.getD 0 []).length (0 : Int), (0 : Int)))) ∧
    (D 10 = true → s.env 21 = .one (.val stSh (c, List.replicate c.length (0 : Int), List.replicate (c.getD 0 []).length (0 : Int), (0 : Int)))) ∧
    (D 11 = true → s.env 5 = .one (.box 5)) ∧
    (D 11 = true → D 12 = false → s.boxes 5 = some (.rcd [.nils, .nils, .nils, .val .int 0])) ∧
    (D 12 = true → s.boxes 5 = some (.one (.val stSh (c, List.replicate c.length (0 : Int), List.replicate (c.getD 0 []).length (0 : Int), (0 : Int)))))) rfl (by kernel_rfl) ?_ ?_ ?_
  · dsimp only
    simp only [push_cast, seval, reduceCtorEq, Int.cast_ofNat_Int]
  · refine ⟨fun D s h0 hp hI => ?_, fun D s h0 hp hI => ?_, fun D s h0 hp hI => ?_, fun D s h0 hp hI => ?_, fun D s h0 hp hI => ?_, fun D s h0 hp hI => ?_, fun D s h0 hp hI => ?_, fun D s h0 hp hI => ?_, fun D s h0 hp hI => ?_, fun D s h0 hp hI => ?_, fun D s h0 hp hI => ?_, fun D s h0 hp hI => ?_, fun D s h0 hp hI => ?_, trivial⟩
    all_goals obtain ⟨o1, e0, f0, f1, f2, f3, f4, f5, f6, f7, f8, f9, f10, f11, g11, f12⟩ := hI
    all_goals replace hp := List.all_eq_true.1 hp
    · simp +contextual only [hnl, h0, o1, e0, f0, f1, f2, f3, f4, f5, f6, f7, f8, f9, f10, f11, g11, f12, setD, ↓kN, ↓kP, push_cast, seval, reduceCtorEq, Int.cast_ofNat_Int]
    · simp +contextual only [hnl, h0, o1, e0, f0, f1, f2, f3, f4, f5, f6, f7, f8, f9, f10, f11, g11, f12, setD, ↓kN, ↓kP, push_cast, seval, reduceCtorEq, Int.cast_ofNat_Int]
    · have d1 := hp 1 (by decide)
      simp +contextual only [d1, hnl, h0, o1, e0, f0, f1, f2, f3, f4, f5, f6, f7, f8, f9, f10, f11, g11, f12, setD, ↓kN, ↓kP, push_cast, seval, reduceCtorEq, Int.cast_ofNat_Int]
    · have d2 := hp 2 (by decide)
      simp +contextual only [d2, hnl, h0, o1, e0, f0, f1, f2, f3, f4, f5, f6, f7, f8, f9, f10, f11, g11, f12, setD, ↓kN, ↓kP, push_cast, seval, reduceCtorEq, Int.cast_ofNat_Int]
      omega
    · simp +contextual only [hnl, h0, o1, e0, f0, f1, f2, f3, f4, f5, f6, f7, f8, f9, f10, f11, g11, f12, setD, ↓kN, ↓kP, push_cast, seval, reduceCtorEq, Int.cast_ofNat_Int]
    · have d4 := hp 4 (by decide)
      simp +contextual only [d4, hnl, h0, o1, e0, f0, f1, f2, f3, f4, f5, f6, f7, f8, f9, f10, f11, g11, f12, setD, ↓kN, ↓kP, push_cast, seval, reduceCtorEq, Int.cast_ofNat_Int]
      omega
    · have d5 := hp 5 (by decide)
      simp +contextual only [d5, hnl, h0, o1, e0, f0, f1, f2, f3, f4, f5, f6, f7, f8, f9, f10, f11, g11, f12, setD, ↓kN, ↓kP, push_cast, seval, reduceCtorEq, Int.cast_ofNat_Int]
    · have d6 := hp 6 (by decide)
      simp +contextual only [d6, hnl, h0, o1, e0, f0, f1, f2, f3, f4, f5, f6, f7, f8, f9, f10, f11, g11, f12, setD, ↓kN, ↓kP, push_cast, seval, reduceCtorEq, Int.cast_ofNat_Int]
    · have d7 := hp 7 (by decide)
      simp +contextual only [d7, hnl, h0, o1, e0, f0, f1, f2, f3, f4, f5, f6, f7, f8, f9, f10, f11, g11, f12, setD, ↓kN, ↓kP, push_cast, seval, reduceCtorEq, Int.cast_ofNat_Int]
      omega
    · have d0 := hp 0 (by decide)
      have d3 := hp 3 (by decide)
      have d8 := hp 8 (by decide)
      simp +contextual only [d0, d3, d8, hnl, h0, o1, e0, f0, f1, f2, f3, f4, f5, f6, f7, f8, f9, f10, f11, g11, f12, setD, ↓kN, ↓kP, push_cast, seval, reduceCtorEq, Int.cast_ofNat_Int]
    · have d9 := hp 9 (by decide)
      simp +contextual only [d9, hnl, h0, o1, e0, f0, f1, f2, f3, f4, f5, f6, f7, f8, f9, f10, f11, g11, f12, setD, ↓kN, ↓kP, push_cast, seval, reduceCtorEq, Int.cast_ofNat_Int]
    · have n12 := zBD o1 h0
      simp +contextual only [n12, hnl, h0, o1, e0, f0, f1, f2, f3, f4, f5, f6, f7, f8, f9, f10, f11, g11, f12, setD, ↓kN, ↓kP, push_cast, seval, reduceCtorEq, Int.cast_ofNat_Int]
    · have d10 := hp 10 (by decide)
      have d11 := hp 11 (by decide)
      simp +contextual only [d10, d11, hnl, h0, o1, e0, f0, f1, f2, f3, f4, f5, f6, f7, f8, f9, f10, f11, g11, f12, setD, ↓kN, ↓kP, push_cast, seval, reduceCtorEq, Int.cast_ofNat_Int]
  intro D s hD hI
  obtain ⟨o1, e0, f0, f1, f2, f3, f4, f5, f6, f7, f8, f9, f10, f11, g11, f12⟩ := hI
  have v1 := f11 (hD 11 (by decide))
  have v2 := f12 (hD 12 (by decide))
  refine hK _ ?_
  refine zAE (t := AS.of [(5, .one (.box 5))] [] [(5, .one (.val stSh (c, List.replicate c.length (0 : Int), List.replicate (c.getD 0 []).length (0 : Int), (0 : Int))))]) ?_ ?_
  · refine zAj ?_ ?_ ?_ <;> simp only [v1, v2, push_cast, seval, reduceCtorEq, Int.cast_ofNat_Int]
    all_goals first | exact ⟨_, rfl⟩ | skip
  clear hK hD f0 f1 f2 f3 f4 f5 f6 f7 f8 f9 f10 f11 g11 f12 v1 v2 e0 o1 s D
  have hsz : StateSz (newS c) := (zKY hin).sz
  have hsz2 : StateSz (c, List.replicate c.length (0 : Int), List.replicate (c.getD 0 []).length (0 : Int), (0 : Int)) := hsz
  have eN : newH c = ((), (), c, c, List.replicate c.length (0 : Int), List.replicate (c.getD 0 []).length (0 : Int), (0 : Int), [], ByteArray.empty, ()) := rfl
  generalize List.replicate c.length (0 : Int) = a at hsz2 eN ⊢
  generalize List.replicate (c.getD 0 []).length (0 : Int) = b at hsz2 eN ⊢
  replace hnl := And.intro hnl0 (And.intro he (eq_true hsz2))
  refine zAd fun K hK => ?_
  refine zEV hE (fun D s => (D 6 = true → D 5 = true) ∧
    s.env 5 = .one (.box 5) ∧
    s.boxes 5 = some (.one (.val stSh (c, a, b, (0 : Int)))) ∧
    (D 0 = true → s.env 22 = .one (.val stSh (c, a, b, (0 : Int)))) ∧
    (D 1 = true → s.env 23 = .one (.val stSh (c, a, b, (0 : Int)))) ∧
    (D 2 = true → s.env 24 = .one (.val (.sl (.sl .int)) c)) ∧
    (D 3 = true → s.env 25 = .one (.val stSh (c, a, b, (0 : Int)))) ∧
    (D 4 = true → s.env 26 = .rcd [.raw (.int .i32 0), .raw (.int .u32 0), .val (.sl (.sl .int)) c, .val (.sl (.sl .int)) c, .val (.sl .int) a, .val (.sl .int) b, .val .int (0 : Int), .nils, .val .str ByteArray.empty]) ∧
    (D 5 = true → s.env 27 = .one (.box 27)) ∧
    (D 5 = true → s.boxes 27 = some (.rcd [.raw (.int .i32 0), .raw (.int .u32 0), .val (.sl (.sl .int)) c, .val (.sl (.sl .int)) c, .val (.sl .int) a, .val (.sl .int) b, .val .int (0 : Int), .nils, .val .str ByteArray.empty])) ∧
    (D 6 = true → s.env 2 = .one (.box 27)) ∧
    (D 7 = true → s.env 3 = .one (.val .int 0))) rfl (by kernel_rfl) ?_ ?_ ?_
  · dsimp only
    simp only [push_cast, seval, reduceCtorEq, Int.cast_ofNat_Int]
  · refine ⟨fun D s h0 hp hI => ?_, fun D s h0 hp hI => ?_, fun D s h0 hp hI => ?_, fun D s h0 hp hI => ?_, fun D s h0 hp hI => ?_, fun D s h0 hp hI => ?_, fun D s h0 hp hI => ?_, fun D s h0 hp hI => ?_, trivial⟩
    all_goals obtain ⟨o1, e5, b5, f0, f1, f2, f3, f4, f5, g5, f6, f7⟩ := hI
    all_goals replace hp := List.all_eq_true.1 hp
    · simp +contextual only [hnl, h0, o1, e5, b5, f0, f1, f2, f3, f4, f5, g5, f6, f7, setD, ↓kN, ↓kP, push_cast, seval, reduceCtorEq, Int.cast_ofNat_Int]
    · have d0 := hp 0 (by decide)
      simp +contextual only [d0, hnl, h0, o1, e5, b5, f0, f1, f2, f3, f4, f5, g5, f6, f7, setD, ↓kN, ↓kP, push_cast, seval, reduceCtorEq, Int.cast_ofNat_Int]
    · have d1 := hp 1 (by decide)
      simp +contextual only [d1, hnl, h0, o1, e5, b5, f0, f1, f2, f3, f4, f5, g5, f6, f7, setD, ↓kN, ↓kP, push_cast, seval, reduceCtorEq, Int.cast_ofNat_Int]
    · simp +contextual only [hnl, h0, o1, e5, b5, f0, f1, f2, f3, f4, f5, g5, f6, f7, setD, ↓kN, ↓kP, push_cast, seval, reduceCtorEq, Int.cast_ofNat_Int]
    · have d2 := hp 2 (by decide)
      have d3 := hp 3 (by decide)
      simp +contextual only [d2, d3, hnl, h0, o1, e5, b5, f0, f1, f2, f3, f4, f5, g5, f6, f7, setD, ↓kN, ↓kP, push_cast, seval, reduceCtorEq, Int.cast_ofNat_Int]
    · have d4 := hp 4 (by decide)
      have n6 := zBD o1 h0
      simp +contextual only [d4, n6, hnl, h0, o1, e5, b5, f0, f1, f2, f3, f4, f5, g5, f6, f7, setD, ↓kN, ↓kP, push_cast, seval, reduceCtorEq, Int.cast_ofNat_Int]
    · have d5 := hp 5 (by decide)
      simp +contextual only [d5, hnl, h0, o1, e5, b5, f0, f1, f2, f3, f4, f5, g5, f6, f7, setD, ↓kN, ↓kP, push_cast, seval, reduceCtorEq, Int.cast_ofNat_Int]
    · simp +contextual only [hnl, h0, o1, e5, b5, f0, f1, f2, f3, f4, f5, g5, f6, f7, setD, ↓kN, ↓kP, push_cast, seval, reduceCtorEq, Int.cast_ofNat_Int]
  intro D s hD hI
  obtain ⟨o1, e5, b5, f0, f1, f2, f3, f4, f5, g5, f6, f7⟩ := hI
  have v1 := g5 (hD 5 (by decide))
  have v2 := f6 (hD 6 (by decide))
  have v3 := f7 (hD 7 (by decide))
  refine hK _ ?_
  refine zAE (t := AS.of [(2, .one (.box 27)), (3, .one (.val .int 0))] [] [(27, .rcd [.raw (.int .i32 0), .raw (.int .u32 0), .val (.sl (.sl .int)) c, .val (.sl (.sl .int)) c, .val (.sl .int) a, .val (.sl .int) b, .val .int (0 : Int), .nils, .val .str ByteArray.empty])]) ?_ ?_
  · refine zAj ?_ ?_ ?_ <;> simp only [v1, v2, v3, push_cast, seval, reduceCtorEq, Int.cast_ofNat_Int]
    all_goals first | exact ⟨_, rfl⟩ | skip
  refine zRi 27 27 7 9 (sh := .str) rfl rfl rfl ?_
  refine zAE (t := AS.of [(2, .one (.box 27)), (3, .one (.val .int 0))] [] [(27, .rcd [.raw (.int .i32 0), .raw (.int .u32 0), .val (.sl (.sl .int)) c, .val (.sl (.sl .int)) c, .val (.sl .int) a, .val (.sl .int) b, .val .int (0 : Int), .mk 27 9 .str [], .val .str ByteArray.empty])]) ?_ ?_
  · refine zAj ?_ ?_ ?_ <;> simp only [push_cast, seval, reduceCtorEq, Int.cast_ofNat_Int]
  refine zAh ?_
  simp only [hnl, eN, push_cast, seval, reduceCtorEq, Int.cast_ofNat_Int]
end Go.Proofs.YtlgkplnifaoeeaaGreatDoor
namespace Go.Proofs.YtlgkplnifaoeeaaGreatDoor
open Go.RowKit Go.VS
@[push_cast] def zJn : Con := ⟨[.obj hFs], fun (x : HX × Unit) => StateSz (hSt x.1), fun (x : HX × Unit) => { res := [.val .int (lst (hSt x.1))], objs := [(0, ⟨hFs, x.1⟩)] }⟩
theorem zKV : FnSpec Tryz.prog 45 zJn := by
  refine FnSpec.of_tri' (E := know [(82, zL5), (81, zCQ)] [] [] []) (zAn (all_cons zNa (all_cons zEO all_nil)) all_nil all_nil) Tryz.func45 rfl rfl (by kernel_rfl) ?_
  intro C x hE hnl hfit hpre
  simp only [Tryz.ntmps45, Tryz.results45, maxLen, Nat.reduceSub, Nat.reducePow, Nat.reduceAdd, Int.cast_ofNat_Int, push_cast] at hnl hfit hpre ⊢
  obtain ⟨⟨⟨⟩, ⟨⟩, (f : List (List Int)), (c : List (List Int)), (a : List Int), (b : List Int), (w : Int), (ord : List ByteArray), (bk : ByteArray), ⟨⟩⟩, _⟩ := x
  dsimp only at hfit hpre ⊢
  have hsz : StateSz (c, a, b, w) := hpre
  replace hnl := And.intro hnl (eq_true hsz)
  simp only [hSt, hBk, lst, push_cast] at hnl ⊢
  repeat' (first|(refine goK (by assumption) ?_; iterate 4 (try clear hK K))|(refine zAd fun K hK => ?_)|((first|refine zAb hE rfl ?_|refine zAh ?_); simp +contextual only [hnl, ↓kN, ↓kP, ↓kG, ↓qN, ↓qP, ↓qG, push_cast, seval, reduceCtorEq, Int.cast_ofNat_Int])|refine zAc ?_|((first|refine zAg ?_|refine zAf ?_); simp only [thenQ, zAk, if_true, if_false, Nat.reduceEqDiff, reduceCtorEq])|(refine zAe (by rfl) (fun hb => ?_) (fun hb => ?_) <;> (try simp only [b1, b2, b3, b4, reduceCtorEq, b5, b6] at hb) <;> (try omega))|refine zAi (by rfl) ?_ ?_|refine andS ?_|(refine ⟨fun hc => ?_, fun hc => ?_⟩)|(intro hc; try omega))
  all_goals rfl
end Go.Proofs.YtlgkplnifaoeeaaGreatDoor
namespace Go.Proofs.YtlgkplnifaoeeaaGreatDoor
open Go.RowKit Go.VS
theorem zLG {l : List Int} {i n y : Int} (h : chgE l i n y = 0) (hi : 0 ≤ i) (hl : ∀ k, k < l.length → 0 ≤ l.getD k 0 ∧ l.getD k 0 ≤ 30) :
    (chgL l i n y).length = l.length ∧ ∀ k, k < (chgL l i n y).length → 0 ≤ (chgL l i n y).getD k 0 ∧ (chgL l i n y).getD k 0 ≤ 30 := by
  have e : chgL l i n y = l.set i.toNat (l.getD i.toNat 0 + y) := if_pos h
  rw [e]
  unfold chgE at h
  split at h
  · omega
  split at h
  · omega
  split at h
  · omega
  split at h
  · omega
  rename_i h1 h2 h3 h4
  refine ⟨List.length_set .., fun k hk => ?_⟩
  rw [List.length_set] at hk
  rw [List.getD_eq_getElem?_getD, List.getElem?_set]
  by_cases hik : i.toNat = k
  · rw [if_pos hik, if_pos (by omega), Option.getD_some]; omega
  · rw [if_neg hik, ← List.getD_eq_getElem?_getD]; exact hl k hk
theorem zSy {c : List (List Int)} {i : Nat} {r : List Int} (hr : r.length = (c.getD i []).length) : wid (c.set i r) = wid c := by
  unfold wid
  rw [List.getD_eq_getElem?_getD, List.getElem?_set]
  by_cases h0 : i = 0
  · subst h0
    rw [if_pos rfl]
    by_cases hc : 0 < c.length
    · rw [if_pos hc, Option.getD_some, hr]
    · have : c = [] := by cases c with | nil => rfl | cons x l => simp at hc
      subst this
      rfl
  · rw [if_neg h0, ← List.getD_eq_getElem?_getD]
theorem zSX {k : Nat} {l : List Int} {s : State} (h : DoPre k l s) (h0 : (doV k l s).1 = 0) : HOK (doV k l s).2 := by
  obtain ⟨c, a, b, w⟩ := s
  obtain ⟨hk, hl, hn, ht, hla, hlb, ha, hb⟩ := h
  dsimp only at *
  have hl1 : 1 ≤ l.length := by
    rw [hl]
    repeat' split
    all_goals omega
  have n0 := hn 0 (by omega)
  obtain rfl | rfl | rfl | rfl | rfl | rfl | rfl : k = 0 ∨ k = 1 ∨ k = 2 ∨ k = 3 ∨ k = 4 ∨ k = 5 ∨ k = 6 := by omega
  · obtain ⟨q1, q2⟩ := zLG (show chgE a (l.getD 0 0) (l.getD 1 0) (l.getD 1 0) = 0 from h0) n0.1 ha
    exact ⟨ht, q1.trans hla, hlb, q2, hb⟩
  · obtain ⟨q1, q2⟩ := zLG (show chgE a (l.getD 0 0) (l.getD 1 0) (-(l.getD 1 0)) = 0 from h0) n0.1 ha
    exact ⟨ht, q1.trans hla, hlb, q2, hb⟩
  · obtain ⟨q1, q2⟩ := zLG (show chgE b (l.getD 0 0) (l.getD 1 0) (l.getD 1 0) = 0 from h0) n0.1 hb
    exact ⟨ht, hla, q1.trans hlb, ha, q2⟩
  · obtain ⟨q1, q2⟩ := zLG (show chgE b (l.getD 0 0) (l.getD 1 0) (-(l.getD 1 0)) = 0 from h0) n0.1 hb
    exact ⟨ht, hla, q1.trans hlb, ha, q2⟩
  · have hl' : l.length = 3 := hl
    have n1 := hn 1 (by omega)
    have n2 := hn 2 (by omega)
    rw [doV4] at h0 ⊢
    split at h0
    · simp at h0
    rename_i h1
    split at h0
    · simp at h0
    rename_i h2
    rw [if_neg h1, if_neg h2]
    have hi : (l.getD 0 0).toNat < c.length := by omega
    have hlr := ht.len hi
    have hsl : ((c.getD (l.getD 0 0).toNat []).set (l.getD 1 0).toNat (l.getD 2 0)).length = (c.getD (l.getD 0 0).toNat []).length := List.length_set ..
    have hw := zSy (c := c) (i := (l.getD 0 0).toNat) hsl
    refine ⟨zLY (by rw [List.length_set]; exact ht.rows) (by rw [hw]; exact ht.cols) fun i hi' => ?_, by dsimp only; rw [List.length_set]; exact hla, by dsimp only; rw [hw]; exact hlb, ha, hb⟩
    dsimp only at hi' ⊢
    rw [List.length_set] at hi'
    rw [hw, List.getD_eq_getElem?_getD, List.getElem?_set]
    by_cases hii : (l.getD 0 0).toNat = i
    · rw [if_pos hii, if_pos hi, Option.getD_some]
      refine ⟨by rw [hsl, hlr], fun j hj => ?_⟩
      rw [List.getD_eq_getElem?_getD, List.getElem?_set]
      by_cases hjj : (l.getD 1 0).toNat = j
      · rw [if_pos hjj, if_pos (by omega), Option.getD_some]; omega
      · rw [if_neg hjj, ← List.getD_eq_getElem?_getD]; exact ht.at hi hj
    · rw [if_neg hii, ← List.getD_eq_getElem?_getD]
      exact ⟨ht.len hi', fun j hj => ht.at hi' hj⟩
  · rw [doV5] at h0 ⊢
    split at h0
    · simp at h0
    rename_i h1
    rw [if_neg h1]
    exact ⟨ht, hla, hlb, ha, hb⟩
  · rw [doV6] at h0 ⊢
    split at h0
    · rename_i h1
      rw [if_pos h1]
      exact ⟨ht, hla, hlb, ha, hb⟩
    · simp at h0
theorem zKg {bk : ByteArray} {least : Int} {t : ByteArray} (h1 : 0 ≤ least ∧ least ≤ 999999) (h2 : t.size ≤ 30) : (zDb bk least t).size ≤ bk.size + 100 := by
  have hb1 : InR least := by unfold InR; omega
  have q1 := zCI hb1
  have q4 : (textV least t).size = (itoaV least).size + 1 + t.size := by unfold textV; rw [zBc, zBc]; rfl
  have q5 := zCi (lastV bk) (textV least t) (textV least t).size
  have q6 : InR (sumV (lastV bk) (textV least t)) := by unfold InR sumV; omega
  have q7 := zCI q6
  have q8 : (zDb bk least t).size = bk.size + (itoaV (sumV (lastV bk) (textV least t))).size + 1 + (textV least t).size + 1 := by
    unfold zDb
    rw [zBc, zBc, zBc, zBc]
    rfl
  omega
theorem zR2 {x : HX} (h : HInv x) (t : ByteArray) : HInv (doX x t) := by
  unfold doX
  split
  · rename_i h0
    unfold doE at h0
    split at h0
    · rename_i hok
      split at h0
      · omega
      rename_i h60
      have hdp := zRs hok h.st
      have ho := h.ord
      have hb := h.bk
      have hsz : t.size ≤ 30 := (zC1.1 hok).1.1.2
      refine ⟨zSX hdp h0, ?_, ?_⟩
      · show (hOrd x ++ [t]).length ≤ 60
        rw [List.length_append]; simp; omega
      · show (zDb (hBk x) (lst (doS x t)) t).size ≤ 100 * (hOrd x ++ [t]).length
        have := zKg (bk := hBk x) (least := lst (doS x t)) (t := t) (zJr _ _ _ _) hsz
        rw [List.length_append]; simp; omega
    · omega
  · exact h
end Go.Proofs.YtlgkplnifaoeeaaGreatDoor
namespace Go.Proofs.YtlgkplnifaoeeaaGreatDoor
open Go.RowKit Go.VS
def knL : List ByteArray := [⟨#[112, 117, 116, 32, 48, 32, 50]⟩, ⟨#[119, 97, 110, 116, 32, 48, 32, 49]⟩, ⟨#[119, 97, 115, 116, 101, 32, 50]⟩, ⟨#[119, 97, 115, 116, 101, 32, 51]⟩, ⟨#[99, 108, 97, 105, 109, 32, 56]⟩, ⟨#[116, 97, 107, 101, 32, 48, 32, 51]⟩]
def knW : List Int := [0, 0, 0, 0, 0, 9]
def knX : Nat → HX
  | 0 => newH [[5]]
  | i + 1 => doX (knX i) (knL.getD i ByteArray.empty)
theorem zOO : ∀ i, HInv (knX i)
  | 0 => zQO (by decide)
  | i + 1 => zR2 (zOO i) _
theorem zTd : ∀ i, i < 6 → doE (knX i) (knL.getD i ByteArray.empty) = knW.getD i 0 := by decide +kernel
theorem zOP : lst (hSt (knX 6)) = 8 := by decide +kernel
theorem zL1 : zB5 [0, 1, 1, 0] [[1, 1], [0, 2]] = 0 ∧ zPs [0, 1, 1, 0] [[1, 1], [0, 2]] = [0, 1, 1, 1] := by decide +kernel
theorem zTe : sumV 0 ⟨#[97]⟩ = 98 := by decide +kernel
@[push_cast] def zGG : Con := ⟨[], fun _ => True, fun _ => { res := [.val .bool true] }⟩
set_option maxHeartbeats 8000000 in
theorem zGH : FnSpec Tryz.prog 18 zGG := by
  refine FnSpec.of_tri' (E := know [(30, zRI), (31, zRr), (25, zMc), (45, zJn), (23, zLh), (19, zFM)] [] [] []) (zAn (all_cons zQP (all_cons zQl (all_cons zNf (all_cons zKV (all_cons zHP (all_cons zFz all_nil)))))) all_nil all_nil) Tryz.func18 rfl rfl (by kernel_rfl) ?_
  intro C x hE hnl hfit hpre
  simp only [Tryz.ntmps18, Tryz.results18, maxLen, Nat.reduceSub, Nat.reducePow, Nat.reduceAdd, Int.cast_ofNat_Int, push_cast] at hnl hfit hpre ⊢
  have he : zBn [[5]] = 0 := by decide
  have hnl0 := hnl
  replace hnl := And.intro hnl he
  repeat' (first|(refine goK (by assumption) ?_; iterate 4 (try clear hK K))|(refine zAd fun K hK => ?_)|((first|refine zAb hE rfl ?_|refine zAh ?_); simp +contextual only [hnl, ↓kN, ↓kP, ↓kG, ↓qN, ↓qP, ↓qG, push_cast, seval, reduceCtorEq, Int.cast_ofNat_Int])|refine zAc ?_|((first|refine zAg ?_|refine zAf ?_); simp only [thenQ, zAk, if_true, if_false, Nat.reduceEqDiff, reduceCtorEq])|(refine zAe (by rfl) (fun hb => ?_) (fun hb => ?_) <;> (try simp only [b1, b2, b3, b4, reduceCtorEq, b5, b6] at hb) <;> (try omega))|refine zAi (by rfl) ?_ ?_|refine andS ?_|(refine ⟨fun hc => ?_, fun hc => ?_⟩)|(intro hc; try omega))
  have hp1 := zL1.1
  have hp2 := zL1.2
  have hp3 := zTe
  refine zAp (fun (x : Nat × HX) => AS.of [(1, .one (.box 11)), (3, .one (.val (.sl .str) knL)), (4, .one (.val (.sl .int) knW)), (5, .I x.1)] [] [(11, (.rcd [.raw (.int .i32 0), .raw (.int .u32 0), .val (.sl (.sl .int)) x.2.2.2.1, .val (.sl (.sl .int)) x.2.2.2.2.1, .val (.sl .int) x.2.2.2.2.2.1, .val (.sl .int) x.2.2.2.2.2.2.1, .val .int x.2.2.2.2.2.2.2.1, .mk 11 9 .str x.2.2.2.2.2.2.2.2.1, .val .str x.2.2.2.2.2.2.2.2.2.1]))]) (fun x => x.1 ≤ 6 ∧ x.2 = knX x.1) (fun x => 6 - x.1) (0, newH [[5]]) ⟨by omega, rfl⟩ ?_ ?_
  · refine zAj ?_ ?_ ?_ <;> simp only [push_cast, seval, reduceCtorEq, Int.cast_ofNat_Int]
    exact ⟨rfl, rfl⟩
  rintro ⟨i, x⟩ ⟨h6, hx⟩ K' hL
  replace hx : x = knX i := hx
  replace h6 : i ≤ 6 := h6
  have hI : HInv x := by rw [hx]; exact zOO _
  have hl1 : knL.length = 6 := rfl
  have hl2 : knW.length = 6 := rfl
  by_cases hi : i < 6
  · have hdo : doE x (knL.getD i ByteArray.empty) = knW.getD i 0 := by rw [hx]; exact zTd i hi
    have hnx : doX x (knL.getD i ByteArray.empty) = knX (i + 1) := by rw [hx]; rfl
    replace hnl := And.intro hnl0 (And.intro (eq_true hI) (And.intro hdo hl1))
    obtain ⟨⟨⟩, ⟨⟩, (f : List (List Int)), (c : List (List Int)), (a : List Int), (b : List Int), (w : Int), (ord : List ByteArray), (bk : ByteArray), ⟨⟩⟩ := x
    dsimp only
    repeat' (first|(refine goK (by assumption) ?_; iterate 4 (try clear hK K))|(refine zAd fun K hK => ?_)|((first|refine zAb hE rfl ?_|refine zAh ?_); simp +contextual only [hnl, ↓kN, ↓kP, ↓kG, ↓qN, ↓qP, ↓qG, push_cast, seval, reduceCtorEq, Int.cast_ofNat_Int])|refine zAc ?_|((first|refine zAg ?_|refine zAf ?_); simp only [thenQ, zAk, if_true, if_false, Nat.reduceEqDiff, reduceCtorEq])|(refine zAe (by rfl) (fun hb => ?_) (fun hb => ?_) <;> (try simp only [b1, b2, b3, b4, reduceCtorEq, b5, b6] at hb) <;> (try omega))|refine zAi (by rfl) ?_ ?_|refine andS ?_|(refine ⟨fun hc => ?_, fun hc => ?_⟩)|(intro hc; try omega))
    refine zEV hE (fun D s => s.env 1 = .one (.box 11) ∧
      s.env 3 = .one (.val (.sl .str) knL) ∧
      s.env 4 = .one (.val (.sl .int) knW) ∧
      s.env 5 = .I i ∧
      (D 5 = false → s.boxes 11 = some (.rcd [.raw (.int .i32 0), .raw (.int .u32 0), .val (.sl (.sl .int)) f, .val (.sl (.sl .int)) c, .val (.sl .int) a, .val (.sl .int) b, .val .int w, .mk 11 9 .str ord, .val .str bk])) ∧
      (D 5 = true → s.boxes 11 = some (.rcd [.raw (.int .i32 0), .raw (.int .u32 0), .val (.sl (.sl .int)) (doX ((), (), f, c, a, b, w, ord, bk, ()) (knL.getD i ByteArray.empty)).2.2.1, .val (.sl (.sl .int)) (doX ((), (), f, c, a, b, w, ord, bk, ()) (knL.getD i ByteArray.empty)).2.2.2.1, .val (.sl .int) (doX ((), (), f, c, a, b, w, ord, bk, ()) (knL.getD i ByteArray.empty)).2.2.2.2.1, .val (.sl .int) (doX ((), (), f, c, a, b, w, ord, bk, ()) (knL.getD i ByteArray.empty)).2.2.2.2.2.1, .val .int (doX ((), (), f, c, a, b, w, ord, bk, ()) (knL.getD i ByteArray.empty)).2.2.2.2.2.2.1, .mk 11 9 .str (doX ((), (), f, c, a, b, w, ord, bk, ()) (knL.getD i ByteArray.empty)).2.2.2.2.2.2.2.1, .val .str (doX ((), (), f, c, a, b, w, ord, bk, ()) (knL.getD i ByteArray.empty)).2.2.2.2.2.2.2.2.1])) ∧
      (D 0 = true → s.env 28 = .one (.box 11)) ∧
      (D 1 = true → s.env 29 = .one (.val (.sl .str) knL)) ∧
      (D 2 = true → s.env 30 = .I i) ∧
      (D 3 = true → s.env 31 = .one (.padr .str (knL.getD i ByteArray.empty))) ∧
      (D 4 = true → s.env 32 = .one (.val .str (knL.getD i ByteArray.empty))) ∧
      (D 5 = true → s.env 33 = .one (.val .int (knW.getD i 0))) ∧
      (D 6 = true → s.env 34 = .one (.val (.sl .int) knW)) ∧
      (D 7 = true → s.env 35 = .I i) ∧
      (D 8 = true → s.env 36 = .one (.padr .int (knW.getD i 0))) ∧
      (D 9 = true → s.env 37 = .one (.val .int (knW.getD i 0))) ∧
      (D 10 = true → s.env 38 = .one (.val .bool false))) rfl (by kernel_rfl) ?_ ?_ ?_
    · dsimp only
      simp only [push_cast, seval, reduceCtorEq, Int.cast_ofNat_Int]
    · refine ⟨fun D s h0 hp hI => ?_, fun D s h0 hp hI => ?_, fun D s h0 hp hI => ?_, fun D s h0 hp hI => ?_, fun D s h0 hp hI => ?_, fun D s h0 hp hI => ?_, fun D s h0 hp hI => ?_, fun D s h0 hp hI => ?_, fun D s h0 hp hI => ?_, fun D s h0 hp hI => ?_, fun D s h0 hp hI => ?_, trivial⟩
      all_goals obtain ⟨e1, e3, e4, e5, b0, b1, f0, f1, f2, f3, f4, f5, f6, f7, f8, f9, f10⟩ := hI
      all_goals replace hp := List.all_eq_true.1 hp
      · simp +contextual only [hnl, h0, e1, e3, e4, e5, b0, b1, f0, f1, f2, f3, f4, f5, f6, f7, f8, f9, f10, setD, ↓kN, ↓kP, push_cast, seval, reduceCtorEq, Int.cast_ofNat_Int]
      · simp +contextual only [hnl, h0, e1, e3, e4, e5, b0, b1, f0, f1, f2, f3, f4, f5, f6, f7, f8, f9, f10, setD, ↓kN, ↓kP, push_cast, seval, reduceCtorEq, Int.cast_ofNat_Int]
      · simp +contextual only [hnl, h0, e1, e3, e4, e5, b0, b1, f0, f1, f2, f3, f4, f5, f6, f7, f8, f9, f10, setD, ↓kN, ↓kP, push_cast, seval, reduceCtorEq, Int.cast_ofNat_Int]
      · have d1 := hp 1 (by decide)
        have d2 := hp 2 (by decide)
        simp +contextual only [d1, d2, hnl, h0, e1, e3, e4, e5, b0, b1, f0, f1, f2, f3, f4, f5, f6, f7, f8, f9, f10, setD, ↓kN, ↓kP, push_cast, seval, reduceCtorEq, Int.cast_ofNat_Int]
        omega
      · have d3 := hp 3 (by decide)
        simp +contextual only [d3, hnl, h0, e1, e3, e4, e5, b0, b1, f0, f1, f2, f3, f4, f5, f6, f7, f8, f9, f10, setD, ↓kN, ↓kP, push_cast, seval, reduceCtorEq, Int.cast_ofNat_Int]
      · have d0 := hp 0 (by decide)
        have d4 := hp 4 (by decide)
        simp +contextual only [d0, d4, hnl, h0, e1, e3, e4, e5, b0, b1, f0, f1, f2, f3, f4, f5, f6, f7, f8, f9, f10, setD, ↓kN, ↓kP, push_cast, seval, reduceCtorEq, Int.cast_ofNat_Int]
      · simp +contextual only [hnl, h0, e1, e3, e4, e5, b0, b1, f0, f1, f2, f3, f4, f5, f6, f7, f8, f9, f10, setD, ↓kN, ↓kP, push_cast, seval, reduceCtorEq, Int.cast_ofNat_Int]
      · simp +contextual only [hnl, h0, e1, e3, e4, e5, b0, b1, f0, f1, f2, f3, f4, f5, f6, f7, f8, f9, f10, setD, ↓kN, ↓kP, push_cast, seval, reduceCtorEq, Int.cast_ofNat_Int]
      · have d6 := hp 6 (by decide)
        have d7 := hp 7 (by decide)
        simp +contextual only [d6, d7, hnl, h0, e1, e3, e4, e5, b0, b1, f0, f1, f2, f3, f4, f5, f6, f7, f8, f9, f10, setD, ↓kN, ↓kP, push_cast, seval, reduceCtorEq, Int.cast_ofNat_Int]
        omega
      · have d8 := hp 8 (by decide)
        simp +contextual only [d8, hnl, h0, e1, e3, e4, e5, b0, b1, f0, f1, f2, f3, f4, f5, f6, f7, f8, f9, f10, setD, ↓kN, ↓kP, push_cast, seval, reduceCtorEq, Int.cast_ofNat_Int]
      · have d5 := hp 5 (by decide)
        have d9 := hp 9 (by decide)
        simp +contextual only [d5, d9, hnl, h0, e1, e3, e4, e5, b0, b1, f0, f1, f2, f3, f4, f5, f6, f7, f8, f9, f10, setD, ↓kN, ↓kP, push_cast, seval, reduceCtorEq, Int.cast_ofNat_Int]
    intro D s hD hI
    obtain ⟨e1, e3, e4, e5, b0, b1, f0, f1, f2, f3, f4, f5, f6, f7, f8, f9, f10⟩ := hI
    have v1 := b1 (hD 5 (by decide))
    have v2 := f10 (hD 10 (by decide))
    refine hK _ ?_
    refine zAE (t := AS.of [(1, .one (.box 11)), (3, .one (.val (.sl .str) knL)), (4, .one (.val (.sl .int) knW)), (5, .I i), (38, .one (.val .bool false))] [] [(11, (.rcd [.raw (.int .i32 0), .raw (.int .u32 0), .val (.sl (.sl .int)) (doX ((), (), f, c, a, b, w, ord, bk, ()) (knL.getD i ByteArray.empty)).2.2.1, .val (.sl (.sl .int)) (doX ((), (), f, c, a, b, w, ord, bk, ()) (knL.getD i ByteArray.empty)).2.2.2.1, .val (.sl .int) (doX ((), (), f, c, a, b, w, ord, bk, ()) (knL.getD i ByteArray.empty)).2.2.2.2.1, .val (.sl .int) (doX ((), (), f, c, a, b, w, ord, bk, ()) (knL.getD i ByteArray.empty)).2.2.2.2.2.1, .val .int (doX ((), (), f, c, a, b, w, ord, bk, ()) (knL.getD i ByteArray.empty)).2.2.2.2.2.2.1, .mk 11 9 .str (doX ((), (), f, c, a, b, w, ord, bk, ()) (knL.getD i ByteArray.empty)).2.2.2.2.2.2.2.1, .val .str (doX ((), (), f, c, a, b, w, ord, bk, ()) (knL.getD i ByteArray.empty)).2.2.2.2.2.2.2.2.1]))]) ?_ ?_
    · refine zAj ?_ ?_ ?_ <;> simp only [e1, e3, e4, e5, v1, v2, push_cast, seval, reduceCtorEq, Int.cast_ofNat_Int]
      all_goals first | exact ⟨_, rfl⟩ | skip
    clear hK hD f0 f1 f2 f3 f4 f5 f6 f7 f8 f9 f10 b0 b1 v1 v2 e1 e3 e4 e5 s D
    repeat' (first|(refine goK (by assumption) ?_; iterate 4 (try clear hK K))|(refine zAd fun K hK => ?_)|((first|refine zAb hE rfl ?_|refine zAh ?_); simp +contextual only [hnl, ↓kN, ↓kP, ↓kG, ↓qN, ↓qP, ↓qG, push_cast, seval, reduceCtorEq, Int.cast_ofNat_Int])|refine zAc ?_|((first|refine zAg ?_|refine zAf ?_); simp only [thenQ, zAk, if_true, if_false, Nat.reduceEqDiff, reduceCtorEq])|(refine zAe (by rfl) (fun hb => ?_) (fun hb => ?_) <;> (try simp only [b1, b2, b3, b4, reduceCtorEq, b5, b6] at hb) <;> (try omega))|refine zAi (by rfl) ?_ ?_|refine andS ?_|(refine ⟨fun hc => ?_, fun hc => ?_⟩)|(intro hc; try omega))
    refine hL _ (i + 1, doX ((), (), f, c, a, b, w, ord, bk, ()) (knL.getD i ByteArray.empty)) ⟨by omega, hnx⟩ (by dsimp only; omega) ?_
    refine zAj ?_ ?_ ?_ <;> simp only [push_cast, seval, reduceCtorEq, Int.cast_ofNat_Int]
  · obtain rfl : i = 6 := by omega
    have hle : lst (hSt x) = 8 := by rw [hx]; exact zOP
    have hsz : StateSz (hSt x) := hI.st.sz
    replace hnl := And.intro hnl0 (And.intro hp1 (And.intro hp2 (And.intro hp3 (And.intro (eq_true hsz) (And.intro hle hl1)))))
    obtain ⟨⟨⟩, ⟨⟩, (f : List (List Int)), (c : List (List Int)), (a : List Int), (b : List Int), (w : Int), (ord : List ByteArray), (bk : ByteArray), ⟨⟩⟩ := x
    dsimp only
    exact auA
end Go.Proofs.YtlgkplnifaoeeaaGreatDoor
