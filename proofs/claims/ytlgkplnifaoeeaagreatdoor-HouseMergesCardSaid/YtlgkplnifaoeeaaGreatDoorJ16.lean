import Derived.Test.YtlgkplnifaoeeaaGreatDoorJ15
import Derived.Test.YtlgkplnifaoeeaaGreatDoorJ13
import Derived.Test.YtlgkplnifaoeeaaGreatDoorJ8
set_option linter.unusedSimpArgs false
set_option linter.unusedVariables false
namespace Go.Proofs.YtlgkplnifaoeeaaGreatDoor
open Go.RowKit Go.VS Go.OT
structure HOK (s : State) : Prop where
  tab : InTab 0 99 s.1
  la : s.2.1.length = s.1.length
  lb : s.2.2.1.length = wid s.1
  a : ∀ i, i < s.2.1.length → 0 ≤ s.2.1.getD i 0 ∧ s.2.1.getD i 0 ≤ 30
  b : ∀ i, i < s.2.2.1.length → 0 ≤ s.2.2.1.getD i 0 ∧ s.2.2.1.getD i 0 ≤ 30
theorem HOK.sz {s : State} (h : HOK s) : StateSz s := by
  obtain ⟨h1, h2, h3, _, _⟩ := h
  have hr := h1.rows
  have hc := h1.cols
  exact ⟨by omega, fun k hk => by rw [h1.len hk]; omega, by omega, by omega⟩
theorem zQx {k : ByteArray} (h : smHas formsL k = true) : (smGet formsL k).2 = if (smGet formsL k).1 = 4 then 3 else if (smGet formsL k).1 ≤ 3 then 2 else 1 := by
  unfold smHas at h
  unfold smGet
  cases hf : formsL.find? (fun p => decide (p.1 = k)) with
  | none => rw [hf] at h; cases h
  | some p =>
    have hm := List.mem_of_find?_eq_some hf
    simp only [formsL, List.mem_cons, List.not_mem_nil, or_false] at hm
    rcases hm with rfl | rfl | rfl | rfl | rfl | rfl | rfl <;> rfl
def hkind (t : ByteArray) : Nat := (hform t).1.toNat
theorem zLW (t : ByteArray) : (hkind t : Int) = (hform t).1 := by
  have := zIJ (hw t 0)
  have e : hform t = smGet formsL (hw t 0) := rfl
  rw [← e] at this
  unfold hkind
  omega
theorem zRs {t : ByteArray} {s : State} (h : hpOK t = true) (hs : HOK s) : DoPre (hkind t) (hargs t) s := by
  obtain ⟨⟨h1, h2, h3⟩, h4⟩ := zC1.1 h
  have hin := zIJ (hw t 0)
  have hl := zQx h2
  have e : hform t = smGet formsL (hw t 0) := rfl
  rw [← e] at hin hl
  have hk := zLW t
  have hpos : 1 ≤ (zAN t spS).length := by rw [zEu t spS (Nat.le_refl _)]; omega
  have hal : (hargs t).length = (zAN t spS).length - 1 := zD9 _ _
  refine ⟨by omega, ?_, fun i hi => ?_, hs.tab, hs.la, hs.lb, hs.a, hs.b⟩
  · rw [hal]
    by_cases e4 : hkind t = 4
    · rw [if_pos e4]; rw [if_pos (by omega)] at hl; omega
    · rw [if_neg e4]; rw [if_neg (by omega)] at hl
      by_cases e3 : hkind t ≤ 3
      · rw [if_pos e3]; rw [if_pos (by omega)] at hl; omega
      · rw [if_neg e3]; rw [if_neg (by omega)] at hl; omega
  · rw [hal] at hi
    have hg : (hargs t).getD i 0 = atoiV (hw t (i + 1)) := zD8 _ _ hi
    obtain ⟨_, q2, q3, _⟩ := zFy.1 (h4 i hi)
    rw [hg]
    exact ⟨q2, q3⟩
theorem zJr (a b : List Int) (c : List (List Int)) (w : Int) : 0 ≤ zDh a b c w ∧ zDh a b c w ≤ 999999 := by
  unfold zDh
  split
  · rename_i he
    obtain ⟨h1, h2, h3⟩ := zLR he
    obtain ⟨_, _, h4, h5⟩ := MC.sums h1
    rw [zDW] at h4 h5
    have z := zNb h1.mc w
    have n := zQJ h1.mc h2
    have : w * (sumL a + sumL b) ≤ 99 * (sumL a + sumL b) := Int.mul_le_mul_of_nonneg_right h3 (by omega)
    omega
  · omega
structure HInv (x : HX) : Prop where
  st : HOK (hSt x)
  ord : (hOrd x).length ≤ 60
  bk : (hBk x).size ≤ 100 * (hOrd x).length
def doE (x : HX) (t : ByteArray) : Int := if hpOK t = true then (if (hOrd x).length = 60 then 3 else (doV (hkind t) (hargs t) (hSt x)).1) else 2
def doS (x : HX) (t : ByteArray) : State := (doV (hkind t) (hargs t) (hSt x)).2
def lst (s : State) : Int := zDh s.2.1 s.2.2.1 s.1 s.2.2.2
def doX (x : HX) (t : ByteArray) : HX := if doE x t = 0 then mkH (zS8 x) (doS x t) (hOrd x ++ [t]) (zDb (hBk x) (lst (doS x t)) t) else x
@[push_cast] def zRr : Con := ⟨[.obj hFs, .dat .str], fun (x : HX × ByteArray × Unit) => HInv x.1, fun (x : HX × ByteArray × Unit) => { res := [.val .int (doE x.1 x.2.1)], objs := [(0, ⟨hFs, doX x.1 x.2.1⟩)] }⟩
structure Stop (p : Prop) : Prop where
  h : p
theorem zPX {C : Ctx} {N : Nat} {Q : Exit → AS → Prop} {s : AS} {x y : Code} (h : ∀ K : AS → Prop, (∀ s, tri C N y Q s → K s) → tri C N x (thenQ K Q) s) : tri C N x (thenQ (tri C N y Q) Q) s := h _ fun _ h => h
def doK9 : Know := know [(77, zE7), (78, zIj), (81, zCQ), (80, zEB)] []
theorem zR1 : KnowOK Tryz.prog doK9 := zAn (all_cons zKS (all_cons zOd (all_cons zEO (all_cons zKh all_nil)))) all_nil all_nil
set_option maxHeartbeats 8000000 in
theorem zQl : FnSpec Tryz.prog 31 zRr := by
  refine ⟨⟨_, Tryz.func31, by kernel_rfl, rfl⟩, fun C γ x vs hpre hen => ?_⟩
  have hP := hen.P
  have hnl : C.nl = 1 := hen.nl
  have hE : KnowOK C.P (know [(77, zE7), (78, zIj), (81, zCQ), (80, zEB)] []) := by rw [hP]; exact zR1
  have hlen := zAP _ _ hen.args
  have hr := zDR hen (72 - vs.length)
  have hdsn : C.ds = [] := hen.ds.1
  obtain ⟨⟨⟨⟩, ⟨⟩, (f : List (List Int)), (c : List (List Int)), (ma : List Int), (mb : List Int), (wst : Int), (ord : List ByteArray), (bk : ByteArray), ⟨⟩⟩, (t : ByteArray), ⟨⟩⟩ := x
  have hlen' : vs.length = 2 := hlen.symm ▸ rfl
  rw [← hP]
  refine calls_of_wp_defers (by rw [hP]; exact Tryz.func31) rfl ?_
  rw [List.size_toArray]
  refine triD.run (N := 72) ?_ γ _ _ hr (by simp [hlen'])
  obtain ⟨hst, hord, hbk⟩ := hpre
  refine zDn (t := AS.of [(0, .one (.box 0)), (1, .one (.val .str t))] [] [(0, .rcd [.raw (.int .i32 0), .raw (.int .u32 0), .val (.sl (.sl .int)) f, .val (.sl (.sl .int)) c, .val (.sl .int) ma, .val (.sl .int) mb, .val .int wst, .mk 0 9 .str ord, .val .str bk])]) ?_ ?_
  · refine zAj ?_ ?_ ?_ <;> simp only [push_cast, seval, reduceCtorEq, Int.cast_ofNat_Int]
  clear hr hlen hlen' hen
  refine zFp fun K hK => ?_
  repeat' (first|(refine goK (by assumption) ?_; iterate 4 (try clear hK K))|(refine zAd fun K hK => ?_)|((first|refine zAb hE rfl ?_|refine zAh ?_); simp +contextual only [hnl, ↓kN, ↓kP, ↓kG, ↓qN, ↓qP, ↓qG, push_cast, seval, reduceCtorEq, Int.cast_ofNat_Int])|refine zAc ?_|((first|refine zAg ?_|refine zAf ?_); simp only [thenQ, zAk, if_true, if_false, Nat.reduceEqDiff, reduceCtorEq])|(refine zAe (by rfl) (fun hb => ?_) (fun hb => ?_) <;> (try simp only [b1, b2, b3, b4, reduceCtorEq, b5, b6] at hb) <;> (try omega))|refine zAi (by rfl) ?_ ?_|refine andS ?_|(refine ⟨fun hc => ?_, fun hc => ?_⟩)|(intro hc; try omega))
  refine hK _ ?_
  clear hK K
  refine zFp fun K hK => ?_
  repeat' (first|(refine goK (by assumption) ?_; iterate 4 (try clear hK K))|(refine zAd fun K hK => ?_)|((first|refine zAb hE rfl ?_|refine zAh ?_); simp +contextual only [hnl, ↓kN, ↓kP, ↓kG, ↓qN, ↓qP, ↓qG, push_cast, seval, reduceCtorEq, Int.cast_ofNat_Int])|refine zAc ?_|((first|refine zAg ?_|refine zAf ?_); simp only [thenQ, zAk, if_true, if_false, Nat.reduceEqDiff, reduceCtorEq])|(refine zAe (by rfl) (fun hb => ?_) (fun hb => ?_) <;> (try simp only [b1, b2, b3, b4, reduceCtorEq, b5, b6] at hb) <;> (try omega))|refine zAi (by rfl) ?_ ?_|refine andS ?_|(refine ⟨fun hc => ?_, fun hc => ?_⟩)|(intro hc; try omega))
  refine hK _ ?_
  clear hK K
  refine zDn (t := AS.of [(0, .one (.box 0)), (1, .one (.val .str t))] [] [(0, .rcd [.raw (.int .i32 0), .raw (.int .u32 0), .val (.sl (.sl .int)) f, .val (.sl (.sl .int)) c, .val (.sl .int) ma, .val (.sl .int) mb, .val .int wst, .mk 0 9 .str ord, .val .str bk])]) ?_ ?_
  · refine zAj ?_ ?_ ?_ <;> simp only [push_cast, seval, reduceCtorEq, Int.cast_ofNat_Int]
  refine zFp fun K hK => ?_
  refine zMv hP hE rfl rfl rfl rfl (n := 5) rfl ?_
  refine hK _ ?_
  clear hK K
  refine zDn (t := AS.of [(0, .one (.box 0)), (1, .one (.val .str t))] [] [(0, .rcd [.raw (.int .i32 1), .raw (.int .u32 0), .val (.sl (.sl .int)) f, .val (.sl (.sl .int)) c, .val (.sl .int) ma, .val (.sl .int) mb, .val .int wst, .mk 0 9 .str ord, .val .str bk])]) ?_ ?_
  · unfold lockS
    refine zAj ?_ ?_ ?_ <;> simp only [push_cast, seval, reduceCtorEq, Int.cast_ofNat_Int]
  refine ⟨fun γ0 a0 w0 hr hN => zHq hP hE (n := 5) rfl rfl rfl (by rw [hnl]; decide) hdsn hr hN ?_⟩
  clear hr hN
  rw [hnl]
  have hE1 : KnowOK (C.dsd [zBR (C.lb 0)]).P (know [(77, zE7), (78, zIj), (81, zCQ), (80, zEB)] []) := hE
  have hP1 : (C.dsd [zBR (C.lb 0)]).P = Tryz.prog := hP
  have hnl1 : (C.dsd [zBR (C.lb 0)]).nl = 1 := hnl
  generalize C.dsd [zBR (C.lb 0)] = C1 at hE1 hnl1 hP1 ⊢
  clear hE hnl hP
  have hE := hE1
  have hP := hP1
  have hnl := hnl1
  refine zAE (t := AS.of [(0, .one (.box 0)), (1, .one (.val .str t))] [] [(0, .rcd [.raw (.int .i32 1), .raw (.int .u32 0), .val (.sl (.sl .int)) f, .val (.sl (.sl .int)) c, .val (.sl .int) ma, .val (.sl .int) mb, .val .int wst, .mk 0 9 .str ord, .val .str bk])]) ?_ ?_
  · unfold lockS
    refine zAj ?_ ?_ ?_ <;> simp only [push_cast, seval, reduceCtorEq, Int.cast_ofNat_Int]
  by_cases hok : hpOK t = true
  rotate_left
  · have eE : doE ((), (), f, c, ma, mb, wst, ord, bk, ()) t = 2 := if_neg hok
    have eX : doX ((), (), f, c, ma, mb, wst, ord, bk, ()) t = ((), (), f, c, ma, mb, wst, ord, bk, ()) := by rw [doX, eE]; rfl
    rw [Bool.not_eq_true] at hok
    have hnl0 := hnl
    replace hnl := And.intro hnl hok
    repeat' (first|(refine goK (by assumption) ?_; iterate 4 (try clear hK K))|(refine zAd fun K hK => ?_)|((first|refine zAb hE rfl ?_|refine zAh ?_); simp +contextual only [hnl, ↓kN, ↓kP, ↓kG, ↓qN, ↓qP, ↓qG, push_cast, seval, reduceCtorEq, Int.cast_ofNat_Int])|refine zAc ?_|((first|refine zAg ?_|refine zAf ?_); simp only [thenQ, zAk, if_true, if_false, Nat.reduceEqDiff, reduceCtorEq])|(refine zAe (by rfl) (fun hb => ?_) (fun hb => ?_) <;> (try simp only [b1, b2, b3, b4, reduceCtorEq, b5, b6] at hb) <;> (try omega))|refine zAi (by rfl) ?_ ?_|refine andS ?_|(refine ⟨fun hc => ?_, fun hc => ?_⟩)|(intro hc; try omega))
    all_goals exact ⟨.inr rfl, _, AS.of [(0, .one (.box 0)), (4, .one (.val .int (doE ((), (), f, c, ma, mb, wst, ord, bk, ()) t)))] [] [(0, .rcd [.raw (.int .i32 0), .raw (.int .u32 0), .val (.sl (.sl .int)) f, .val (.sl (.sl .int)) c, .val (.sl .int) ma, .val (.sl .int) mb, .val .int wst, .mk 0 9 .str ord, .val .str bk])], rfl, rfl, (by rw [eE]; (refine zAj ?_ ?_ ?_ <;> simp only [push_cast, seval, reduceCtorEq, Int.cast_ofNat_Int])), (by simp only [hnl, eX, Tryz.results31, push_cast, seval, reduceCtorEq, Int.cast_ofNat_Int])⟩
  have hkd := zLW t
  have hdp := zRs hok hst
  have hnl0 := hnl
  replace hnl := And.intro hnl (And.intro hok hkd.symm)
  refine zAd fun K hK0 => ?_
  have hS := Stop.mk hK0
  clear hK0
  repeat' (first|(refine goK (by assumption) ?_; iterate 4 (try clear hK K))|(refine zAd fun K hK => ?_)|((first|refine zAb hE rfl ?_|refine zAh ?_); simp +contextual only [hnl, ↓kN, ↓kP, ↓kG, ↓qN, ↓qP, ↓qG, push_cast, seval, reduceCtorEq, Int.cast_ofNat_Int])|refine zAc ?_|((first|refine zAg ?_|refine zAf ?_); simp only [thenQ, zAk, if_true, if_false, Nat.reduceEqDiff, reduceCtorEq])|(refine zAe (by rfl) (fun hb => ?_) (fun hb => ?_) <;> (try simp only [b1, b2, b3, b4, reduceCtorEq, b5, b6] at hb) <;> (try omega))|refine zAi (by rfl) ?_ ?_|refine andS ?_|(refine ⟨fun hc => ?_, fun hc => ?_⟩)|(intro hc; try omega))
  refine hS.h _ ?_
  clear hS K
  refine zAE (t := AS.of [(0, .one (.box 0)), (1, .one (.val .str t)), (5, .one (.val .int (hkind t : Int))), (6, .one (.val (.sl .int) (hargs t))), (7, .one (.val (.err 161) 0))] [] [(0, .rcd [.raw (.int .i32 1), .raw (.int .u32 0), .val (.sl (.sl .int)) f, .val (.sl (.sl .int)) c, .val (.sl .int) ma, .val (.sl .int) mb, .val .int wst, .mk 0 9 .str ord, .val .str bk])]) ?_ ?_
  · refine zAj ?_ ?_ ?_ <;> simp only [push_cast, seval, reduceCtorEq, Int.cast_ofNat_Int]
    all_goals first | rfl | exact ⟨_, rfl⟩ | skip
  refine zAd fun K hK0 => ?_
  have hS := Stop.mk hK0
  clear hK0
  repeat' (first|(refine goK (by assumption) ?_; iterate 4 (try clear hK K))|(refine zAd fun K hK => ?_)|((first|refine zAb hE rfl ?_|refine zAh ?_); simp +contextual only [hnl, ↓kN, ↓kP, ↓kG, ↓qN, ↓qP, ↓qG, push_cast, seval, reduceCtorEq, Int.cast_ofNat_Int])|refine zAc ?_|((first|refine zAg ?_|refine zAf ?_); simp only [thenQ, zAk, if_true, if_false, Nat.reduceEqDiff, reduceCtorEq])|(refine zAe (by rfl) (fun hb => ?_) (fun hb => ?_) <;> (try simp only [b1, b2, b3, b4, reduceCtorEq, b5, b6] at hb) <;> (try omega))|refine zAi (by rfl) ?_ ?_|refine andS ?_|(refine ⟨fun hc => ?_, fun hc => ?_⟩)|(intro hc; try omega))
  refine hS.h _ ?_
  clear hS K
  refine zAE (t := AS.of [(0, .one (.box 0)), (1, .one (.val .str t)), (5, .one (.val .int (hkind t : Int))), (6, .one (.val (.sl .int) (hargs t)))] [] [(0, .rcd [.raw (.int .i32 1), .raw (.int .u32 0), .val (.sl (.sl .int)) f, .val (.sl (.sl .int)) c, .val (.sl .int) ma, .val (.sl .int) mb, .val .int wst, .mk 0 9 .str ord, .val .str bk])]) ?_ ?_
  · refine zAj ?_ ?_ ?_ <;> simp only [push_cast, seval, reduceCtorEq, Int.cast_ofNat_Int]
  refine zAd fun K hK0 => ?_
  have hS := Stop.mk hK0
  clear hK0
  refine zJ5 0 7 1 rfl rfl (by rw [hnl0]; decide) ?_
  refine zAE (t := AS.of [(0, .one (.box 0)), (1, .one (.val .str t)), (5, .one (.val .int (hkind t : Int))), (6, .one (.val (.sl .int) (hargs t)))] [(1, .flat 9 .str ord)] [(0, .rcd [.raw (.int .i32 1), .raw (.int .u32 0), .val (.sl (.sl .int)) f, .val (.sl (.sl .int)) c, .val (.sl .int) ma, .val (.sl .int) mb, .val .int wst, .ref 1, .val .str bk])]) ?_ ?_
  · unfold AS.reB
    refine zAj ?_ ?_ ?_ <;> simp only [push_cast, seval, reduceCtorEq, Int.cast_ofNat_Int]
  refine zAd fun K2 hK0 => ?_
  have hS2 := Stop.mk hK0
  clear hK0
  repeat' (first|(refine goK (by assumption) ?_; iterate 4 (try clear hK K))|(refine zAd fun K hK => ?_)|((first|refine zAb hE rfl ?_|refine zAh ?_); simp +contextual only [hnl, ↓kN, ↓kP, ↓kG, ↓qN, ↓qP, ↓qG, push_cast, seval, reduceCtorEq, Int.cast_ofNat_Int])|refine zAc ?_|((first|refine zAg ?_|refine zAf ?_); simp only [thenQ, zAk, if_true, if_false, Nat.reduceEqDiff, reduceCtorEq])|(refine zAe (by rfl) (fun hb => ?_) (fun hb => ?_) <;> (try simp only [b1, b2, b3, b4, reduceCtorEq, b5, b6] at hb) <;> (try omega))|refine zAi (by rfl) ?_ ?_|refine andS ?_|(refine ⟨fun hc => ?_, fun hc => ?_⟩)|(intro hc; try omega))
  refine hS2.h _ ?_
  clear hS2 K2
  refine zAE (t := AS.of [(0, .one (.box 0)), (1, .one (.val .str t)), (5, .one (.val .int (hkind t : Int))), (6, .one (.val (.sl .int) (hargs t))), (34, .one (.val .bool (decide ((ord.length : Int) = 60))))] [(1, .flat 9 .str ord)] [(0, .rcd [.raw (.int .i32 1), .raw (.int .u32 0), .val (.sl (.sl .int)) f, .val (.sl (.sl .int)) c, .val (.sl .int) ma, .val (.sl .int) mb, .val .int wst, .ref 1, .val .str bk])]) ?_ ?_
  · refine zAj ?_ ?_ ?_ <;> simp only [push_cast, seval, reduceCtorEq, Int.cast_ofNat_Int]
  refine zMu 0 0 7 1 rfl rfl rfl (by rw [hnl0]; decide) ?_
  refine zAE (t := AS.of [(0, .one (.box 0)), (1, .one (.val .str t)), (5, .one (.val .int (hkind t : Int))), (6, .one (.val (.sl .int) (hargs t))), (34, .one (.val .bool (decide ((ord.length : Int) = 60))))] [] [(0, .rcd [.raw (.int .i32 1), .raw (.int .u32 0), .val (.sl (.sl .int)) f, .val (.sl (.sl .int)) c, .val (.sl .int) ma, .val (.sl .int) mb, .val .int wst, .mk 0 9 .str ord, .val .str bk])]) ?_ ?_
  · unfold AS.reB
    refine zAj ?_ ?_ ?_ <;> simp only [push_cast, seval, reduceCtorEq, Int.cast_ofNat_Int]
  by_cases h60 : ord.length = 60
  · have eE : doE ((), (), f, c, ma, mb, wst, ord, bk, ()) t = 3 := by unfold doE; rw [if_pos hok]; exact if_pos h60
    have eX : doX ((), (), f, c, ma, mb, wst, ord, bk, ()) t = ((), (), f, c, ma, mb, wst, ord, bk, ()) := by rw [doX, eE]; rfl
    have h60' : ((ord.length : Int) = 60) := by omega
    replace hnl := And.intro hnl h60
    repeat' (first|(refine goK (by assumption) ?_; iterate 4 (try clear hK K))|(refine zAd fun K hK => ?_)|((first|refine zAb hE rfl ?_|refine zAh ?_); simp +contextual only [hnl, ↓kN, ↓kP, ↓kG, ↓qN, ↓qP, ↓qG, push_cast, seval, reduceCtorEq, Int.cast_ofNat_Int])|refine zAc ?_|((first|refine zAg ?_|refine zAf ?_); simp only [thenQ, zAk, if_true, if_false, Nat.reduceEqDiff, reduceCtorEq])|(refine zAe (by rfl) (fun hb => ?_) (fun hb => ?_) <;> (try simp only [b1, b2, b3, b4, reduceCtorEq, b5, b6] at hb) <;> (try omega))|refine zAi (by rfl) ?_ ?_|refine andS ?_|(refine ⟨fun hc => ?_, fun hc => ?_⟩)|(intro hc; try omega))
    all_goals exact ⟨.inr rfl, _, AS.of [(0, .one (.box 0)), (4, .one (.val .int (doE ((), (), f, c, ma, mb, wst, ord, bk, ()) t)))] [] [(0, .rcd [.raw (.int .i32 0), .raw (.int .u32 0), .val (.sl (.sl .int)) f, .val (.sl (.sl .int)) c, .val (.sl .int) ma, .val (.sl .int) mb, .val .int wst, .mk 0 9 .str ord, .val .str bk])], rfl, rfl, (by rw [eE]; (refine zAj ?_ ?_ ?_ <;> simp only [push_cast, seval, reduceCtorEq, Int.cast_ofNat_Int])), (by simp only [hnl, eX, Tryz.results31, push_cast, seval, reduceCtorEq, Int.cast_ofNat_Int])⟩
  have eE : doE ((), (), f, c, ma, mb, wst, ord, bk, ()) t = (doV (hkind t) (hargs t) (c, ma, mb, wst)).1 := by unfold doE; rw [if_pos hok]; exact if_neg h60
  have h60' : ¬ ((ord.length : Int) = 60) := by omega
  replace hnl := And.intro hnl (eq_false h60')
  repeat' (first|(refine goK (by assumption) ?_; iterate 4 (try clear hK K))|(refine zAd fun K hK => ?_)|((first|refine zAb hE rfl ?_|refine zAh ?_); simp +contextual only [hnl, ↓kN, ↓kP, ↓kG, ↓qN, ↓qP, ↓qG, push_cast, seval, reduceCtorEq, Int.cast_ofNat_Int])|refine zAc ?_|((first|refine zAg ?_|refine zAf ?_); simp only [thenQ, zAk, if_true, if_false, Nat.reduceEqDiff, reduceCtorEq])|(refine zAe (by rfl) (fun hb => ?_) (fun hb => ?_) <;> (try simp only [b1, b2, b3, b4, reduceCtorEq, b5, b6] at hb) <;> (try omega))|refine zAi (by rfl) ?_ ?_|refine andS ?_|(refine ⟨fun hc => ?_, fun hc => ?_⟩)|(intro hc; try omega))
  refine hS.h _ ?_
  clear hS K
  refine zAE (t := AS.of [(0, .one (.box 0)), (1, .one (.val .str t)), (5, .one (.val .int (hkind t : Int))), (6, .one (.val (.sl .int) (hargs t)))] [] [(0, .rcd [.raw (.int .i32 1), .raw (.int .u32 0), .val (.sl (.sl .int)) f, .val (.sl (.sl .int)) c, .val (.sl .int) ma, .val (.sl .int) mb, .val .int wst, .mk 0 9 .str ord, .val .str bk])]) ?_ ?_
  · refine zAj ?_ ?_ ?_ <;> simp only [push_cast, seval, reduceCtorEq, Int.cast_ofNat_Int]
  have hsz : StateSz (c, ma, mb, wst) := HOK.sz hst
  refine zSs hP hE rfl (by rw [hnl0]; decide) rfl rfl rfl rfl rfl hsz hdp fun S g0 g1 g8 g9 gb0 gb8 => ?_
  refine zAE (t := AS.of [(0, .one (.box 0)), (1, .one (.val .str t)), (8, .one (.box 8)), (9, .one (.val (.err 161) (doV (hkind t) (hargs t) (c, ma, mb, wst)).1))] [] [(0, .rcd [.raw (.int .i32 1), .raw (.int .u32 0), .val (.sl (.sl .int)) f, .val (.sl (.sl .int)) c, .val (.sl .int) ma, .val (.sl .int) mb, .val .int wst, .mk 0 9 .str ord, .val .str bk]), (8, .rcd [.val (.sl (.sl .int)) (doV (hkind t) (hargs t) (c, ma, mb, wst)).2.1, .val (.sl .int) (doV (hkind t) (hargs t) (c, ma, mb, wst)).2.2.1, .val (.sl .int) (doV (hkind t) (hargs t) (c, ma, mb, wst)).2.2.2.1, .val .int (doV (hkind t) (hargs t) (c, ma, mb, wst)).2.2.2.2])]) ?_ ?_
  · refine zAj ?_ ?_ ?_ <;> simp only [g0, g1, g8, g9, gb0, gb8, push_cast, seval, reduceCtorEq, Int.cast_ofNat_Int]
    all_goals first | exact ⟨_, rfl⟩ | skip
  clear g0 g1 g8 g9 gb0 gb8 S
  by_cases h0 : (doV (hkind t) (hargs t) (c, ma, mb, wst)).1 = 0
  rotate_left
  · have eX : doX ((), (), f, c, ma, mb, wst, ord, bk, ()) t = ((), (), f, c, ma, mb, wst, ord, bk, ()) := by unfold doX; rw [eE, if_neg h0]
    replace hnl := And.intro hnl (eq_false h0)
    repeat' (first|(refine goK (by assumption) ?_; iterate 4 (try clear hK K))|(refine zAd fun K hK => ?_)|((first|refine zAb hE rfl ?_|refine zAh ?_); simp +contextual only [hnl, ↓kN, ↓kP, ↓kG, ↓qN, ↓qP, ↓qG, push_cast, seval, reduceCtorEq, Int.cast_ofNat_Int])|refine zAc ?_|((first|refine zAg ?_|refine zAf ?_); simp only [thenQ, zAk, if_true, if_false, Nat.reduceEqDiff, reduceCtorEq])|(refine zAe (by rfl) (fun hb => ?_) (fun hb => ?_) <;> (try simp only [b1, b2, b3, b4, reduceCtorEq, b5, b6] at hb) <;> (try omega))|refine zAi (by rfl) ?_ ?_|refine andS ?_|(refine ⟨fun hc => ?_, fun hc => ?_⟩)|(intro hc; try omega))
    all_goals exact ⟨.inr rfl, _, AS.of [(0, .one (.box 0)), (4, .one (.val .int (doE ((), (), f, c, ma, mb, wst, ord, bk, ()) t)))] [] [(0, .rcd [.raw (.int .i32 0), .raw (.int .u32 0), .val (.sl (.sl .int)) f, .val (.sl (.sl .int)) c, .val (.sl .int) ma, .val (.sl .int) mb, .val .int wst, .mk 0 9 .str ord, .val .str bk])], rfl, rfl, (by rw [eE]; (refine zAj ?_ ?_ ?_ <;> simp only [push_cast, seval, reduceCtorEq, Int.cast_ofNat_Int])), (by simp only [hnl, eX, Tryz.results31, push_cast, seval, reduceCtorEq, Int.cast_ofNat_Int])⟩
  have eX : doX ((), (), f, c, ma, mb, wst, ord, bk, ()) t = mkH f (doV (hkind t) (hargs t) (c, ma, mb, wst)).2 (ord ++ [t]) (zDb bk (lst (doV (hkind t) (hargs t) (c, ma, mb, wst)).2) t) := by unfold doX; rw [eE, if_pos h0]; rfl
  generalize (doV (hkind t) (hargs t) (c, ma, mb, wst)).2 = st' at eX ⊢
  rw [h0] at eE ⊢
  obtain ⟨c', ma', mb', wst'⟩ := st'
  dsimp only
  refine zPX fun K hK0 => ?_
  have hS := Stop.mk hK0
  clear hK0
  repeat' (first|(refine goK (by assumption) ?_; iterate 4 (try clear hK K))|(refine zAd fun K hK => ?_)|((first|refine zAb hE rfl ?_|refine zAh ?_); simp +contextual only [hnl, ↓kN, ↓kP, ↓kG, ↓qN, ↓qP, ↓qG, push_cast, seval, reduceCtorEq, Int.cast_ofNat_Int])|refine zAc ?_|((first|refine zAg ?_|refine zAf ?_); simp only [thenQ, zAk, if_true, if_false, Nat.reduceEqDiff, reduceCtorEq])|(refine zAe (by rfl) (fun hb => ?_) (fun hb => ?_) <;> (try simp only [b1, b2, b3, b4, reduceCtorEq, b5, b6] at hb) <;> (try omega))|refine zAi (by rfl) ?_ ?_|refine andS ?_|(refine ⟨fun hc => ?_, fun hc => ?_⟩)|(intro hc; try omega))
  refine hS.h _ ?_; clear hS K
  refine zAE (t := AS.of [(0, .one (.box 0)), (1, .one (.val .str t)), (8, .one (.box 8))] [] [(0, .rcd [.raw (.int .i32 1), .raw (.int .u32 0), .val (.sl (.sl .int)) f, .val (.sl (.sl .int)) c, .val (.sl .int) ma, .val (.sl .int) mb, .val .int wst, .mk 0 9 .str ord, .val .str bk]), (8, .rcd [.val (.sl (.sl .int)) c', .val (.sl .int) ma', .val (.sl .int) mb', .val .int wst'])]) ?_ ?_
  · refine zAj ?_ ?_ ?_ <;> simp only [push_cast, seval, reduceCtorEq, Int.cast_ofNat_Int]
  refine zAd fun K hK0 => ?_; have hS := Stop.mk hK0; clear hK0
  repeat' (first|(refine goK (by assumption) ?_; iterate 4 (try clear hK K))|(refine zAd fun K hK => ?_)|((first|refine zAb hE rfl ?_|refine zAh ?_); simp +contextual only [hnl, ↓kN, ↓kP, ↓kG, ↓qN, ↓qP, ↓qG, push_cast, seval, reduceCtorEq, Int.cast_ofNat_Int])|refine zAc ?_|((first|refine zAg ?_|refine zAf ?_); simp only [thenQ, zAk, if_true, if_false, Nat.reduceEqDiff, reduceCtorEq])|(refine zAe (by rfl) (fun hb => ?_) (fun hb => ?_) <;> (try simp only [b1, b2, b3, b4, reduceCtorEq, b5, b6] at hb) <;> (try omega))|refine zAi (by rfl) ?_ ?_|refine andS ?_|(refine ⟨fun hc => ?_, fun hc => ?_⟩)|(intro hc; try omega))
  refine hS.h _ ?_; clear hS K
  refine zAE (t := AS.of [(0, .one (.box 0)), (1, .one (.val .str t)), (8, .one (.box 8))] [] [(0, .rcd [.raw (.int .i32 1), .raw (.int .u32 0), .val (.sl (.sl .int)) f, .val (.sl (.sl .int)) c', .val (.sl .int) ma', .val (.sl .int) mb', .val .int wst', .mk 0 9 .str ord, .val .str bk]), (8, .rcd [.val (.sl (.sl .int)) c', .val (.sl .int) ma', .val (.sl .int) mb', .val .int wst'])]) ?_ ?_
  · refine zAj ?_ ?_ ?_ <;> simp only [push_cast, seval, reduceCtorEq, Int.cast_ofNat_Int]
  refine zJ5 0 7 1 rfl rfl (by rw [hnl0]; decide) ?_
  refine zAE (t := AS.of [(0, .one (.box 0)), (1, .one (.val .str t)), (8, .one (.box 8))] [(1, .flat 9 .str ord)] [(0, .rcd [.raw (.int .i32 1), .raw (.int .u32 0), .val (.sl (.sl .int)) f, .val (.sl (.sl .int)) c', .val (.sl .int) ma', .val (.sl .int) mb', .val .int wst', .ref 1, .val .str bk]), (8, .rcd [.val (.sl (.sl .int)) c', .val (.sl .int) ma', .val (.sl .int) mb', .val .int wst'])]) ?_ ?_
  · unfold AS.reB
    refine zAj ?_ ?_ ?_ <;> simp only [push_cast, seval, reduceCtorEq, Int.cast_ofNat_Int]
  have hol : ord.length ≤ 1000000 := by
    have : ord.length ≤ 60 := hord
    omega
  replace hnl := And.intro hnl hol
  refine zAd fun K hK0 => ?_; have hS := Stop.mk hK0; clear hK0
  repeat' (first|(refine goK (by assumption) ?_; iterate 4 (try clear hK K))|(refine zAd fun K hK => ?_)|((first|refine zAb hE rfl ?_|refine zAh ?_); simp +contextual only [hnl, ↓kN, ↓kP, ↓kG, ↓qN, ↓qP, ↓qG, push_cast, seval, reduceCtorEq, Int.cast_ofNat_Int])|refine zAc ?_|((first|refine zAg ?_|refine zAf ?_); simp only [thenQ, zAk, if_true, if_false, Nat.reduceEqDiff, reduceCtorEq])|(refine zAe (by rfl) (fun hb => ?_) (fun hb => ?_) <;> (try simp only [b1, b2, b3, b4, reduceCtorEq, b5, b6] at hb) <;> (try omega))|refine zAi (by rfl) ?_ ?_|refine andS ?_|(refine ⟨fun hc => ?_, fun hc => ?_⟩)|(intro hc; try omega))
  refine hS.h _ ?_; clear hS K
  refine zAE (t := AS.of [(0, .one (.box 0)), (1, .one (.val .str t)), (8, .one (.box 8))] [(1, .flat 9 .str (ord ++ [t]))] [(0, .rcd [.raw (.int .i32 1), .raw (.int .u32 0), .val (.sl (.sl .int)) f, .val (.sl (.sl .int)) c', .val (.sl .int) ma', .val (.sl .int) mb', .val .int wst', .ref 1, .val .str bk]), (8, .rcd [.val (.sl (.sl .int)) c', .val (.sl .int) ma', .val (.sl .int) mb', .val .int wst'])]) ?_ ?_
  · refine zAj ?_ ?_ ?_ <;> simp only [push_cast, seval, reduceCtorEq, Int.cast_ofNat_Int]
  refine zMu 0 0 7 1 rfl rfl rfl (by rw [hnl0]; decide) ?_
  refine zAE (t := AS.of [(0, .one (.box 0)), (1, .one (.val .str t)), (8, .one (.box 8))] [] [(0, .rcd [.raw (.int .i32 1), .raw (.int .u32 0), .val (.sl (.sl .int)) f, .val (.sl (.sl .int)) c', .val (.sl .int) ma', .val (.sl .int) mb', .val .int wst', .mk 0 9 .str (ord ++ [t]), .val .str bk]), (8, .rcd [.val (.sl (.sl .int)) c', .val (.sl .int) ma', .val (.sl .int) mb', .val .int wst'])]) ?_ ?_
  · unfold AS.reB
    refine zAj ?_ ?_ ?_ <;> simp only [push_cast, seval, reduceCtorEq, Int.cast_ofNat_Int]
  have hwr : WrPre bk (zDh ma' mb' c' wst') t := by
    have h1 := zJr ma' mb' c' wst'
    have h2 := (zC1.1 hok).1.1
    have h3 : bk.size ≤ 100 * ord.length := hbk
    have h4 : ord.length ≤ 60 := hord
    exact ⟨by omega, by unfold InR; omega, by omega⟩
  replace hnl := And.intro hnl (eq_true hwr)
  refine zAd fun K hK0 => ?_; have hS := Stop.mk hK0; clear hK0
  repeat' (first|(refine zAa hE 1 rfl rfl (by decide +kernel) ?_; simp only [List.length_cons, List.length_nil, Nat.reduceAdd, Nat.reduceSub, List.take_succ_cons, List.take_zero, List.drop_succ_cons, List.drop_zero]; simp +contextual only [hnl, ↓kN, ↓kP, ↓kG, ↓qN, ↓qP, ↓qG, push_cast, seval, reduceCtorEq, Int.cast_ofNat_Int])|(first|(refine goK (by assumption) ?_; iterate 4 (try clear hK K))|(refine zAd fun K hK => ?_)|((first|refine zAb hE rfl ?_|refine zAh ?_); simp +contextual only [hnl, ↓kN, ↓kP, ↓kG, ↓qN, ↓qP, ↓qG, push_cast, seval, reduceCtorEq, Int.cast_ofNat_Int])|refine zAc ?_|((first|refine zAg ?_|refine zAf ?_); simp only [thenQ, zAk, if_true, if_false, Nat.reduceEqDiff, reduceCtorEq])|(refine zAe (by rfl) (fun hb => ?_) (fun hb => ?_) <;> (try simp only [b1, b2, b3, b4, reduceCtorEq, b5, b6] at hb) <;> (try omega))|refine zAi (by rfl) ?_ ?_|refine andS ?_|(refine ⟨fun hc => ?_, fun hc => ?_⟩)|(intro hc; try omega)))
  refine hS.h _ ?_; clear hS K
  repeat' (first|(refine goK (by assumption) ?_; iterate 4 (try clear hK K))|(refine zAd fun K hK => ?_)|((first|refine zAb hE rfl ?_|refine zAh ?_); simp +contextual only [hnl, ↓kN, ↓kP, ↓kG, ↓qN, ↓qP, ↓qG, push_cast, seval, reduceCtorEq, Int.cast_ofNat_Int])|refine zAc ?_|((first|refine zAg ?_|refine zAf ?_); simp only [thenQ, zAk, if_true, if_false, Nat.reduceEqDiff, reduceCtorEq])|(refine zAe (by rfl) (fun hb => ?_) (fun hb => ?_) <;> (try simp only [b1, b2, b3, b4, reduceCtorEq, b5, b6] at hb) <;> (try omega))|refine zAi (by rfl) ?_ ?_|refine andS ?_|(refine ⟨fun hc => ?_, fun hc => ?_⟩)|(intro hc; try omega))
  all_goals exact ⟨.inr rfl, _, AS.of [(0, .one (.box 0)), (4, .one (.val .int (doE ((), (), f, c, ma, mb, wst, ord, bk, ()) t)))] [] [(0, .rcd [.raw (.int .i32 0), .raw (.int .u32 0), .val (.sl (.sl .int)) f, .val (.sl (.sl .int)) c', .val (.sl .int) ma', .val (.sl .int) mb', .val .int wst', .mk 0 9 .str (ord ++ [t]), .val .str (zDb bk (zDh ma' mb' c' wst') t)])], rfl, rfl, (by rw [eE]; (refine zAj ?_ ?_ ?_ <;> simp only [push_cast, seval, reduceCtorEq, Int.cast_ofNat_Int])), (by simp only [hnl, eX, mkH, lst, Tryz.results31, push_cast, seval, reduceCtorEq, Int.cast_ofNat_Int])⟩
end Go.Proofs.YtlgkplnifaoeeaaGreatDoor
