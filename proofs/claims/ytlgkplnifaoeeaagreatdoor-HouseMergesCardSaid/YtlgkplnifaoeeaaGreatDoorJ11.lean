import Derived.Test.YtlgkplnifaoeeaaGreatDoorJ10
import Derived.Test.YtlgkplnifaoeeaaGreatDoorJ8
set_option linter.unusedSimpArgs false
set_option linter.unusedVariables false
namespace Go.Proofs.YtlgkplnifaoeeaaGreatDoor
open Go.RowKit Go.VS
theorem zPN {C : Ctx} {f : FuncId} {fn : Func} {code : Code} {s0 : AS} {γ : Gam} {w : World} {vs : List Value} {Q : Exit → AS → Prop} (hf : C.P.funcs[f]? = some fn) (hb : fn.body = some code) (hds : C.ds = []) (hle : vs.length ≤ fn.ntmps)
    (hr : Rel C γ s0 { tmps := vs.toArray ++ Array.replicate (fn.ntmps - vs.length) undef, defers := [] } w) (h : tri C fn.ntmps code Q s0) (hQ : ∀ e s, Q e s → e = .normal ∨ e = .ret) {R : Ending → World → Prop}
    (hR : ∀ e s' γ' a' w', Rel C γ' s' a' w' → Q e s' → ∃ v, (results fn a'.tmps).run C.P w' = .ok v w' ∧ R (.returned v) w') : Calls C.P f vs.toArray w R := by
  refine calls_of_wp hf hb ?_
  refine wp_mono (h.run γ _ _ hr (by simp; omega)) ?_
  rintro e a' w' ⟨s', γ', h1, h2, h3⟩
  obtain ⟨v, k1, k2⟩ := hR e s' γ' a' w' h1 h3
  rcases hQ e s' h3 with rfl | rfl
  · exact ⟨h1.defers.1.trans hds, v, k1, k2⟩
  · exact ⟨h1.defers.1.trans hds, v, k1, k2⟩
def doV (k : Nat) (l : List Int) (s : State) : Int × State :=
  if k = 0 then (chgE s.2.1 (l.getD 0 0) (l.getD 1 0) (l.getD 1 0), s.1, chgL s.2.1 (l.getD 0 0) (l.getD 1 0) (l.getD 1 0), s.2.2)
  else if k = 1 then (chgE s.2.1 (l.getD 0 0) (l.getD 1 0) (-(l.getD 1 0)), s.1, chgL s.2.1 (l.getD 0 0) (l.getD 1 0) (-(l.getD 1 0)), s.2.2)
  else if k = 2 then (chgE s.2.2.1 (l.getD 0 0) (l.getD 1 0) (l.getD 1 0), s.1, s.2.1, chgL s.2.2.1 (l.getD 0 0) (l.getD 1 0) (l.getD 1 0), s.2.2.2)
  else if k = 3 then (chgE s.2.2.1 (l.getD 0 0) (l.getD 1 0) (-(l.getD 1 0)), s.1, s.2.1, chgL s.2.2.1 (l.getD 0 0) (l.getD 1 0) (-(l.getD 1 0)), s.2.2.2)
  else if k = 4 then (if (s.2.1.length : Int) ≤ l.getD 0 0 ∨ (s.2.2.1.length : Int) ≤ l.getD 1 0 then (4, s) else if 99 < l.getD 2 0 then (1, s) else (0, s.1.set (l.getD 0 0).toNat ((s.1.getD (l.getD 0 0).toNat []).set (l.getD 1 0).toNat (l.getD 2 0)), s.2))
  else if k = 5 then (if 99 < l.getD 0 0 then (1, s) else (0, s.1, s.2.1, s.2.2.1, l.getD 0 0))
  else (if zDh s.2.1 s.2.2.1 s.1 s.2.2.2 = l.getD 0 0 then (0, s) else (7, s))
theorem doV4 (l : List Int) (c : List (List Int)) (a b : List Int) (w : Int) : doV 4 l (c, a, b, w) = if (a.length : Int) ≤ l.getD 0 0 ∨ (b.length : Int) ≤ l.getD 1 0 then (4, (c, a, b, w)) else if 99 < l.getD 2 0 then (1, (c, a, b, w)) else (0, (c.set (l.getD 0 0).toNat ((c.getD (l.getD 0 0).toNat []).set (l.getD 1 0).toNat (l.getD 2 0)), a, b, w)) := rfl
theorem doV5 (l : List Int) (c : List (List Int)) (a b : List Int) (w : Int) : doV 5 l (c, a, b, w) = if 99 < l.getD 0 0 then (1, (c, a, b, w)) else (0, (c, a, b, l.getD 0 0)) := rfl
theorem doV6 (l : List Int) (c : List (List Int)) (a b : List Int) (w : Int) : doV 6 l (c, a, b, w) = if zDh a b c w = l.getD 0 0 then (0, (c, a, b, w)) else (7, (c, a, b, w)) := rfl
structure DoPre (k : Nat) (l : List Int) (s : State) : Prop where
  kind : k ≤ 6
  len : l.length = if k = 4 then 3 else if k ≤ 3 then 2 else 1
  num : ∀ i, i < l.length → 0 ≤ l.getD i 0 ∧ l.getD i 0 ≤ 99999
  tab : InTab 0 99 s.1
  la : s.2.1.length = s.1.length
  lb : s.2.2.1.length = wid s.1
  a : ∀ i, i < s.2.1.length → 0 ≤ s.2.1.getD i 0 ∧ s.2.1.getD i 0 ≤ 30
  b : ∀ i, i < s.2.2.1.length → 0 ≤ s.2.2.1.getD i 0 ∧ s.2.2.1.getD i 0 ≤ 30
def doIn (k : Nat) (l : List Int) (s : State) : AS := AS.of [(0, .one (.box 0)), (1, .one (.val .int (k : Int))), (2, .one (.val (.sl .int) l))] [(1, .deep 25 3 .int s.1), (2, .flat 3 .int s.2.1), (3, .flat 3 .int s.2.2.1)] [(0, .rcd [.ref 1, .ref 2, .ref 3, .val .int s.2.2.2])]
def doOut (k : Nat) (l : List Int) (s : State) : AS := AS.of [(6, .one (.val (.err 161) (doV k l s).1))] [] [(0, .rcd [.val (.sl (.sl .int)) (doV k l s).2.1, .val (.sl .int) (doV k l s).2.2.1, .val (.sl .int) (doV k l s).2.2.2.1, .val .int (doV k l s).2.2.2.2])]
structure DoQ (nl : Nat) (k : Nat) (l : List Int) (s : State) (e : Exit) (t : AS) : Prop where
  e : e = .normal ∨ e = .ret
  h : Weak nl t (doOut k l s)
def zSU : Know := know [(127, zOa), (81, zCQ)] []
theorem zOo : KnowOK Tryz.prog zSU := zAn (all_cons zQg (all_cons zEO all_nil)) all_nil all_nil
set_option maxHeartbeats 4000000 in
theorem zSW {C : Ctx} (hP : C.P = Tryz.prog) (hE : KnowOK C.P (know [(127, zOa), (81, zCQ)] [])) (hnl : C.nl = 4) (k : Nat) (l : List Int) (s : State) (hpre : DoPre k l s) {code : Code} (hb : Tryz.f79.body = some code) :
    tri C 146 code (DoQ 4 k l s) (doIn k l s) := by
  obtain ⟨c, a, b, wst⟩ := s
  obtain ⟨hk, hl, hn, ht, hla, hlb, ha, hbb⟩ := hpre
  dsimp only at *
  unfold doIn
  dsimp only
  have hb' : code = (Tryz.f79.body).getD .skip := by rw [hb]; rfl
  subst hb'
  clear hb
  show tri C 146 _ _ _
  dsimp only [Tryz.f79]
  simp only [Option.getD_some]
  have hn0 := hn 0
  have hn1 := hn 1
  have hrs := ht.rows
  have hcs := ht.cols
  obtain rfl | rfl | rfl | rfl | rfl | rfl | rfl : k = 0 ∨ k = 1 ∨ k = 2 ∨ k = 3 ∨ k = 4 ∨ k = 5 ∨ k = 6 := by omega
  · have hl' : l.length = 2 := hl
    have hp : ChgPre (.flat 3 .int a) (l.getD 0 0) (l.getD 1 0) := ⟨by rw [zA8], by rw [zA8]; omega, by rw [zA8]; exact ha, by have := hn0 (by omega); omega, by have := hn1 (by omega); omega⟩
    have e : doV 0 l (c, a, b, wst) = (chgE a (l.getD 0 0) (l.getD 1 0) (l.getD 1 0), c, chgL a (l.getD 0 0) (l.getD 1 0) (l.getD 1 0), b, wst) := rfl
    replace hnl := And.intro hnl (And.intro (eq_true hp) hl')
    repeat' (first|(refine zAa hE 2 rfl rfl (by decide +kernel) ?_; simp only [List.length_cons, List.length_nil, Nat.reduceAdd, Nat.reduceSub, List.take_succ_cons, List.take_zero, List.drop_succ_cons, List.drop_zero]; simp +contextual only [hnl, ↓kN, ↓kP, ↓kG, ↓qN, ↓qP, ↓qG, push_cast, seval, reduceCtorEq, Int.cast_ofNat_Int])|(first|(refine goK (by assumption) ?_; iterate 4 (try clear hK K))|(refine zAd fun K hK => ?_)|((first|refine zAb hE rfl ?_|refine zAh ?_|((first|refine zAa hE 1 rfl rfl (by kernel_rfl) ?_|refine zAa hE 2 rfl rfl (by kernel_rfl) ?_|refine zAa hE 3 rfl rfl (by kernel_rfl) ?_|refine zAa hE 4 rfl rfl (by kernel_rfl) ?_); simp only [List.length_cons, List.length_nil, Nat.reduceAdd, Nat.reduceSub, List.take_succ_cons, List.take_zero, List.drop_succ_cons, List.drop_zero])); simp +contextual only [hnl, ↓kN, ↓kP, ↓kG, ↓qN, ↓qP, ↓qG, push_cast, seval, reduceCtorEq, Int.cast_ofNat_Int])|refine zAc ?_|((first|refine zAg ?_|refine zAf ?_); simp only [thenQ, zAk, if_true, if_false, Nat.reduceEqDiff, reduceCtorEq])|(refine zAe (by rfl) (fun hb => ?_) (fun hb => ?_) <;> (try simp only [b1, b2, b3, b4, reduceCtorEq, b5, b6] at hb) <;> (try omega))|refine zAi (by rfl) ?_ ?_|refine andS ?_|(refine ⟨fun hc => ?_, fun hc => ?_⟩)|(intro hc; try omega)))
    all_goals ((try refine zAh ?_); refine ⟨.inr rfl, ?_⟩; unfold doOut; rw [e]; dsimp only; refine zAj ?_ ?_ ?_ <;> simp only [push_cast, seval, reduceCtorEq, Int.cast_ofNat_Int])
  · have hl' : l.length = 2 := hl
    have hp : ChgPre (.flat 3 .int a) (l.getD 0 0) (-(l.getD 1 0)) := ⟨by rw [zA8], by rw [zA8]; omega, by rw [zA8]; exact ha, by have := hn0 (by omega); omega, by have := hn1 (by omega); omega⟩
    have e : doV 1 l (c, a, b, wst) = (chgE a (l.getD 0 0) (l.getD 1 0) (-(l.getD 1 0)), c, chgL a (l.getD 0 0) (l.getD 1 0) (-(l.getD 1 0)), b, wst) := rfl
    replace hnl := And.intro hnl (And.intro (eq_true hp) hl')
    repeat' (first|(refine zAa hE 2 rfl rfl (by decide +kernel) ?_; simp only [List.length_cons, List.length_nil, Nat.reduceAdd, Nat.reduceSub, List.take_succ_cons, List.take_zero, List.drop_succ_cons, List.drop_zero]; simp +contextual only [hnl, ↓kN, ↓kP, ↓kG, ↓qN, ↓qP, ↓qG, push_cast, seval, reduceCtorEq, Int.cast_ofNat_Int])|(first|(refine goK (by assumption) ?_; iterate 4 (try clear hK K))|(refine zAd fun K hK => ?_)|((first|refine zAb hE rfl ?_|refine zAh ?_|((first|refine zAa hE 1 rfl rfl (by kernel_rfl) ?_|refine zAa hE 2 rfl rfl (by kernel_rfl) ?_|refine zAa hE 3 rfl rfl (by kernel_rfl) ?_|refine zAa hE 4 rfl rfl (by kernel_rfl) ?_); simp only [List.length_cons, List.length_nil, Nat.reduceAdd, Nat.reduceSub, List.take_succ_cons, List.take_zero, List.drop_succ_cons, List.drop_zero])); simp +contextual only [hnl, ↓kN, ↓kP, ↓kG, ↓qN, ↓qP, ↓qG, push_cast, seval, reduceCtorEq, Int.cast_ofNat_Int])|refine zAc ?_|((first|refine zAg ?_|refine zAf ?_); simp only [thenQ, zAk, if_true, if_false, Nat.reduceEqDiff, reduceCtorEq])|(refine zAe (by rfl) (fun hb => ?_) (fun hb => ?_) <;> (try simp only [b1, b2, b3, b4, reduceCtorEq, b5, b6] at hb) <;> (try omega))|refine zAi (by rfl) ?_ ?_|refine andS ?_|(refine ⟨fun hc => ?_, fun hc => ?_⟩)|(intro hc; try omega)))
    all_goals ((try refine zAh ?_); refine ⟨.inr rfl, ?_⟩; unfold doOut; rw [e]; dsimp only; refine zAj ?_ ?_ ?_ <;> simp only [push_cast, seval, reduceCtorEq, Int.cast_ofNat_Int])
  · have hl' : l.length = 2 := hl
    have hp : ChgPre (.flat 3 .int b) (l.getD 0 0) (l.getD 1 0) := ⟨by rw [zA8], by rw [zA8]; omega, by rw [zA8]; exact hbb, by have := hn0 (by omega); omega, by have := hn1 (by omega); omega⟩
    have e : doV 2 l (c, a, b, wst) = (chgE b (l.getD 0 0) (l.getD 1 0) (l.getD 1 0), c, a, chgL b (l.getD 0 0) (l.getD 1 0) (l.getD 1 0), wst) := rfl
    replace hnl := And.intro hnl (And.intro (eq_true hp) hl')
    repeat' (first|(refine zAa hE 2 rfl rfl (by decide +kernel) ?_; simp only [List.length_cons, List.length_nil, Nat.reduceAdd, Nat.reduceSub, List.take_succ_cons, List.take_zero, List.drop_succ_cons, List.drop_zero]; simp +contextual only [hnl, ↓kN, ↓kP, ↓kG, ↓qN, ↓qP, ↓qG, push_cast, seval, reduceCtorEq, Int.cast_ofNat_Int])|(first|(refine goK (by assumption) ?_; iterate 4 (try clear hK K))|(refine zAd fun K hK => ?_)|((first|refine zAb hE rfl ?_|refine zAh ?_|((first|refine zAa hE 1 rfl rfl (by kernel_rfl) ?_|refine zAa hE 2 rfl rfl (by kernel_rfl) ?_|refine zAa hE 3 rfl rfl (by kernel_rfl) ?_|refine zAa hE 4 rfl rfl (by kernel_rfl) ?_); simp only [List.length_cons, List.length_nil, Nat.reduceAdd, Nat.reduceSub, List.take_succ_cons, List.take_zero, List.drop_succ_cons, List.drop_zero])); simp +contextual only [hnl, ↓kN, ↓kP, ↓kG, ↓qN, ↓qP, ↓qG, push_cast, seval, reduceCtorEq, Int.cast_ofNat_Int])|refine zAc ?_|((first|refine zAg ?_|refine zAf ?_); simp only [thenQ, zAk, if_true, if_false, Nat.reduceEqDiff, reduceCtorEq])|(refine zAe (by rfl) (fun hb => ?_) (fun hb => ?_) <;> (try simp only [b1, b2, b3, b4, reduceCtorEq, b5, b6] at hb) <;> (try omega))|refine zAi (by rfl) ?_ ?_|refine andS ?_|(refine ⟨fun hc => ?_, fun hc => ?_⟩)|(intro hc; try omega)))
    all_goals ((try refine zAh ?_); refine ⟨.inr rfl, ?_⟩; unfold doOut; rw [e]; dsimp only; refine zAj ?_ ?_ ?_ <;> simp only [push_cast, seval, reduceCtorEq, Int.cast_ofNat_Int])
  · have hl' : l.length = 2 := hl
    have hp : ChgPre (.flat 3 .int b) (l.getD 0 0) (-(l.getD 1 0)) := ⟨by rw [zA8], by rw [zA8]; omega, by rw [zA8]; exact hbb, by have := hn0 (by omega); omega, by have := hn1 (by omega); omega⟩
    have e : doV 3 l (c, a, b, wst) = (chgE b (l.getD 0 0) (l.getD 1 0) (-(l.getD 1 0)), c, a, chgL b (l.getD 0 0) (l.getD 1 0) (-(l.getD 1 0)), wst) := rfl
    replace hnl := And.intro hnl (And.intro (eq_true hp) hl')
    repeat' (first|(refine zAa hE 2 rfl rfl (by decide +kernel) ?_; simp only [List.length_cons, List.length_nil, Nat.reduceAdd, Nat.reduceSub, List.take_succ_cons, List.take_zero, List.drop_succ_cons, List.drop_zero]; simp +contextual only [hnl, ↓kN, ↓kP, ↓kG, ↓qN, ↓qP, ↓qG, push_cast, seval, reduceCtorEq, Int.cast_ofNat_Int])|(first|(refine goK (by assumption) ?_; iterate 4 (try clear hK K))|(refine zAd fun K hK => ?_)|((first|refine zAb hE rfl ?_|refine zAh ?_|((first|refine zAa hE 1 rfl rfl (by kernel_rfl) ?_|refine zAa hE 2 rfl rfl (by kernel_rfl) ?_|refine zAa hE 3 rfl rfl (by kernel_rfl) ?_|refine zAa hE 4 rfl rfl (by kernel_rfl) ?_); simp only [List.length_cons, List.length_nil, Nat.reduceAdd, Nat.reduceSub, List.take_succ_cons, List.take_zero, List.drop_succ_cons, List.drop_zero])); simp +contextual only [hnl, ↓kN, ↓kP, ↓kG, ↓qN, ↓qP, ↓qG, push_cast, seval, reduceCtorEq, Int.cast_ofNat_Int])|refine zAc ?_|((first|refine zAg ?_|refine zAf ?_); simp only [thenQ, zAk, if_true, if_false, Nat.reduceEqDiff, reduceCtorEq])|(refine zAe (by rfl) (fun hb => ?_) (fun hb => ?_) <;> (try simp only [b1, b2, b3, b4, reduceCtorEq, b5, b6] at hb) <;> (try omega))|refine zAi (by rfl) ?_ ?_|refine andS ?_|(refine ⟨fun hc => ?_, fun hc => ?_⟩)|(intro hc; try omega)))
    all_goals ((try refine zAh ?_); refine ⟨.inr rfl, ?_⟩; unfold doOut; rw [e]; dsimp only; refine zAj ?_ ?_ ?_ <;> simp only [push_cast, seval, reduceCtorEq, Int.cast_ofNat_Int])
  · have hl' : l.length = 3 := hl
    have hn2 := hn 2
    by_cases h1 : (a.length : Int) ≤ l.getD 0 0 ∨ (b.length : Int) ≤ l.getD 1 0
    · have e : doV 4 l (c, a, b, wst) = (4, (c, a, b, wst)) := by rw [doV4, if_pos h1]
      replace hnl := And.intro hnl hl'
      repeat' (first|(refine goK (by assumption) ?_; iterate 4 (try clear hK K))|(refine zAd fun K hK => ?_)|((first|refine zAb hE rfl ?_|refine zAh ?_|((first|refine zAa hE 1 rfl rfl (by kernel_rfl) ?_|refine zAa hE 2 rfl rfl (by kernel_rfl) ?_|refine zAa hE 3 rfl rfl (by kernel_rfl) ?_|refine zAa hE 4 rfl rfl (by kernel_rfl) ?_); simp only [List.length_cons, List.length_nil, Nat.reduceAdd, Nat.reduceSub, List.take_succ_cons, List.take_zero, List.drop_succ_cons, List.drop_zero])); simp +contextual only [hnl, ↓kN, ↓kP, ↓kG, ↓qN, ↓qP, ↓qG, push_cast, seval, reduceCtorEq, Int.cast_ofNat_Int])|refine zAc ?_|((first|refine zAg ?_|refine zAf ?_); simp only [thenQ, zAk, if_true, if_false, Nat.reduceEqDiff, reduceCtorEq])|(refine zAe (by rfl) (fun hb => ?_) (fun hb => ?_) <;> (try simp only [b1, b2, b3, b4, reduceCtorEq, b5, b6] at hb) <;> (try omega))|refine zAi (by rfl) ?_ ?_|refine andS ?_|(refine ⟨fun hc => ?_, fun hc => ?_⟩)|(intro hc; try omega))
      all_goals ((try refine zAh ?_); refine ⟨.inr rfl, ?_⟩; unfold doOut; rw [e]; dsimp only; refine zAj ?_ ?_ ?_ <;> simp only [push_cast, seval, reduceCtorEq, Int.cast_ofNat_Int])
    by_cases h2 : 99 < l.getD 2 0
    · have e : doV 4 l (c, a, b, wst) = (1, (c, a, b, wst)) := by rw [doV4, if_neg h1, if_pos h2]
      replace hnl := And.intro hnl hl'
      repeat' (first|(refine goK (by assumption) ?_; iterate 4 (try clear hK K))|(refine zAd fun K hK => ?_)|((first|refine zAb hE rfl ?_|refine zAh ?_|((first|refine zAa hE 1 rfl rfl (by kernel_rfl) ?_|refine zAa hE 2 rfl rfl (by kernel_rfl) ?_|refine zAa hE 3 rfl rfl (by kernel_rfl) ?_|refine zAa hE 4 rfl rfl (by kernel_rfl) ?_); simp only [List.length_cons, List.length_nil, Nat.reduceAdd, Nat.reduceSub, List.take_succ_cons, List.take_zero, List.drop_succ_cons, List.drop_zero])); simp +contextual only [hnl, ↓kN, ↓kP, ↓kG, ↓qN, ↓qP, ↓qG, push_cast, seval, reduceCtorEq, Int.cast_ofNat_Int])|refine zAc ?_|((first|refine zAg ?_|refine zAf ?_); simp only [thenQ, zAk, if_true, if_false, Nat.reduceEqDiff, reduceCtorEq])|(refine zAe (by rfl) (fun hb => ?_) (fun hb => ?_) <;> (try simp only [b1, b2, b3, b4, reduceCtorEq, b5, b6] at hb) <;> (try omega))|refine zAi (by rfl) ?_ ?_|refine andS ?_|(refine ⟨fun hc => ?_, fun hc => ?_⟩)|(intro hc; try omega))
      all_goals ((try refine zAh ?_); refine ⟨.inr rfl, ?_⟩; unfold doOut; rw [e]; dsimp only; refine zAj ?_ ?_ ?_ <;> simp only [push_cast, seval, reduceCtorEq, Int.cast_ofNat_Int])
    · have e : doV 4 l (c, a, b, wst) = (0, (c.set (l.getD 0 0).toNat ((c.getD (l.getD 0 0).toNat []).set (l.getD 1 0).toNat (l.getD 2 0)), a, b, wst)) := by rw [doV4, if_neg h1, if_neg h2]
      have q0 := hn0 (by omega)
      have q1 := hn1 (by omega)
      have hrl := ht.len (show (l.getD 0 0).toNat < c.length by omega)
      replace hnl := And.intro hnl (And.intro hl' hrl)
      repeat' (first|(refine goK (by assumption) ?_; iterate 4 (try clear hK K))|(refine zAd fun K hK => ?_)|((first|refine zAb hE rfl ?_|refine zAh ?_|((first|refine zAa hE 1 rfl rfl (by kernel_rfl) ?_|refine zAa hE 2 rfl rfl (by kernel_rfl) ?_|refine zAa hE 3 rfl rfl (by kernel_rfl) ?_|refine zAa hE 4 rfl rfl (by kernel_rfl) ?_); simp only [List.length_cons, List.length_nil, Nat.reduceAdd, Nat.reduceSub, List.take_succ_cons, List.take_zero, List.drop_succ_cons, List.drop_zero])); simp +contextual only [hnl, ↓kN, ↓kP, ↓kG, ↓qN, ↓qP, ↓qG, push_cast, seval, reduceCtorEq, Int.cast_ofNat_Int])|refine zAc ?_|((first|refine zAg ?_|refine zAf ?_); simp only [thenQ, zAk, if_true, if_false, Nat.reduceEqDiff, reduceCtorEq])|(refine zAe (by rfl) (fun hb => ?_) (fun hb => ?_) <;> (try simp only [b1, b2, b3, b4, reduceCtorEq, b5, b6] at hb) <;> (try omega))|refine zAi (by rfl) ?_ ?_|refine andS ?_|(refine ⟨fun hc => ?_, fun hc => ?_⟩)|(intro hc; try omega))
      all_goals ((try refine zAh ?_); refine ⟨.inr rfl, ?_⟩; unfold doOut; rw [e]; dsimp only; refine zAj ?_ ?_ ?_ <;> simp only [push_cast, seval, reduceCtorEq, Int.cast_ofNat_Int]; exact ⟨_, rfl⟩)
  · have hl' : l.length = 1 := hl
    by_cases h1 : 99 < l.getD 0 0
    · have e : doV 5 l (c, a, b, wst) = (1, (c, a, b, wst)) := by rw [doV5, if_pos h1]
      replace hnl := And.intro hnl hl'
      repeat' (first|(refine goK (by assumption) ?_; iterate 4 (try clear hK K))|(refine zAd fun K hK => ?_)|((first|refine zAb hE rfl ?_|refine zAh ?_|((first|refine zAa hE 1 rfl rfl (by kernel_rfl) ?_|refine zAa hE 2 rfl rfl (by kernel_rfl) ?_|refine zAa hE 3 rfl rfl (by kernel_rfl) ?_|refine zAa hE 4 rfl rfl (by kernel_rfl) ?_); simp only [List.length_cons, List.length_nil, Nat.reduceAdd, Nat.reduceSub, List.take_succ_cons, List.take_zero, List.drop_succ_cons, List.drop_zero])); simp +contextual only [hnl, ↓kN, ↓kP, ↓kG, ↓qN, ↓qP, ↓qG, push_cast, seval, reduceCtorEq, Int.cast_ofNat_Int])|refine zAc ?_|((first|refine zAg ?_|refine zAf ?_); simp only [thenQ, zAk, if_true, if_false, Nat.reduceEqDiff, reduceCtorEq])|(refine zAe (by rfl) (fun hb => ?_) (fun hb => ?_) <;> (try simp only [b1, b2, b3, b4, reduceCtorEq, b5, b6] at hb) <;> (try omega))|refine zAi (by rfl) ?_ ?_|refine andS ?_|(refine ⟨fun hc => ?_, fun hc => ?_⟩)|(intro hc; try omega))
      all_goals ((try refine zAh ?_); refine ⟨.inr rfl, ?_⟩; unfold doOut; rw [e]; dsimp only; refine zAj ?_ ?_ ?_ <;> simp only [push_cast, seval, reduceCtorEq, Int.cast_ofNat_Int])
    · have e : doV 5 l (c, a, b, wst) = (0, (c, a, b, l.getD 0 0)) := by rw [doV5, if_neg h1]
      replace hnl := And.intro hnl hl'
      repeat' (first|(refine goK (by assumption) ?_; iterate 4 (try clear hK K))|(refine zAd fun K hK => ?_)|((first|refine zAb hE rfl ?_|refine zAh ?_|((first|refine zAa hE 1 rfl rfl (by kernel_rfl) ?_|refine zAa hE 2 rfl rfl (by kernel_rfl) ?_|refine zAa hE 3 rfl rfl (by kernel_rfl) ?_|refine zAa hE 4 rfl rfl (by kernel_rfl) ?_); simp only [List.length_cons, List.length_nil, Nat.reduceAdd, Nat.reduceSub, List.take_succ_cons, List.take_zero, List.drop_succ_cons, List.drop_zero])); simp +contextual only [hnl, ↓kN, ↓kP, ↓kG, ↓qN, ↓qP, ↓qG, push_cast, seval, reduceCtorEq, Int.cast_ofNat_Int])|refine zAc ?_|((first|refine zAg ?_|refine zAf ?_); simp only [thenQ, zAk, if_true, if_false, Nat.reduceEqDiff, reduceCtorEq])|(refine zAe (by rfl) (fun hb => ?_) (fun hb => ?_) <;> (try simp only [b1, b2, b3, b4, reduceCtorEq, b5, b6] at hb) <;> (try omega))|refine zAi (by rfl) ?_ ?_|refine andS ?_|(refine ⟨fun hc => ?_, fun hc => ?_⟩)|(intro hc; try omega))
      all_goals ((try refine zAh ?_); refine ⟨.inr rfl, ?_⟩; unfold doOut; rw [e]; dsimp only; refine zAj ?_ ?_ ?_ <;> simp only [push_cast, seval, reduceCtorEq, Int.cast_ofNat_Int]; exact ⟨_, rfl⟩)
  · have hl' : l.length = 1 := hl
    refine zAE (t := AS.of [(0, .one (.box 0)), (1, .one (.val .int ((6 : Nat) : Int))), (2, .one (.val (.sl .int) l))] [] [(0, .rcd [.val (.sl (.sl .int)) c, .val (.sl .int) a, .val (.sl .int) b, .val .int wst])]) (by refine zAj ?_ ?_ ?_ <;> simp only [push_cast, seval, reduceCtorEq, Int.cast_ofNat_Int]) ?_
    by_cases h1 : zDh a b c wst = l.getD 0 0
    · have e : doV 6 l (c, a, b, wst) = (0, (c, a, b, wst)) := by rw [doV6, if_pos h1]
      replace hnl := And.intro hnl (And.intro hl' h1)
      repeat' (first|(refine goK (by assumption) ?_; iterate 4 (try clear hK K))|(refine zAd fun K hK => ?_)|((first|refine zAb hE rfl ?_|refine zAh ?_|((first|refine zAa hE 1 rfl rfl (by kernel_rfl) ?_|refine zAa hE 2 rfl rfl (by kernel_rfl) ?_|refine zAa hE 3 rfl rfl (by kernel_rfl) ?_|refine zAa hE 4 rfl rfl (by kernel_rfl) ?_); simp only [List.length_cons, List.length_nil, Nat.reduceAdd, Nat.reduceSub, List.take_succ_cons, List.take_zero, List.drop_succ_cons, List.drop_zero])); simp +contextual only [hnl, ↓kN, ↓kP, ↓kG, ↓qN, ↓qP, ↓qG, push_cast, seval, reduceCtorEq, Int.cast_ofNat_Int])|refine zAc ?_|((first|refine zAg ?_|refine zAf ?_); simp only [thenQ, zAk, if_true, if_false, Nat.reduceEqDiff, reduceCtorEq])|(refine zAe (by rfl) (fun hb => ?_) (fun hb => ?_) <;> (try simp only [b1, b2, b3, b4, reduceCtorEq, b5, b6] at hb) <;> (try omega))|refine zAi (by rfl) ?_ ?_|refine andS ?_|(refine ⟨fun hc => ?_, fun hc => ?_⟩)|(intro hc; try omega))
      all_goals ((try refine zAh ?_); refine ⟨.inr rfl, ?_⟩; unfold doOut; rw [e]; dsimp only; refine zAj ?_ ?_ ?_ <;> simp only [push_cast, seval, reduceCtorEq, Int.cast_ofNat_Int]; exact ⟨_, rfl⟩)
    · have e : doV 6 l (c, a, b, wst) = (7, (c, a, b, wst)) := by rw [doV6, if_neg h1]
      replace hnl := And.intro hnl (And.intro hl' (eq_false h1))
      repeat' (first|(refine goK (by assumption) ?_; iterate 4 (try clear hK K))|(refine zAd fun K hK => ?_)|((first|refine zAb hE rfl ?_|refine zAh ?_|((first|refine zAa hE 1 rfl rfl (by kernel_rfl) ?_|refine zAa hE 2 rfl rfl (by kernel_rfl) ?_|refine zAa hE 3 rfl rfl (by kernel_rfl) ?_|refine zAa hE 4 rfl rfl (by kernel_rfl) ?_); simp only [List.length_cons, List.length_nil, Nat.reduceAdd, Nat.reduceSub, List.take_succ_cons, List.take_zero, List.drop_succ_cons, List.drop_zero])); simp +contextual only [hnl, ↓kN, ↓kP, ↓kG, ↓qN, ↓qP, ↓qG, push_cast, seval, reduceCtorEq, Int.cast_ofNat_Int])|refine zAc ?_|((first|refine zAg ?_|refine zAf ?_); simp only [thenQ, zAk, if_true, if_false, Nat.reduceEqDiff, reduceCtorEq])|(refine zAe (by rfl) (fun hb => ?_) (fun hb => ?_) <;> (try simp only [b1, b2, b3, b4, reduceCtorEq, b5, b6] at hb) <;> (try omega))|refine zAi (by rfl) ?_ ?_|refine andS ?_|(refine ⟨fun hc => ?_, fun hc => ?_⟩)|(intro hc; try omega))
      all_goals ((try refine zAh ?_); refine ⟨.inr rfl, ?_⟩; unfold doOut; rw [e]; dsimp only; refine zAj ?_ ?_ ?_ <;> simp only [push_cast, seval, reduceCtorEq, Int.cast_ofNat_Int])
end Go.Proofs.YtlgkplnifaoeeaaGreatDoor
namespace Go.Proofs.YtlgkplnifaoeeaaGreatDoor
open Go.RowKit Go.VS
def zB4 (s : ByteArray) (y : Nat) : Nat → Nat → Nat
  | 0, _ => s.size
  | n + 1, k => if byteV s k = y then k else zB4 s y n (k + 1)
def cutI (s : ByteArray) (y : Nat) : Nat := zB4 s y s.size 0
def zA7 (s : ByteArray) (y : Nat) : Bool := decide (cutI s y < s.size)
def rcut1 (s : ByteArray) (y : Nat) : ByteArray := if zA7 s y = true then s.extract 0 (cutI s y) else s
def rcut2 (s : ByteArray) (y : Nat) : ByteArray := if zA7 s y = true then s.extract (cutI s y + 1) s.size else ByteArray.empty
@[push_cast] def zPC : Con := ⟨[.dat .str, .dat .byte], fun (x : ByteArray × Nat × Unit) => x.1.size ≤ 1000000, fun (x : ByteArray × Nat × Unit) => { res := [.val .str (rcut1 x.1 x.2.1), .val .str (rcut2 x.1 x.2.1), .val .bool (zA7 x.1 x.2.1)] }⟩
theorem zPD : FnSpec Tryz.prog 177 zPC := by
  refine FnSpec.of_tri' (E := know [] [] [] []) (zAn all_nil all_nil all_nil) Tryz.func177 rfl rfl (by kernel_rfl) ?_
  intro C x hE hnl hfit hpre
  simp only [Tryz.ntmps177, Tryz.results177, maxLen, Nat.reduceSub, Nat.reducePow, Nat.reduceAdd, Int.cast_ofNat_Int, push_cast] at hnl hfit hpre ⊢
  obtain ⟨(s : ByteArray), (y : Nat), _⟩ := x
  dsimp only at hfit hpre ⊢
  have hem : ({ data := #[] } : ByteArray) = ByteArray.empty := rfl
  replace hnl := And.intro hnl hem
  repeat' (first|(refine goK (by assumption) ?_; iterate 4 (try clear hK K))|(refine zAd fun K hK => ?_)|((first|refine zAb hE rfl ?_|refine zAh ?_|((first|refine zAa hE 1 rfl rfl (by kernel_rfl) ?_|refine zAa hE 2 rfl rfl (by kernel_rfl) ?_|refine zAa hE 3 rfl rfl (by kernel_rfl) ?_|refine zAa hE 4 rfl rfl (by kernel_rfl) ?_); simp only [List.length_cons, List.length_nil, Nat.reduceAdd, Nat.reduceSub, List.take_succ_cons, List.take_zero, List.drop_succ_cons, List.drop_zero])); simp +contextual only [hnl, ↓kN, ↓kP, ↓kG, ↓qN, ↓qP, ↓qG, push_cast, seval, reduceCtorEq, Int.cast_ofNat_Int])|refine zAc ?_|((first|refine zAg ?_|refine zAf ?_); simp only [thenQ, zAk, if_true, if_false, Nat.reduceEqDiff, reduceCtorEq])|(refine zAe (by rfl) (fun hb => ?_) (fun hb => ?_) <;> (try simp only [b1, b2, b3, b4, reduceCtorEq, b5, b6] at hb) <;> (try omega))|refine zAi (by rfl) ?_ ?_|refine andS ?_|(refine ⟨fun hc => ?_, fun hc => ?_⟩)|(intro hc; try omega))
  refine zAp (fun k : Nat => AS.of [(0, .one (.val .str s)), (1, .one (.val .byte y)), (7, .I k)] [] []) (fun k => k ≤ s.size ∧ zB4 s y (s.size - k) k = cutI s y) (fun k => s.size - k) 0 ⟨Nat.zero_le _, rfl⟩ ?_ ?_
  · refine zAj ?_ ?_ ?_ <;> simp only [push_cast, seval, reduceCtorEq, Int.cast_ofNat_Int]
  intro k ⟨hk, hc⟩ K' hL
  rcases Nat.lt_or_ge k s.size with hks | hks
  · obtain ⟨m, hm⟩ : ∃ m, s.size - k = m + 1 := ⟨s.size - k - 1, by omega⟩
    have hc' := hc
    rw [hm] at hc'
    have hstep : zB4 s y (m + 1) k = if byteV s k = y then k else zB4 s y m (k + 1) := rfl
    rw [hstep] at hc'
    by_cases h1 : byteV s k = y
    · rw [if_pos h1] at hc'
      have e1 : zA7 s y = true := decide_eq_true (by omega)
      have e2 : rcut1 s y = s.extract 0 k := by rw [rcut1, if_pos e1, ← hc']
      have e3 : rcut2 s y = s.extract (k + 1) s.size := by rw [rcut2, if_pos e1, ← hc']
      replace hnl := And.intro hnl (And.intro e1 (And.intro e2 (And.intro e3 (show decide ((s.data.toList.getD k 0).toNat = y) = true from decide_eq_true h1))))
      repeat' (first|(refine goK (by assumption) ?_; iterate 4 (try clear hK K))|(refine zAd fun K hK => ?_)|((first|refine zAb hE rfl ?_|refine zAh ?_|((first|refine zAa hE 1 rfl rfl (by kernel_rfl) ?_|refine zAa hE 2 rfl rfl (by kernel_rfl) ?_|refine zAa hE 3 rfl rfl (by kernel_rfl) ?_|refine zAa hE 4 rfl rfl (by kernel_rfl) ?_); simp only [List.length_cons, List.length_nil, Nat.reduceAdd, Nat.reduceSub, List.take_succ_cons, List.take_zero, List.drop_succ_cons, List.drop_zero])); simp +contextual only [hnl, ↓kN, ↓kP, ↓kG, ↓qN, ↓qP, ↓qG, push_cast, seval, reduceCtorEq, Int.cast_ofNat_Int])|refine zAc ?_|((first|refine zAg ?_|refine zAf ?_); simp only [thenQ, zAk, if_true, if_false, Nat.reduceEqDiff, reduceCtorEq])|(refine zAe (by rfl) (fun hb => ?_) (fun hb => ?_) <;> (try simp only [b1, b2, b3, b4, reduceCtorEq, b5, b6] at hb) <;> (try omega))|refine zAi (by rfl) ?_ ?_|refine andS ?_|(refine ⟨fun hc => ?_, fun hc => ?_⟩)|(intro hc; try omega))
      all_goals rw [show ((k : Int) + 1).toNat = k + 1 by omega]
    · rw [if_neg h1] at hc'
      replace hnl := And.intro hnl (show decide ((s.data.toList.getD k 0).toNat = y) = false from decide_eq_false h1)
      repeat' (first|(refine goK (by assumption) ?_; iterate 4 (try clear hK K))|(refine zAd fun K hK => ?_)|((first|refine zAb hE rfl ?_|refine zAh ?_|((first|refine zAa hE 1 rfl rfl (by kernel_rfl) ?_|refine zAa hE 2 rfl rfl (by kernel_rfl) ?_|refine zAa hE 3 rfl rfl (by kernel_rfl) ?_|refine zAa hE 4 rfl rfl (by kernel_rfl) ?_); simp only [List.length_cons, List.length_nil, Nat.reduceAdd, Nat.reduceSub, List.take_succ_cons, List.take_zero, List.drop_succ_cons, List.drop_zero])); simp +contextual only [hnl, ↓kN, ↓kP, ↓kG, ↓qN, ↓qP, ↓qG, push_cast, seval, reduceCtorEq, Int.cast_ofNat_Int])|refine zAc ?_|((first|refine zAg ?_|refine zAf ?_); simp only [thenQ, zAk, if_true, if_false, Nat.reduceEqDiff, reduceCtorEq])|(refine zAe (by rfl) (fun hb => ?_) (fun hb => ?_) <;> (try simp only [b1, b2, b3, b4, reduceCtorEq, b5, b6] at hb) <;> (try omega))|refine zAi (by rfl) ?_ ?_|refine andS ?_|(refine ⟨fun hc => ?_, fun hc => ?_⟩)|(intro hc; try omega))
      refine hL _ (k + 1) ⟨by omega, by rw [show s.size - (k + 1) = m by omega]; exact hc'⟩ (by omega) ?_
      refine zAj ?_ ?_ ?_ <;> simp only [push_cast, seval, reduceCtorEq, Int.cast_ofNat_Int]
  · obtain rfl : k = s.size := by omega
    rw [Nat.sub_self] at hc
    have hc' : s.size = cutI s y := hc
    have e1 : zA7 s y = false := decide_eq_false (by omega)
    have e2 : rcut1 s y = s := by rw [rcut1, e1]; rfl
    have e3 : rcut2 s y = ByteArray.empty := by rw [rcut2, e1]; rfl
    replace hnl := And.intro hnl (And.intro e1 (And.intro e2 e3))
    exact auB
@[push_cast] def zMi : Con := ⟨[.dat (.sl .str), .dat (.sl .str)], fun _ => True, fun (x : List ByteArray × List ByteArray × Unit) => { res := [.val .bool (decide (x.1 = x.2.1))] }⟩
theorem zNt : FnSpec Tryz.prog 35 zMi := by
  refine FnSpec.of_tri' (E := know [] [] [] []) (zAn all_nil all_nil all_nil) Tryz.func35 rfl rfl (by kernel_rfl) ?_
  intro C x hE hnl hfit hpre
  simp only [Tryz.ntmps35, Tryz.results35, maxLen, Nat.reduceSub, Nat.reducePow, Nat.reduceAdd, Int.cast_ofNat_Int, push_cast] at hnl hfit hpre ⊢
  obtain ⟨(a : List ByteArray), (b : List ByteArray), _⟩ := x
  dsimp only at hfit hpre ⊢
  by_cases h0 : a.length = b.length
  rotate_left
  · have e : decide (a = b) = false := decide_eq_false fun h => h0 (by rw [h])
    replace hnl := And.intro hnl e
    exact auB
  repeat' (first|(refine goK (by assumption) ?_; iterate 4 (try clear hK K))|(refine zAd fun K hK => ?_)|((first|refine zAb hE rfl ?_|refine zAh ?_|((first|refine zAa hE 1 rfl rfl (by kernel_rfl) ?_|refine zAa hE 2 rfl rfl (by kernel_rfl) ?_|refine zAa hE 3 rfl rfl (by kernel_rfl) ?_|refine zAa hE 4 rfl rfl (by kernel_rfl) ?_); simp only [List.length_cons, List.length_nil, Nat.reduceAdd, Nat.reduceSub, List.take_succ_cons, List.take_zero, List.drop_succ_cons, List.drop_zero])); simp +contextual only [hnl, ↓kN, ↓kP, ↓kG, ↓qN, ↓qP, ↓qG, push_cast, seval, reduceCtorEq, Int.cast_ofNat_Int])|refine zAc ?_|((first|refine zAg ?_|refine zAf ?_); simp only [thenQ, zAk, if_true, if_false, Nat.reduceEqDiff, reduceCtorEq])|(refine zAe (by rfl) (fun hb => ?_) (fun hb => ?_) <;> (try simp only [b1, b2, b3, b4, reduceCtorEq, b5, b6] at hb) <;> (try omega))|refine zAi (by rfl) ?_ ?_|refine andS ?_|(refine ⟨fun hc => ?_, fun hc => ?_⟩)|(intro hc; try omega))
  refine zAp (fun k : Nat => AS.of [(0, .one (.val (.sl .str) a)), (1, .one (.val (.sl .str) b)), (5, .I k)] [] []) (fun k => k ≤ a.length ∧ ∀ i, i < k → a.getD i ByteArray.empty = b.getD i ByteArray.empty) (fun k => a.length - k) 0 ⟨Nat.zero_le _, by omega⟩ ?_ ?_
  · refine zAj ?_ ?_ ?_ <;> simp only [push_cast, seval, reduceCtorEq, Int.cast_ofNat_Int]
  intro k ⟨hk, hall⟩ K' hL
  rcases Nat.lt_or_ge k a.length with hks | hks
  · by_cases h1 : a.getD k ByteArray.empty = b.getD k ByteArray.empty
    · replace hnl := And.intro hnl (eq_true h1)
      repeat' (first|(refine goK (by assumption) ?_; iterate 4 (try clear hK K))|(refine zAd fun K hK => ?_)|((first|refine zAb hE rfl ?_|refine zAh ?_|((first|refine zAa hE 1 rfl rfl (by kernel_rfl) ?_|refine zAa hE 2 rfl rfl (by kernel_rfl) ?_|refine zAa hE 3 rfl rfl (by kernel_rfl) ?_|refine zAa hE 4 rfl rfl (by kernel_rfl) ?_); simp only [List.length_cons, List.length_nil, Nat.reduceAdd, Nat.reduceSub, List.take_succ_cons, List.take_zero, List.drop_succ_cons, List.drop_zero])); simp +contextual only [hnl, ↓kN, ↓kP, ↓kG, ↓qN, ↓qP, ↓qG, push_cast, seval, reduceCtorEq, Int.cast_ofNat_Int])|refine zAc ?_|((first|refine zAg ?_|refine zAf ?_); simp only [thenQ, zAk, if_true, if_false, Nat.reduceEqDiff, reduceCtorEq])|(refine zAe (by rfl) (fun hb => ?_) (fun hb => ?_) <;> (try simp only [b1, b2, b3, b4, reduceCtorEq, b5, b6] at hb) <;> (try omega))|refine zAi (by rfl) ?_ ?_|refine andS ?_|(refine ⟨fun hc => ?_, fun hc => ?_⟩)|(intro hc; try omega))
      refine hL _ (k + 1) ⟨by omega, fun i hi => ?_⟩ (by omega) ?_
      · rcases Nat.lt_or_ge i k with h3 | h3
        · exact hall i h3
        · obtain rfl : i = k := by omega
          exact h1
      refine zAj ?_ ?_ ?_ <;> simp only [push_cast, seval, reduceCtorEq, Int.cast_ofNat_Int]
    · have e : decide (a = b) = false := decide_eq_false (zFD ByteArray.empty h1)
      replace hnl := And.intro hnl (And.intro e (eq_false h1))
      exact auB
  · obtain rfl : k = a.length := by omega
    have e : decide (a = b) = true := decide_eq_true (zFv ByteArray.empty h0 (fun j hj => hall j hj))
    replace hnl := And.intro hnl e
    exact auB
end Go.Proofs.YtlgkplnifaoeeaaGreatDoor
namespace Go.Proofs.YtlgkplnifaoeeaaGreatDoor
open Go.RowKit Go.VS
theorem zEo (s : ByteArray) (y : Nat) : (rcut1 s y).size ≤ s.size := by
  unfold rcut1
  split
  · rw [ByteArray.size_extract]; omega
  · exact Nat.le_refl _
theorem zDj (s : ByteArray) (y : Nat) : (rcut2 s y).size ≤ s.size := by
  unfold rcut2
  split
  · rw [ByteArray.size_extract]; omega
  · exact Nat.zero_le _
def zBf (book : ByteArray) : ByteArray := rcut1 book 10
def zAO (book : ByteArray) : ByteArray := rcut2 (rcut1 book 10) 32
def zBv (book : ByteArray) : ByteArray := rcut1 (rcut2 (rcut1 book 10) 32) 32
def zA3 (book : ByteArray) : ByteArray := rcut2 (rcut2 (rcut1 book 10) 32) 32
def zCT (book : ByteArray) : Line := (zA3 book, numRV (zBv book))
def nxIs (book : ByteArray) : Bool := zBG (zBv book) && decide (numRV (zBv book) ≤ 999999)
def zB9 (book : ByteArray) : Bool := zA7 book 10 && (zA7 (zBf book) 32 && (zA7 (zAO book) 32 && (nxIs book && decide (1 ≤ ((zA3 book).size : Int) ∧ ((zA3 book).size : Int) ≤ 30))))
@[push_cast] def zL9 : Con := ⟨[.dat .str, .dat .int], fun (x : ByteArray × Int × Unit) => x.1.size ≤ 1000000, fun (x : ByteArray × Int × Unit) =>
  { res := [.val (.prod .str .int) (if zB9 x.1 = true then zCT x.1 else (ByteArray.empty, 0)), .val .int (if zB9 x.1 = true then sumV x.2.1 (textV (numRV (zBv x.1)) (zA3 x.1)) else 0),
      .val .str (if zB9 x.1 = true then rcut2 x.1 10 else ByteArray.empty), .val .bool (zB9 x.1 && decide (lineV x.2.1 (zCT x.1) = zBf x.1))] }⟩
set_option maxHeartbeats 1500000 in
theorem zNe : FnSpec Tryz.prog 130 zL9 := by
  refine FnSpec.of_tri' (E := know [(177, zPC), (133, zPf), (62, zCY), (101, zOX)] [] [] []) (zAn (all_cons zPD (all_cons zPh (all_cons zJv (all_cons zOY all_nil)))) all_nil all_nil) Tryz.func130 rfl rfl (by kernel_rfl) ?_
  intro C x hE hnl hfit hpre
  simp only [Tryz.ntmps130, Tryz.results130, maxLen, Nat.reduceSub, Nat.reducePow, Nat.reduceAdd, Int.cast_ofNat_Int, push_cast] at hnl hfit hpre ⊢
  obtain ⟨(s : ByteArray), (before : Int), _⟩ := x
  dsimp only at hfit hpre ⊢
  have hem : ({ data := #[] } : ByteArray) = ByteArray.empty := rfl
  have z1 := zEo s 10
  have z2 := zDj (rcut1 s 10) 32
  have f1 : rcut1 s 10 = zBf s := rfl
  have f2 : rcut2 (zBf s) 32 = zAO s := rfl
  have f3 : rcut1 (zAO s) 32 = zBv s := rfl
  have f4 : rcut2 (zAO s) 32 = zA3 s := rfl
  rw [f1] at z1 z2
  rw [f2] at z2
  cases hg : zB9 s with
  | true =>
    have hg' := hg
    unfold zB9 at hg'
    simp only [Bool.and_eq_true, decide_eq_true_eq] at hg'
    obtain ⟨g1, g2, g3, g4, g5, g6⟩ := hg'
    have g4' : (zBG (zBv s) && decide (numRV (zBv s) ≤ 999999)) = true := g4
    have hn : zBG (zBv s) = true ∧ numRV (zBv s) ≤ 999999 := by simpa [nxIs] using g4
    have hn0 : 0 ≤ numRV (zBv s) := by
      rw [numRV, if_pos hn.1]
      have h1 := hn.1
      rw [zBG, Bool.and_eq_true, decide_eq_true_eq] at h1
      exact (zDQ h1.1.2.1 h1.1.2.1 (zCO.1 h1.2)).1
    have hlp : LinePre (zA3 s, numRV (zBv s)) := ⟨by dsimp only; omega, by dsimp only; unfold InR; omega⟩
    have hl : (zA3 s, numRV (zBv s)) = zCT s := rfl
    replace hnl := And.intro hnl (And.intro hem (And.intro f1 (And.intro f2 (And.intro f3 (And.intro f4 (And.intro hg (And.intro g1 (And.intro g2 (And.intro g3 (And.intro g4' (And.intro (eq_true hlp) (show decide (1 ≤ ((zA3 s).size : Int) ∧ ((zA3 s).size : Int) ≤ 30) = true from decide_eq_true ⟨g5, g6⟩))))))))))))
    repeat' (first|(refine goK (by assumption) ?_; iterate 4 (try clear hK K))|(refine zAd fun K hK => ?_)|((first|refine zAb hE rfl ?_|refine zAh ?_|((first|refine zAa hE 1 rfl rfl (by kernel_rfl) ?_|refine zAa hE 2 rfl rfl (by kernel_rfl) ?_|refine zAa hE 3 rfl rfl (by kernel_rfl) ?_|refine zAa hE 4 rfl rfl (by kernel_rfl) ?_); simp only [List.length_cons, List.length_nil, Nat.reduceAdd, Nat.reduceSub, List.take_succ_cons, List.take_zero, List.drop_succ_cons, List.drop_zero])); simp +contextual only [hnl, ↓kN, ↓kP, ↓kG, ↓qN, ↓qP, ↓qG, push_cast, seval, reduceCtorEq, Int.cast_ofNat_Int])|refine zAc ?_|((first|refine zAg ?_|refine zAf ?_); simp only [thenQ, zAk, if_true, if_false, Nat.reduceEqDiff, reduceCtorEq])|(refine zAe (by rfl) (fun hb => ?_) (fun hb => ?_) <;> (try simp only [b1, b2, b3, b4, reduceCtorEq, b5, b6] at hb) <;> (try omega))|refine zAi (by rfl) ?_ ?_|refine andS ?_|(refine ⟨fun hc => ?_, fun hc => ?_⟩)|(intro hc; try omega))
    all_goals rfl
  | false =>
    replace hnl := And.intro hnl (And.intro hem (And.intro f1 (And.intro f2 (And.intro f3 (And.intro f4 hg)))))
    cases g1 : zA7 s 10 with
    | false =>
      replace hnl := And.intro hnl g1
      repeat' (first|(refine goK (by assumption) ?_; iterate 4 (try clear hK K))|(refine zAd fun K hK => ?_)|((first|refine zAb hE rfl ?_|refine zAh ?_|((first|refine zAa hE 1 rfl rfl (by kernel_rfl) ?_|refine zAa hE 2 rfl rfl (by kernel_rfl) ?_|refine zAa hE 3 rfl rfl (by kernel_rfl) ?_|refine zAa hE 4 rfl rfl (by kernel_rfl) ?_); simp only [List.length_cons, List.length_nil, Nat.reduceAdd, Nat.reduceSub, List.take_succ_cons, List.take_zero, List.drop_succ_cons, List.drop_zero])); simp +contextual only [hnl, ↓kN, ↓kP, ↓kG, ↓qN, ↓qP, ↓qG, push_cast, seval, reduceCtorEq, Int.cast_ofNat_Int])|refine zAc ?_|((first|refine zAg ?_|refine zAf ?_); simp only [thenQ, zAk, if_true, if_false, Nat.reduceEqDiff, reduceCtorEq])|(refine zAe (by rfl) (fun hb => ?_) (fun hb => ?_) <;> (try simp only [b1, b2, b3, b4, reduceCtorEq, b5, b6] at hb) <;> (try omega))|refine zAi (by rfl) ?_ ?_|refine andS ?_|(refine ⟨fun hc => ?_, fun hc => ?_⟩)|(intro hc; try omega))
    | true =>
    cases g2 : zA7 (zBf s) 32 with
    | false =>
      replace hnl := And.intro hnl (And.intro g1 g2)
      repeat' (first|(refine goK (by assumption) ?_; iterate 4 (try clear hK K))|(refine zAd fun K hK => ?_)|((first|refine zAb hE rfl ?_|refine zAh ?_|((first|refine zAa hE 1 rfl rfl (by kernel_rfl) ?_|refine zAa hE 2 rfl rfl (by kernel_rfl) ?_|refine zAa hE 3 rfl rfl (by kernel_rfl) ?_|refine zAa hE 4 rfl rfl (by kernel_rfl) ?_); simp only [List.length_cons, List.length_nil, Nat.reduceAdd, Nat.reduceSub, List.take_succ_cons, List.take_zero, List.drop_succ_cons, List.drop_zero])); simp +contextual only [hnl, ↓kN, ↓kP, ↓kG, ↓qN, ↓qP, ↓qG, push_cast, seval, reduceCtorEq, Int.cast_ofNat_Int])|refine zAc ?_|((first|refine zAg ?_|refine zAf ?_); simp only [thenQ, zAk, if_true, if_false, Nat.reduceEqDiff, reduceCtorEq])|(refine zAe (by rfl) (fun hb => ?_) (fun hb => ?_) <;> (try simp only [b1, b2, b3, b4, reduceCtorEq, b5, b6] at hb) <;> (try omega))|refine zAi (by rfl) ?_ ?_|refine andS ?_|(refine ⟨fun hc => ?_, fun hc => ?_⟩)|(intro hc; try omega))
    | true =>
    cases g3 : zA7 (zAO s) 32 with
    | false =>
      replace hnl := And.intro hnl (And.intro g1 (And.intro g2 g3))
      repeat' (first|(refine goK (by assumption) ?_; iterate 4 (try clear hK K))|(refine zAd fun K hK => ?_)|((first|refine zAb hE rfl ?_|refine zAh ?_|((first|refine zAa hE 1 rfl rfl (by kernel_rfl) ?_|refine zAa hE 2 rfl rfl (by kernel_rfl) ?_|refine zAa hE 3 rfl rfl (by kernel_rfl) ?_|refine zAa hE 4 rfl rfl (by kernel_rfl) ?_); simp only [List.length_cons, List.length_nil, Nat.reduceAdd, Nat.reduceSub, List.take_succ_cons, List.take_zero, List.drop_succ_cons, List.drop_zero])); simp +contextual only [hnl, ↓kN, ↓kP, ↓kG, ↓qN, ↓qP, ↓qG, push_cast, seval, reduceCtorEq, Int.cast_ofNat_Int])|refine zAc ?_|((first|refine zAg ?_|refine zAf ?_); simp only [thenQ, zAk, if_true, if_false, Nat.reduceEqDiff, reduceCtorEq])|(refine zAe (by rfl) (fun hb => ?_) (fun hb => ?_) <;> (try simp only [b1, b2, b3, b4, reduceCtorEq, b5, b6] at hb) <;> (try omega))|refine zAi (by rfl) ?_ ?_|refine andS ?_|(refine ⟨fun hc => ?_, fun hc => ?_⟩)|(intro hc; try omega))
    | true =>
    cases g4 : (zBG (zBv s) && decide (numRV (zBv s) ≤ 999999)) with
    | false =>
      replace hnl := And.intro hnl (And.intro g1 (And.intro g2 (And.intro g3 g4)))
      repeat' (first|(refine goK (by assumption) ?_; iterate 4 (try clear hK K))|(refine zAd fun K hK => ?_)|((first|refine zAb hE rfl ?_|refine zAh ?_|((first|refine zAa hE 1 rfl rfl (by kernel_rfl) ?_|refine zAa hE 2 rfl rfl (by kernel_rfl) ?_|refine zAa hE 3 rfl rfl (by kernel_rfl) ?_|refine zAa hE 4 rfl rfl (by kernel_rfl) ?_); simp only [List.length_cons, List.length_nil, Nat.reduceAdd, Nat.reduceSub, List.take_succ_cons, List.take_zero, List.drop_succ_cons, List.drop_zero])); simp +contextual only [hnl, ↓kN, ↓kP, ↓kG, ↓qN, ↓qP, ↓qG, push_cast, seval, reduceCtorEq, Int.cast_ofNat_Int])|refine zAc ?_|((first|refine zAg ?_|refine zAf ?_); simp only [thenQ, zAk, if_true, if_false, Nat.reduceEqDiff, reduceCtorEq])|(refine zAe (by rfl) (fun hb => ?_) (fun hb => ?_) <;> (try simp only [b1, b2, b3, b4, reduceCtorEq, b5, b6] at hb) <;> (try omega))|refine zAi (by rfl) ?_ ?_|refine andS ?_|(refine ⟨fun hc => ?_, fun hc => ?_⟩)|(intro hc; try omega))
    | true =>
    have g5 : decide (1 ≤ ((zA3 s).size : Int) ∧ ((zA3 s).size : Int) ≤ 30) = false := by
      have g4' : nxIs s = true := g4
      rw [zB9, g1, g2, g3, g4'] at hg
      simpa only [Bool.true_and] using hg
    replace hnl := And.intro hnl (And.intro g1 (And.intro g2 (And.intro g3 (And.intro g4 g5))))
    exact auB
end Go.Proofs.YtlgkplnifaoeeaaGreatDoor
