import Derived.Test.YtlgkplnifaoeeaaGreatDoorY13
import Derived.Test.YtlgkplnifaoeeaaGreatDoorY11
import Derived.Test.YtlgkplnifaoeeaaGreatDoorY4
import Derived.Carry
import Derived.ChangeMaps5
import Derived.MapKept
import Derived.Tactics2
set_option linter.unusedSimpArgs false
set_option linter.unusedVariables false
namespace Go.Proofs.YtlgkplnifaoeeaaGreatDoor
open Go.RowKit Go.VS
theorem zP4 {C : Ctx} {f : FuncId} {fn : Func} {code : Code} {s0 : AS} {γ : Gam} {w : World} {vs : List Value} {Q : Exit → AS → Prop} (hf : C.P.funcs[f]? = some fn) (hb : fn.body = some code) (hds : C.ds = []) (hle : vs.length ≤ fn.ntmps)
    (hr : Rel C γ s0 { tmps := vs.toArray ++ Array.replicate (fn.ntmps - vs.length) undef, defers := [] } w) (h : tri C fn.ntmps code Q s0) (hQ : ∀ e s, Q e s → e = .normal ∨ e = .ret) {R : Ending → World → Prop}
    (hR : ∀ e s' γ' a' w', Rel C γ' s' a' w' → Q e s' → ∃ v, (results fn a'.tmps).run C.P w' = .ok v w' ∧ R (.returned v) w') : Calls C.P f vs.toArray w R := by
  refine calls_of_wp hf hb ?_
  refine wp_mono (h.run γ _ _ hr (by simp; omega)) ?_
  rintro e a' w' ⟨s', γ', h1, h2, h3⟩
  obtain ⟨v, k1, k2⟩ := hR e s' γ' a' w' h1 h3
  rcases hQ e s' h3 with rfl | rfl
  · exact ⟨h1.defers.1.trans hds, v, k1, k2⟩
  · exact ⟨h1.defers.1.trans hds, v, k1, k2⟩
def doV (k : Nat) (l : List Int) (s : State) : Int × State :=
  if k = 0 then (chgE s.2.1 (l.getD 0 0) (l.getD 1 0) (l.getD 1 0), s.1, chgL s.2.1 (l.getD 0 0) (l.getD 1 0) (l.getD 1 0), s.2.2)
  else if k = 1 then (chgE s.2.1 (l.getD 0 0) (l.getD 1 0) (-(l.getD 1 0)), s.1, chgL s.2.1 (l.getD 0 0) (l.getD 1 0) (-(l.getD 1 0)), s.2.2)
  else if k = 2 then (chgE s.2.2.1 (l.getD 0 0) (l.getD 1 0) (l.getD 1 0), s.1, s.2.1, chgL s.2.2.1 (l.getD 0 0) (l.getD 1 0) (l.getD 1 0), s.2.2.2)
  else if k = 3 then (chgE s.2.2.1 (l.getD 0 0) (l.getD 1 0) (-(l.getD 1 0)), s.1, s.2.1, chgL s.2.2.1 (l.getD 0 0) (l.getD 1 0) (-(l.getD 1 0)), s.2.2.2)
  else if k = 4 then (if (s.2.1.length : Int) ≤ l.getD 0 0 ∨ (s.2.2.1.length : Int) ≤ l.getD 1 0 then (4, s) else if 99 < l.getD 2 0 then (1, s) else (0, s.1.set (l.getD 0 0).toNat ((s.1.getD (l.getD 0 0).toNat []).set (l.getD 1 0).toNat (l.getD 2 0)), s.2))
  else if k = 5 then (if 99 < l.getD 0 0 then (1, s) else (0, s.1, s.2.1, s.2.2.1, l.getD 0 0))
  else (if zDf s.2.1 s.2.2.1 s.1 s.2.2.2 = l.getD 0 0 then (0, s) else (7, s))
theorem doV4 (l : List Int) (c : List (List Int)) (a b : List Int) (w : Int) : doV 4 l (c, a, b, w) = if (a.length : Int) ≤ l.getD 0 0 ∨ (b.length : Int) ≤ l.getD 1 0 then (4, (c, a, b, w)) else if 99 < l.getD 2 0 then (1, (c, a, b, w)) else (0, (c.set (l.getD 0 0).toNat ((c.getD (l.getD 0 0).toNat []).set (l.getD 1 0).toNat (l.getD 2 0)), a, b, w)) := rfl
theorem doV5 (l : List Int) (c : List (List Int)) (a b : List Int) (w : Int) : doV 5 l (c, a, b, w) = if 99 < l.getD 0 0 then (1, (c, a, b, w)) else (0, (c, a, b, l.getD 0 0)) := rfl
theorem doV6 (l : List Int) (c : List (List Int)) (a b : List Int) (w : Int) : doV 6 l (c, a, b, w) = if zDf a b c w = l.getD 0 0 then (0, (c, a, b, w)) else (7, (c, a, b, w)) := rfl
structure DoPre (k : Nat) (l : List Int) (s : State) : Prop where
  kind : k ≤ 6
  len : l.length = if k = 4 then 3 else if k ≤ 3 then 2 else 1
  num : ∀ i, i < l.length → 0 ≤ l.getD i 0 ∧ l.getD i 0 ≤ 99999
  tab : InTab 0 99 s.1
  la : s.2.1.length = s.1.length
  lb : s.2.2.1.length = wid s.1
  a : ∀ i, i < s.2.1.length → 0 ≤ s.2.1.getD i 0 ∧ s.2.1.getD i 0 ≤ 30
  b : ∀ i, i < s.2.2.1.length → 0 ≤ s.2.2.1.getD i 0 ∧ s.2.2.1.getD i 0 ≤ 30
def doIn (k : Nat) (l : List Int) (s : State) : AS := AS.of [(0, .one (.box 0)), (1, .one (.val .int (k : Int))), (2, .one (.val (.sl .int) l))] [(1, .deep 25 3 .int s.1), (2, .flat 3 .int s.2.1), (3, .flat 3 .int s.2.2.1)] [(0, .rcd [.ref 1, .ref 2, .ref 3, .val .int s.2.2.2])]
def doOut (k : Nat) (l : List Int) (s : State) : AS := AS.of [(6, .one (.val (.err 161) (doV k l s).1))] [] [(0, .rcd [.val (.sl (.sl .int)) (doV k l s).2.1, .val (.sl .int) (doV k l s).2.2.1, .val (.sl .int) (doV k l s).2.2.2.1, .val .int (doV k l s).2.2.2.2])]
structure DoQ (nl : Nat) (k : Nat) (l : List Int) (s : State) (e : Exit) (t : AS) : Prop where
  e : e = .normal ∨ e = .ret
  h : Weak nl t (doOut k l s)
def zTd : Know := know [(127, zOu), (81, zCO)] []
theorem zOG : KnowOK Tryz.prog zTd := zAm (all_cons zQu (all_cons zEP all_nil)) all_nil all_nil
set_option maxHeartbeats 4000000 in
theorem zTf {C : Ctx} (hP : C.P = Tryz.prog) (hE : KnowOK C.P (know [(127, zOu), (81, zCO)] [])) (hnl : C.nl = 4) (k : Nat) (l : List Int) (s : State) (hpre : DoPre k l s) {code : Code} (hb : Tryz.f79.body = some code) :
    tri C 146 code (DoQ 4 k l s) (doIn k l s) := by
  obtain ⟨c, a, b, wst⟩ := s
  obtain ⟨hk, hl, hn, ht, hla, hlb, ha, hbb⟩ := hpre
  dsimp only at *
  unfold doIn
  dsimp only
  have hb' : code = (Tryz.f79.body).getD .skip := by rw [hb]; rfl
  subst hb'
  clear hb
  show tri C 146 _ _ _
  dsimp only [Tryz.f79]
  simp only [Option.getD_some]
  have hn0 := hn 0
  have hn1 := hn 1
  have hrs := ht.rows
  have hcs := ht.cols
  obtain rfl | rfl | rfl | rfl | rfl | rfl | rfl : k = 0 ∨ k = 1 ∨ k = 2 ∨ k = 3 ∨ k = 4 ∨ k = 5 ∨ k = 6 := by omega
  · have hl' : l.length = 2 := hl
    have hp : ChgPre (.flat 3 .int a) (l.getD 0 0) (l.getD 1 0) := ⟨by rw [zA6], by rw [zA6]; omega, by rw [zA6]; exact ha, by have := hn0 (by omega); omega, by have := hn1 (by omega); omega⟩
    have e : doV 0 l (c, a, b, wst) = (chgE a (l.getD 0 0) (l.getD 1 0) (l.getD 1 0), c, chgL a (l.getD 0 0) (l.getD 1 0) (l.getD 1 0), b, wst) := rfl
    replace hnl := And.intro hnl (And.intro (eq_true hp) hl')
    repeat' (first|(refine zAa hE 2 rfl rfl (by decide +kernel) ?_; simp only [List.length_cons, List.length_nil, Nat.reduceAdd, Nat.reduceSub, List.take_succ_cons, List.take_zero, List.drop_succ_cons, List.drop_zero]; simp +contextual only [hnl, ↓kN, ↓kP, ↓kG, ↓qN, ↓qP, ↓qG, push_cast, seval, reduceCtorEq, Int.cast_ofNat_Int])|(first|(refine goK (by assumption) ?_; iterate 4 (try clear hK K))|(refine zAd fun K hK => ?_)|((first|refine zAb hE rfl ?_|refine zAh ?_|((first|refine zAa hE 1 rfl rfl (by kernel_rfl) ?_|refine zAa hE 2 rfl rfl (by kernel_rfl) ?_|refine zAa hE 3 rfl rfl (by kernel_rfl) ?_|refine zAa hE 4 rfl rfl (by kernel_rfl) ?_); simp only [List.length_cons, List.length_nil, Nat.reduceAdd, Nat.reduceSub, List.take_succ_cons, List.take_zero, List.drop_succ_cons, List.drop_zero])); simp +contextual only [hnl, ↓kN, ↓kP, ↓kG, ↓qN, ↓qP, ↓qG, push_cast, seval, reduceCtorEq, Int.cast_ofNat_Int])|refine zAc ?_|((first|refine zAg ?_|refine zAf ?_); simp only [thenQ, zAk, if_true, if_false, Nat.reduceEqDiff, reduceCtorEq])|(refine zAe (by rfl) (fun hb => ?_) (fun hb => ?_) <;> (try simp only [b1, b2, b3, b4, reduceCtorEq, b5, b6] at hb) <;> (try omega))|refine zAi (by rfl) ?_ ?_|refine andS ?_|(refine ⟨fun hc => ?_, fun hc => ?_⟩)|(intro hc; try omega)))
    all_goals ((try refine zAh ?_); refine ⟨.inr rfl, ?_⟩; unfold doOut; rw [e]; dsimp only; refine zAj ?_ ?_ ?_ <;> simp only [push_cast, seval, reduceCtorEq, Int.cast_ofNat_Int])
  · have hl' : l.length = 2 := hl
    have hp : ChgPre (.flat 3 .int a) (l.getD 0 0) (-(l.getD 1 0)) := ⟨by rw [zA6], by rw [zA6]; omega, by rw [zA6]; exact ha, by have := hn0 (by omega); omega, by have := hn1 (by omega); omega⟩
    have e : doV 1 l (c, a, b, wst) = (chgE a (l.getD 0 0) (l.getD 1 0) (-(l.getD 1 0)), c, chgL a (l.getD 0 0) (l.getD 1 0) (-(l.getD 1 0)), b, wst) := rfl
    replace hnl := And.intro hnl (And.intro (eq_true hp) hl')
    repeat' (first|(refine zAa hE 2 rfl rfl (by decide +kernel) ?_; simp only [List.length_cons, List.length_nil, Nat.reduceAdd, Nat.reduceSub, List.take_succ_cons, List.take_zero, List.drop_succ_cons, List.drop_zero]; simp +contextual only [hnl, ↓kN, ↓kP, ↓kG, ↓qN, ↓qP, ↓qG, push_cast, seval, reduceCtorEq, Int.cast_ofNat_Int])|(first|(refine goK (by assumption) ?_; iterate 4 (try clear hK K))|(refine zAd fun K hK => ?_)|((first|refine zAb hE rfl ?_|refine zAh ?_|((first|refine zAa hE 1 rfl rfl (by kernel_rfl) ?_|refine zAa hE 2 rfl rfl (by kernel_rfl) ?_|refine zAa hE 3 rfl rfl (by kernel_rfl) ?_|refine zAa hE 4 rfl rfl (by kernel_rfl) ?_); simp only [List.length_cons, List.length_nil, Nat.reduceAdd, Nat.reduceSub, List.take_succ_cons, List.take_zero, List.drop_succ_cons, List.drop_zero])); simp +contextual only [hnl, ↓kN, ↓kP, ↓kG, ↓qN, ↓qP, ↓qG, push_cast, seval, reduceCtorEq, Int.cast_ofNat_Int])|refine zAc ?_|((first|refine zAg ?_|refine zAf ?_); simp only [thenQ, zAk, if_true, if_false, Nat.reduceEqDiff, reduceCtorEq])|(refine zAe (by rfl) (fun hb => ?_) (fun hb => ?_) <;> (try simp only [b1, b2, b3, b4, reduceCtorEq, b5, b6] at hb) <;> (try omega))|refine zAi (by rfl) ?_ ?_|refine andS ?_|(refine ⟨fun hc => ?_, fun hc => ?_⟩)|(intro hc; try omega)))
    all_goals ((try refine zAh ?_); refine ⟨.inr rfl, ?_⟩; unfold doOut; rw [e]; dsimp only; refine zAj ?_ ?_ ?_ <;> simp only [push_cast, seval, reduceCtorEq, Int.cast_ofNat_Int])
  · have hl' : l.length = 2 := hl
    have hp : ChgPre (.flat 3 .int b) (l.getD 0 0) (l.getD 1 0) := ⟨by rw [zA6], by rw [zA6]; omega, by rw [zA6]; exact hbb, by have := hn0 (by omega); omega, by have := hn1 (by omega); omega⟩
    have e : doV 2 l (c, a, b, wst) = (chgE b (l.getD 0 0) (l.getD 1 0) (l.getD 1 0), c, a, chgL b (l.getD 0 0) (l.getD 1 0) (l.getD 1 0), wst) := rfl
    replace hnl := And.intro hnl (And.intro (eq_true hp) hl')
    repeat' (first|(refine zAa hE 2 rfl rfl (by decide +kernel) ?_; simp only [List.length_cons, List.length_nil, Nat.reduceAdd, Nat.reduceSub, List.take_succ_cons, List.take_zero, List.drop_succ_cons, List.drop_zero]; simp +contextual only [hnl, ↓kN, ↓kP, ↓kG, ↓qN, ↓qP, ↓qG, push_cast, seval, reduceCtorEq, Int.cast_ofNat_Int])|(first|(refine goK (by assumption) ?_; iterate 4 (try clear hK K))|(refine zAd fun K hK => ?_)|((first|refine zAb hE rfl ?_|refine zAh ?_|((first|refine zAa hE 1 rfl rfl (by kernel_rfl) ?_|refine zAa hE 2 rfl rfl (by kernel_rfl) ?_|refine zAa hE 3 rfl rfl (by kernel_rfl) ?_|refine zAa hE 4 rfl rfl (by kernel_rfl) ?_); simp only [List.length_cons, List.length_nil, Nat.reduceAdd, Nat.reduceSub, List.take_succ_cons, List.take_zero, List.drop_succ_cons, List.drop_zero])); simp +contextual only [hnl, ↓kN, ↓kP, ↓kG, ↓qN, ↓qP, ↓qG, push_cast, seval, reduceCtorEq, Int.cast_ofNat_Int])|refine zAc ?_|((first|refine zAg ?_|refine zAf ?_); simp only [thenQ, zAk, if_true, if_false, Nat.reduceEqDiff, reduceCtorEq])|(refine zAe (by rfl) (fun hb => ?_) (fun hb => ?_) <;> (try simp only [b1, b2, b3, b4, reduceCtorEq, b5, b6] at hb) <;> (try omega))|refine zAi (by rfl) ?_ ?_|refine andS ?_|(refine ⟨fun hc => ?_, fun hc => ?_⟩)|(intro hc; try omega)))
    all_goals ((try refine zAh ?_); refine ⟨.inr rfl, ?_⟩; unfold doOut; rw [e]; dsimp only; refine zAj ?_ ?_ ?_ <;> simp only [push_cast, seval, reduceCtorEq, Int.cast_ofNat_Int])
  · have hl' : l.length = 2 := hl
    have hp : ChgPre (.flat 3 .int b) (l.getD 0 0) (-(l.getD 1 0)) := ⟨by rw [zA6], by rw [zA6]; omega, by rw [zA6]; exact hbb, by have := hn0 (by omega); omega, by have := hn1 (by omega); omega⟩
    have e : doV 3 l (c, a, b, wst) = (chgE b (l.getD 0 0) (l.getD 1 0) (-(l.getD 1 0)), c, a, chgL b (l.getD 0 0) (l.getD 1 0) (-(l.getD 1 0)), wst) := rfl
    replace hnl := And.intro hnl (And.intro (eq_true hp) hl')
    repeat' (first|(refine zAa hE 2 rfl rfl (by decide +kernel) ?_; simp only [List.length_cons, List.length_nil, Nat.reduceAdd, Nat.reduceSub, List.take_succ_cons, List.take_zero, List.drop_succ_cons, List.drop_zero]; simp +contextual only [hnl, ↓kN, ↓kP, ↓kG, ↓qN, ↓qP, ↓qG, push_cast, seval, reduceCtorEq, Int.cast_ofNat_Int])|(first|(refine goK (by assumption) ?_; iterate 4 (try clear hK K))|(refine zAd fun K hK => ?_)|((first|refine zAb hE rfl ?_|refine zAh ?_|((first|refine zAa hE 1 rfl rfl (by kernel_rfl) ?_|refine zAa hE 2 rfl rfl (by kernel_rfl) ?_|refine zAa hE 3 rfl rfl (by kernel_rfl) ?_|refine zAa hE 4 rfl rfl (by kernel_rfl) ?_); simp only [List.length_cons, List.length_nil, Nat.reduceAdd, Nat.reduceSub, List.take_succ_cons, List.take_zero, List.drop_succ_cons, List.drop_zero])); simp +contextual only [hnl, ↓kN, ↓kP, ↓kG, ↓qN, ↓qP, ↓qG, push_cast, seval, reduceCtorEq, Int.cast_ofNat_Int])|refine zAc ?_|((first|refine zAg ?_|refine zAf ?_); simp only [thenQ, zAk, if_true, if_false, Nat.reduceEqDiff, reduceCtorEq])|(refine zAe (by rfl) (fun hb => ?_) (fun hb => ?_) <;> (try simp only [b1, b2, b3, b4, reduceCtorEq, b5, b6] at hb) <;> (try omega))|refine zAi (by rfl) ?_ ?_|refine andS ?_|(refine ⟨fun hc => ?_, fun hc => ?_⟩)|(intro hc; try omega)))
    all_goals ((try refine zAh ?_); refine ⟨.inr rfl, ?_⟩; unfold doOut; rw [e]; dsimp only; refine zAj ?_ ?_ ?_ <;> simp only [push_cast, seval, reduceCtorEq, Int.cast_ofNat_Int])
  · have hl' : l.length = 3 := hl
    have hn2 := hn 2
    by_cases h1 : (a.length : Int) ≤ l.getD 0 0 ∨ (b.length : Int) ≤ l.getD 1 0
    · have e : doV 4 l (c, a, b, wst) = (4, (c, a, b, wst)) := by rw [doV4, if_pos h1]
      replace hnl := And.intro hnl hl'
      repeat' (first|(refine goK (by assumption) ?_; iterate 4 (try clear hK K))|(refine zAd fun K hK => ?_)|((first|refine zAb hE rfl ?_|refine zAh ?_|((first|refine zAa hE 1 rfl rfl (by kernel_rfl) ?_|refine zAa hE 2 rfl rfl (by kernel_rfl) ?_|refine zAa hE 3 rfl rfl (by kernel_rfl) ?_|refine zAa hE 4 rfl rfl (by kernel_rfl) ?_); simp only [List.length_cons, List.length_nil, Nat.reduceAdd, Nat.reduceSub, List.take_succ_cons, List.take_zero, List.drop_succ_cons, List.drop_zero])); simp +contextual only [hnl, ↓kN, ↓kP, ↓kG, ↓qN, ↓qP, ↓qG, push_cast, seval, reduceCtorEq, Int.cast_ofNat_Int])|refine zAc ?_|((first|refine zAg ?_|refine zAf ?_); simp only [thenQ, zAk, if_true, if_false, Nat.reduceEqDiff, reduceCtorEq])|(refine zAe (by rfl) (fun hb => ?_) (fun hb => ?_) <;> (try simp only [b1, b2, b3, b4, reduceCtorEq, b5, b6] at hb) <;> (try omega))|refine zAi (by rfl) ?_ ?_|refine andS ?_|(refine ⟨fun hc => ?_, fun hc => ?_⟩)|(intro hc; try omega))
      all_goals ((try refine zAh ?_); refine ⟨.inr rfl, ?_⟩; unfold doOut; rw [e]; dsimp only; refine zAj ?_ ?_ ?_ <;> simp only [push_cast, seval, reduceCtorEq, Int.cast_ofNat_Int])
    by_cases h2 : 99 < l.getD 2 0
    · have e : doV 4 l (c, a, b, wst) = (1, (c, a, b, wst)) := by rw [doV4, if_neg h1, if_pos h2]
      replace hnl := And.intro hnl hl'
      repeat' (first|(refine goK (by assumption) ?_; iterate 4 (try clear hK K))|(refine zAd fun K hK => ?_)|((first|refine zAb hE rfl ?_|refine zAh ?_|((first|refine zAa hE 1 rfl rfl (by kernel_rfl) ?_|refine zAa hE 2 rfl rfl (by kernel_rfl) ?_|refine zAa hE 3 rfl rfl (by kernel_rfl) ?_|refine zAa hE 4 rfl rfl (by kernel_rfl) ?_); simp only [List.length_cons, List.length_nil, Nat.reduceAdd, Nat.reduceSub, List.take_succ_cons, List.take_zero, List.drop_succ_cons, List.drop_zero])); simp +contextual only [hnl, ↓kN, ↓kP, ↓kG, ↓qN, ↓qP, ↓qG, push_cast, seval, reduceCtorEq, Int.cast_ofNat_Int])|refine zAc ?_|((first|refine zAg ?_|refine zAf ?_); simp only [thenQ, zAk, if_true, if_false, Nat.reduceEqDiff, reduceCtorEq])|(refine zAe (by rfl) (fun hb => ?_) (fun hb => ?_) <;> (try simp only [b1, b2, b3, b4, reduceCtorEq, b5, b6] at hb) <;> (try omega))|refine zAi (by rfl) ?_ ?_|refine andS ?_|(refine ⟨fun hc => ?_, fun hc => ?_⟩)|(intro hc; try omega))
      all_goals ((try refine zAh ?_); refine ⟨.inr rfl, ?_⟩; unfold doOut; rw [e]; dsimp only; refine zAj ?_ ?_ ?_ <;> simp only [push_cast, seval, reduceCtorEq, Int.cast_ofNat_Int])
    · have e : doV 4 l (c, a, b, wst) = (0, (c.set (l.getD 0 0).toNat ((c.getD (l.getD 0 0).toNat []).set (l.getD 1 0).toNat (l.getD 2 0)), a, b, wst)) := by rw [doV4, if_neg h1, if_neg h2]
      have q0 := hn0 (by omega)
      have q1 := hn1 (by omega)
      have hrl := ht.len (show (l.getD 0 0).toNat < c.length by omega)
      replace hnl := And.intro hnl (And.intro hl' hrl)
      repeat' (first|(refine goK (by assumption) ?_; iterate 4 (try clear hK K))|(refine zAd fun K hK => ?_)|((first|refine zAb hE rfl ?_|refine zAh ?_|((first|refine zAa hE 1 rfl rfl (by kernel_rfl) ?_|refine zAa hE 2 rfl rfl (by kernel_rfl) ?_|refine zAa hE 3 rfl rfl (by kernel_rfl) ?_|refine zAa hE 4 rfl rfl (by kernel_rfl) ?_); simp only [List.length_cons, List.length_nil, Nat.reduceAdd, Nat.reduceSub, List.take_succ_cons, List.take_zero, List.drop_succ_cons, List.drop_zero])); simp +contextual only [hnl, ↓kN, ↓kP, ↓kG, ↓qN, ↓qP, ↓qG, push_cast, seval, reduceCtorEq, Int.cast_ofNat_Int])|refine zAc ?_|((first|refine zAg ?_|refine zAf ?_); simp only [thenQ, zAk, if_true, if_false, Nat.reduceEqDiff, reduceCtorEq])|(refine zAe (by rfl) (fun hb => ?_) (fun hb => ?_) <;> (try simp only [b1, b2, b3, b4, reduceCtorEq, b5, b6] at hb) <;> (try omega))|refine zAi (by rfl) ?_ ?_|refine andS ?_|(refine ⟨fun hc => ?_, fun hc => ?_⟩)|(intro hc; try omega))
      all_goals ((try refine zAh ?_); refine ⟨.inr rfl, ?_⟩; unfold doOut; rw [e]; dsimp only; refine zAj ?_ ?_ ?_ <;> simp only [push_cast, seval, reduceCtorEq, Int.cast_ofNat_Int]; exact ⟨_, rfl⟩)
  · have hl' : l.length = 1 := hl
    by_cases h1 : 99 < l.getD 0 0
    · have e : doV 5 l (c, a, b, wst) = (1, (c, a, b, wst)) := by rw [doV5, if_pos h1]
      replace hnl := And.intro hnl hl'
      repeat' (first|(refine goK (by assumption) ?_; iterate 4 (try clear hK K))|(refine zAd fun K hK => ?_)|((first|refine zAb hE rfl ?_|refine zAh ?_|((first|refine zAa hE 1 rfl rfl (by kernel_rfl) ?_|refine zAa hE 2 rfl rfl (by kernel_rfl) ?_|refine zAa hE 3 rfl rfl (by kernel_rfl) ?_|refine zAa hE 4 rfl rfl (by kernel_rfl) ?_); simp only [List.length_cons, List.length_nil, Nat.reduceAdd, Nat.reduceSub, List.take_succ_cons, List.take_zero, List.drop_succ_cons, List.drop_zero])); simp +contextual only [hnl, ↓kN, ↓kP, ↓kG, ↓qN, ↓qP, ↓qG, push_cast, seval, reduceCtorEq, Int.cast_ofNat_Int])|refine zAc ?_|((first|refine zAg ?_|refine zAf ?_); simp only [thenQ, zAk, if_true, if_false, Nat.reduceEqDiff, reduceCtorEq])|(refine zAe (by rfl) (fun hb => ?_) (fun hb => ?_) <;> (try simp only [b1, b2, b3, b4, reduceCtorEq, b5, b6] at hb) <;> (try omega))|refine zAi (by rfl) ?_ ?_|refine andS ?_|(refine ⟨fun hc => ?_, fun hc => ?_⟩)|(intro hc; try omega))
      all_goals ((try refine zAh ?_); refine ⟨.inr rfl, ?_⟩; unfold doOut; rw [e]; dsimp only; refine zAj ?_ ?_ ?_ <;> simp only [push_cast, seval, reduceCtorEq, Int.cast_ofNat_Int])
    · have e : doV 5 l (c, a, b, wst) = (0, (c, a, b, l.getD 0 0)) := by rw [doV5, if_neg h1]
      replace hnl := And.intro hnl hl'
      repeat' (first|(refine goK (by assumption) ?_; iterate 4 (try clear hK K))|(refine zAd fun K hK => ?_)|((first|refine zAb hE rfl ?_|refine zAh ?_|((first|refine zAa hE 1 rfl rfl (by kernel_rfl) ?_|refine zAa hE 2 rfl rfl (by kernel_rfl) ?_|refine zAa hE 3 rfl rfl (by kernel_rfl) ?_|refine zAa hE 4 rfl rfl (by kernel_rfl) ?_); simp only [List.length_cons, List.length_nil, Nat.reduceAdd, Nat.reduceSub, List.take_succ_cons, List.take_zero, List.drop_succ_cons, List.drop_zero])); simp +contextual only [hnl, ↓kN, ↓kP, ↓kG, ↓qN, ↓qP, ↓qG, push_cast, seval, reduceCtorEq, Int.cast_ofNat_Int])|refine zAc ?_|((first|refine zAg ?_|refine zAf ?_); simp only [thenQ, zAk, if_true, if_false, Nat.reduceEqDiff, reduceCtorEq])|(refine zAe (by rfl) (fun hb => ?_) (fun hb => ?_) <;> (try simp only [b1, b2, b3, b4, reduceCtorEq, b5, b6] at hb) <;> (try omega))|refine zAi (by rfl) ?_ ?_|refine andS ?_|(refine ⟨fun hc => ?_, fun hc => ?_⟩)|(intro hc; try omega))
      all_goals ((try refine zAh ?_); refine ⟨.inr rfl, ?_⟩; unfold doOut; rw [e]; dsimp only; refine zAj ?_ ?_ ?_ <;> simp only [push_cast, seval, reduceCtorEq, Int.cast_ofNat_Int]; exact ⟨_, rfl⟩)
  · have hl' : l.length = 1 := hl
    refine zAK (t := AS.of [(0, .one (.box 0)), (1, .one (.val .int ((6 : Nat) : Int))), (2, .one (.val (.sl .int) l))] [] [(0, .rcd [.val (.sl (.sl .int)) c, .val (.sl .int) a, .val (.sl .int) b, .val .int wst])]) (by refine zAj ?_ ?_ ?_ <;> simp only [push_cast, seval, reduceCtorEq, Int.cast_ofNat_Int]) ?_
    by_cases h1 : zDf a b c wst = l.getD 0 0
    · have e : doV 6 l (c, a, b, wst) = (0, (c, a, b, wst)) := by rw [doV6, if_pos h1]
      replace hnl := And.intro hnl (And.intro hl' h1)
      repeat' (first|(refine goK (by assumption) ?_; iterate 4 (try clear hK K))|(refine zAd fun K hK => ?_)|((first|refine zAb hE rfl ?_|refine zAh ?_|((first|refine zAa hE 1 rfl rfl (by kernel_rfl) ?_|refine zAa hE 2 rfl rfl (by kernel_rfl) ?_|refine zAa hE 3 rfl rfl (by kernel_rfl) ?_|refine zAa hE 4 rfl rfl (by kernel_rfl) ?_); simp only [List.length_cons, List.length_nil, Nat.reduceAdd, Nat.reduceSub, List.take_succ_cons, List.take_zero, List.drop_succ_cons, List.drop_zero])); simp +contextual only [hnl, ↓kN, ↓kP, ↓kG, ↓qN, ↓qP, ↓qG, push_cast, seval, reduceCtorEq, Int.cast_ofNat_Int])|refine zAc ?_|((first|refine zAg ?_|refine zAf ?_); simp only [thenQ, zAk, if_true, if_false, Nat.reduceEqDiff, reduceCtorEq])|(refine zAe (by rfl) (fun hb => ?_) (fun hb => ?_) <;> (try simp only [b1, b2, b3, b4, reduceCtorEq, b5, b6] at hb) <;> (try omega))|refine zAi (by rfl) ?_ ?_|refine andS ?_|(refine ⟨fun hc => ?_, fun hc => ?_⟩)|(intro hc; try omega))
      all_goals ((try refine zAh ?_); refine ⟨.inr rfl, ?_⟩; unfold doOut; rw [e]; dsimp only; refine zAj ?_ ?_ ?_ <;> simp only [push_cast, seval, reduceCtorEq, Int.cast_ofNat_Int]; exact ⟨_, rfl⟩)
    · have e : doV 6 l (c, a, b, wst) = (7, (c, a, b, wst)) := by rw [doV6, if_neg h1]
      replace hnl := And.intro hnl (And.intro hl' (eq_false h1))
      repeat' (first|(refine goK (by assumption) ?_; iterate 4 (try clear hK K))|(refine zAd fun K hK => ?_)|((first|refine zAb hE rfl ?_|refine zAh ?_|((first|refine zAa hE 1 rfl rfl (by kernel_rfl) ?_|refine zAa hE 2 rfl rfl (by kernel_rfl) ?_|refine zAa hE 3 rfl rfl (by kernel_rfl) ?_|refine zAa hE 4 rfl rfl (by kernel_rfl) ?_); simp only [List.length_cons, List.length_nil, Nat.reduceAdd, Nat.reduceSub, List.take_succ_cons, List.take_zero, List.drop_succ_cons, List.drop_zero])); simp +contextual only [hnl, ↓kN, ↓kP, ↓kG, ↓qN, ↓qP, ↓qG, push_cast, seval, reduceCtorEq, Int.cast_ofNat_Int])|refine zAc ?_|((first|refine zAg ?_|refine zAf ?_); simp only [thenQ, zAk, if_true, if_false, Nat.reduceEqDiff, reduceCtorEq])|(refine zAe (by rfl) (fun hb => ?_) (fun hb => ?_) <;> (try simp only [b1, b2, b3, b4, reduceCtorEq, b5, b6] at hb) <;> (try omega))|refine zAi (by rfl) ?_ ?_|refine andS ?_|(refine ⟨fun hc => ?_, fun hc => ?_⟩)|(intro hc; try omega))
      all_goals ((try refine zAh ?_); refine ⟨.inr rfl, ?_⟩; unfold doOut; rw [e]; dsimp only; refine zAj ?_ ?_ ?_ <;> simp only [push_cast, seval, reduceCtorEq, Int.cast_ofNat_Int])
end Go.Proofs.YtlgkplnifaoeeaaGreatDoor
namespace Go.Proofs.YtlgkplnifaoeeaaGreatDoor
open Go.RowKit Go.VS Go.ChangeMaps Go.MapKept
def formsL : List (ByteArray × Int × Int) := [(pPut, 0, 2), (pTake, 1, 2), (pWant, 2, 2), (pDrop, 3, 2), (pCost, 4, 3), (zTO, 5, 1), (zTN, 6, 1)]
structure MapAt (w0 w : World) (b : Nat) (l : List (ByteArray × Int × Int)) : Prop where
  new : w0.heap.size ≤ b
  keep : Keep (fun _ => False) w0 w
  at' : ∃ es clock, w.heap[b]? = some (.map es clock) ∧ MapIs es l
theorem zPn (w : World) : MapAt w (w.alloc (.map #[] 0)) w.heap.size [] :=
  ⟨Nat.le_refl _, ⟨rfl, rfl, rfl, by simp, fun k hk _ => Below.heap_alloc w _ k hk⟩, #[], 0, heap_alloc_new w _, rfl⟩
theorem zSo {P : Program} {t k e : TypeId} (ht : P.underlying t = some (.map k e)) (hk : P.underlying k = some .string) {w0 w : World} {b : Nat} {l : List (ByteArray × Int × Int)} (h : MapAt w0 w b l) (s : ByteArray) (y : Int × Int) (hs : smHas l s = false) :
    ∃ w', (Instr.mapUpdate t (.map (some b)) (.string s) (.agg #[.int .i64 y.1, .int .i64 y.2])).run P w = .ok () w' ∧ MapAt w0 w' b (l ++ [(s, y)]) := by
  obtain ⟨h1, h2, es, cl, hb, hm⟩ := h
  have hck : (Instr.checkKey false 10000 k (.string s)).run P w = .ok () w := by rw [show (10000 : Nat) = 9999 + 1 from rfl]; unfold Instr.checkKey; simp only [Sem.run_bind, run_underlying hk, Result.andThen_ok, Sem.run_pure]
  have hf : Instr.findNow .string (.string s) es.toList 0 = some none := by
    rcases zEL s es.toList l 0 hm with ⟨h5, _⟩ | ⟨j, p, _, h6⟩
    · exact h5
    · rw [smHas, h6] at hs; cases hs
  have hfind : (Instr.findKey k (.string s) es.toList).run P w = .ok none w := by
    simp only [Instr.findKey, Sem.run_bind, run_underlying hk, Result.andThen_ok, hf, Sem.run_pure]
  refine ⟨setBlock w b (.map (es.push ⟨.string s, .agg #[.int .i64 y.1, .int .i64 y.2], cl⟩) (cl + 1)), ?_, h1, ?_, _, _, heap_setBlock_same hb _, ?_⟩
  · have hset : (setObj b (.map (es.push ⟨.string s, .agg #[.int .i64 y.1, .int .i64 y.2], cl⟩) (cl + 1))).run P w = .ok () (setBlock w b (.map (es.push ⟨.string s, .agg #[.int .i64 y.1, .int .i64 y.2], cl⟩) (cl + 1))) := by
      exact run_setObj_map _ hb
    simp only [Instr.mapUpdate, Sem.run_bind, run_underlying ht, Result.andThen_ok, run_getObj_map w b es cl hb, hck, hfind]
    exact hset
  · exact h2.step (M := fun k => k = b) ⟨rfl, rfl, rfl, by simp [setBlock], fun k hk hne => heap_setBlock_other hb _ hne⟩ (fun k hk hlt => by omega)
  · show ((es.push _).toList.map _) = _
    rw [Array.toList_push, List.map_append, List.map_append, hm]
    rfl
theorem zN6 {P : Program} {ops : Array Oper} {rest : List Oper} {o : Oper} {a : Act} {w w0 : World} {Q : Exit → Act → World → Prop} (hg : o.guard = none) {t : TypeId} {mo x v : Operand} (hop : o.op = .insert t mo x v) {k e : TypeId}
    (ht : P.underlying t = some (.map k e)) (hk : P.underlying k = some .string) {b : Nat} {s : ByteArray} {n m : Int} {l : List (ByteArray × Int × Int)} (hm : a.eval mo = .map (some b)) (hx : a.eval x = .string s) (hv : a.eval v = .agg #[.int .i64 n, .int .i64 m])
    (h : MapAt w0 w b l) (hs : smHas l s = false) (K : ∀ w', MapAt w0 w' b (l ++ [(s, n, m)]) → wpList P ops Q rest (a.put o.dst undef) w') : wpList P ops Q (o :: rest) a w := by
  refine wpList_plain hg fun K' hK' => ?_
  obtain ⟨w', hrun, h'⟩ := zSo ht hk h s (n, m) hs
  unfold Oper.wp
  simp [execOp, hop, hm, hx, hv, hrun, Result.andThen]
  exact hK' _ _ (K w' h')
theorem zNf (n m : Int) (w : World) : (Instr.build 164 #[(0, .int .i64 n), (1, .int .i64 m)]).run Tryz.prog w = .ok (.agg #[.int .i64 n, .int .i64 m]) w := by kernel_rfl
set_option maxRecDepth 20000 in
set_option maxHeartbeats 1000000 in
theorem zK5 (w : World) : Calls Tryz.prog 123 #[] w fun e w' => ∃ b, e = .returned (.map (some b)) ∧ MapAt w w' b formsL := by
  have h0 := zPn w
  have hb := zNf
  have hmk := fun w => run_makeMap (P := Tryz.prog) 166 w
  go_enter Tryz.func123, Tryz.ntmps123
  go_wp2_with (refine zN6 rfl rfl Tryz.underlying166 Tryz.underlying9 (b := w.heap.size) rfl rfl rfl (by assumption) (by decide +kernel) ?_; intro w' h0')
  go_ret
  exact ⟨_, rfl, by assumption⟩
@[push_cast] def zMg : Con := ⟨[], fun _ => True, fun _ => { res := [.val .smap formsL] }⟩
theorem zNg : FnSpec Tryz.prog 123 zMg := by
  refine zBm ⟨_, Tryz.func123, by kernel_rfl, rfl⟩ (fun _ => rfl) (fun _ => rfl) fun C γ x vs hpre hen => ?_
  have hlt := hen.ownlt
  have hargs := hen.args
  obtain rfl : vs = [] := hargs
  refine (zK5 C.w0).mono ?_
  rintro e w' ⟨b, rfl, h1, h2, es, cl, hb, hm⟩
  refine ⟨[_], rfl, ⟨_, [], rfl, ⟨_, ⟨b, es, cl, rfl, ⟨.inr (.inl h1), ?_⟩, ?_, hb, hm⟩, rfl⟩, rfl, rfl, rfl⟩, h2⟩
  · cases ho : γ.own b with
    | none => rfl
    | some l => have := hlt b l ho; omega
  · exact (Array.getElem?_eq_some_iff.1 hb).1
end Go.Proofs.YtlgkplnifaoeeaaGreatDoor
