/- What holds of any plan between masses: its links, its prices, its rounds, its tolls. Conditions: in each lemma. -/
import Derived.Test.YtpfkipccbgdkjacKu
import Derived.Test.YtpfkipccbgdkjacKe
namespace Go.Proofs.Ytpfkipccbgdkjac
open Go.RowKit Go.VS Go.OT Go.LC
set_option linter.unusedSimpArgs false
set_option linter.unusedVariables false

section
variable {a b : List Int} {c T : List (List Int)} {u v : List Int}
theorem plan_least (hf : errFits a b c = 0) (h2 : errCheck a b T = 0) : leastV a b c ≤ spendV c T := by
  rw [(check_spend hf h2).2]
  exact least_le hf (check_plan h2).1
theorem plan_links (hf : errFits a b c = 0) (h2 : errCheck a b T = 0) : errLinks c (lkV T) = 0 ∧ Lnk c (lkV T) ∧ (CycP c (lkV T) ↔ spendV c T = leastV a b c) := by
  obtain ⟨d1, d2, d3, _⟩ := fits_dims hf
  obtain ⟨k1, k2, k3, k4, _⟩ := check_plan h2
  have hl := lk_links d3 (by omega : T.length = c.length) (by omega : wid T = wid c)
  refine ⟨errLinks_0 d3 hl, hl, ?_⟩
  rw [cyc_iff d3 hl d1.symm d2.symm k1 (fun i j hi hj => lk_pos (by omega) (by omega)), (check_spend hf h2).2]
  constructor
  · intro hall
    have h5 := hall _ (fits_best hf).plan
    rw [← cheap_cst hf] at h5
    have h6 := least_le hf k1
    omega
  · intro he q hq
    rw [he, cheap_cst hf]
    obtain ⟨r, s, g1, g2, _⟩ := (fits_best hf).good
    exact (fits_best hf).plan.least g1 g2 hq
theorem plan_proved (hf : errFits a b c = 0) (h2 : errCheck a b T = 0) : errBest a b c T (pricesV a b c) = 0 ↔ spendV c T = leastV a b c := by
  obtain ⟨k1, k2, k3, k4, _⟩ := check_plan h2
  have hc := (check_spend hf h2).2
  constructor
  · intro h
    exact (best_values h).2.2.1
  · intro he
    have hown := best_own hf
    obtain ⟨e1, e2⟩ := best_least hown
    refine errBest_0 hf h2 (prices_pr hf) (tight_to ?_)
    rw [k2, k3]
    exact k1.tight_of (prices_ok hf).1 (by rw [← hc, he, ← e2, worth_eq])
theorem plan_gain (hf : errFits a b c = 0) (h2 : errCheck a b T = 0) (hn : ¬ CycP c (lkV T)) : errRound c (lkV T) (roundL c (lkV T)) = 0 ∧ 1 ≤ roundV c (lkV T) (roundL c (lkV T)) ∧ roundV c (lkV T) (roundL c (lkV T)) ≤ spendV c T - leastV a b c ∧ 0 < (roundL c (lkV T)).length := by
  obtain ⟨d1, d2, d3, _⟩ := fits_dims hf
  obtain ⟨k1, k2, k3, k4, _⟩ := check_plan h2
  obtain ⟨_, hl, _⟩ := plan_links hf h2
  obtain ⟨g1, g2, g3⟩ := roundL_ok d3 hl hn
  refine ⟨g1, by omega, ?_, by omega⟩
  obtain ⟨_, o2⟩ := cy_ok (hl.w d3) (hl.le25 d3)
  obtain ⟨_, hr⟩ := o2 hn
  have hin : ∀ k, k < (lkV T).length → lr (lkV T) k < a.length ∧ lc (lkV T) k < b.length := fun k hk => by have := hl.in' hk; omega
  obtain ⟨q, hq, he⟩ := exch_round (c := gt c) (f := cyF (lossV c (lkV T)) (lkV T).length) (r := cyP (lossV c (lkV T)) (lkV T).length) hin (fun i j hi hj h1 h2 => hl.inj hi hj h1 h2) k1 (fun k hk => (lk_pos (by have := hin k hk; omega) (by have := hin k hk; omega)).2 ⟨k, hk, rfl, rfl⟩) (fun k _ => hr.lt k) (fun i j hij hj => hr.inj hij hj)
  have h3 := least_le' hf hq
  have hlen := roundL_len hn
  have h4 : roundV c (lkV T) (roundL c (lkV T)) = - sg (cyP (lossV c (lkV T)) (lkV T).length) (fun k => xl (gt c) (lr (lkV T)) (lc (lkV T)) (cyF (lossV c (lkV T)) (lkV T).length k) (cyF (lossV c (lkV T)) (lkV T).length ((k + 1) % cyP (lossV c (lkV T)) (lkV T).length))) := by
    have h5 : roundV c (lkV T) (roundL c (lkV T)) = gainK c (roundL c (lkV T)) (roundL c (lkV T)).length := if_pos g1
    rw [h5, gain_of (l := lkV T) (f := cyF (lossV c (lkV T)) (lkV T).length) fun k hk => roundL_at hn (by omega), hlen]
    rfl
  rw [(check_spend hf h2).2]
  omega
theorem plan_toll (hf : errFits a b c = 0) (h2 : errCheck a b T = 0) (ht : errToll c u v = 0) : errFits a b (tollR c u v) = 0 ∧ errSpend (tollR c u v) T = 0 ∧ spendV (tollR c u v) T - leastV a b (tollR c u v) = spendV c T - leastV a b c := by
  obtain ⟨t1, t2, _⟩ := toll_least hf ht
  obtain ⟨s1, s2⟩ := check_spend t1 h2
  refine ⟨t1, s1, ?_⟩
  rw [t2, s2, (check_spend hf h2).2, (errToll_ok ht).2.2.2, toll_cst hf (check_plan h2).1]
  omega
end
end Go.Proofs.Ytpfkipccbgdkjac
