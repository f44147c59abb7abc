/- Prices at a waste, made of the prices of masses with dumps. Conditions: in each theorem. -/
import Derived.Test.YtogopoiohckpdaeSp
import Derived.Test.YtogopoiohckpdaeHg
import Derived.Test.YtogopoiohckpdaeHp
import Derived.Test.YtogopoiohckpdaeHb
import Derived.Test.YtogopoiohckpdaeSe
namespace Go.Proofs.Ytogopoiohckpdae
open Go.RowKit Go.VS Go.OT Go.LC
set_option linter.unusedSimpArgs false
set_option linter.unusedVariables false

section
variable {a b : List Int} {c : List (List Int)} {w d e m : Int}
theorem dum_mc (h : DumP a b c m) (hd : 0 ≤ d ∧ d ≤ 99) (he : 0 ≤ e ∧ e ≤ 99) : MC (dumA a b m) (dumA b a m) (dumC c d e) := by
  have hq := dum_mq h hd (e := e) (by omega)
  refine ⟨hq.a5, hq.b5, hq.ha, hq.hb, ⟨hq.hc.rows, hq.hc.cols, fun i j hi hj => ?_⟩⟩
  have hf := h.f
  have hr := hf.rows
  have hw := hf.cols
  rw [dumA_len] at hi hj
  have h9 := dumC_at (d := d) (e := e) hf.hc (i := i) (j := j) (by omega) (by omega)
  unfold gt at h9
  rw [h9]
  unfold costD
  split
  · rename_i h
    split
    · rename_i h'
      exact hf.hc.at h h'
    · exact hd
  · split
    · exact hd
    · exact he
/-- The table with dumps that cost the waste, its cheapest plan, its prices. -/
def lpT (c : List (List Int)) (w : Int) : List (List Int) := dumC c w 0
def lpP (a b : List Int) (c : List (List Int)) (w : Int) : List (List Int) := cheapV (dumA a b 0) (dumA b a 0) (lpT c w)
def lpS (a b : List Int) (c : List (List Int)) (w : Int) : PS := prV (lpT c w) (lpP a b c w)
/-- The first k prices of rows (columns), made greater by the price of the column (row) of dumps. -/
def lpRk (a b : List Int) (c : List (List Int)) (w : Int) (k : Nat) : List Int := tbl (a.length + 1) fun i => if i < k then (lpS a b c w).r.getD i 0 + (lpS a b c w).k.getD b.length 0 else (lpS a b c w).r.getD i 0
def lpCk (a b : List Int) (c : List (List Int)) (w : Int) (k : Nat) : List Int := tbl (b.length + 1) fun j => if j < k then (lpS a b c w).k.getD j 0 + (lpS a b c w).r.getD a.length 0 else (lpS a b c w).k.getD j 0
def lpR (a b : List Int) (c : List (List Int)) (w : Int) : Prices := (tbl a.length fun i => (lpS a b c w).r.getD i 0 + (lpS a b c w).k.getD b.length 0, tbl b.length fun j => (lpS a b c w).k.getD j 0 + (lpS a b c w).r.getD a.length 0)

structure LpOK (a b : List Int) (c : List (List Int)) (w : Int) : Prop where
  mc : MC (dumA a b 0) (dumA b a 0) (lpT c w)
  pre : PrPre (lpT c w) (lpP a b c w)
  l1 : (lpS a b c w).r.length = a.length + 1
  l2 : (lpS a b c w).k.length = b.length + 1
  b1 : ∀ i, i < a.length + 1 → 0 ≤ (lpS a b c w).r.getD i 0 ∧ (lpS a b c w).r.getD i 0 ≤ 99
  b2 : ∀ j, j < b.length + 1 → -99 ≤ (lpS a b c w).k.getD j 0 ∧ (lpS a b c w).k.getD j 0 ≤ 0
  holds : Holds (a.length + 1) (b.length + 1) (costD a.length b.length (gt c) w 0) (fun i => (lpS a b c w).r.getD i 0) (fun j => (lpS a b c w).k.getD j 0)
  val : worth (a.length + 1) (b.length + 1) (withD a.length (ga a) (sumL b)) (withD b.length (ga b) (sumL a)) (fun i => (lpS a b c w).r.getD i 0) (fun j => (lpS a b c w).k.getD j 0) = looseV a b c w
  cost : cst (a.length + 1) (b.length + 1) (gt (lpT c w)) (gt (lpP a b c w)) = looseV a b c w
  sums : sumL (dumA a b 0) = sumL (dumA b a 0)

theorem wid_dum (hf : ForOK a b c) : wid (dumC c d e) = wid c + 1 := by
  have hr := hf.rows
  have ha := hf.mc.a5
  have := dumC_row (d := d) (e := e) (c := c) (i := 0) (by omega)
  unfold wid at this ⊢
  rw [this, List.length_append]
  rfl
theorem lp_ok (hf : ForOK a b c) (hw : 0 ≤ w ∧ w ≤ 99) : LpOK a b c w := by
  have hd : DumP a b c 0 := ⟨hf, by omega, by have := MC.sums hf; omega⟩
  have hmc := dum_mc hd hw (e := 0) (by omega)
  have hs : sumL (dumA a b 0) = sumL (dumA b a 0) := (dum_mq hd hw (e := 0) (by omega)).hs
  have hb := hmc.best hs
  obtain ⟨r, s, g1, g2, g3, g4⟩ := hb.good
  have hr := hf.rows
  have hc := hf.cols
  have ha5 := hf.mc.a5
  have hb5 := hf.mc.b5
  have am := okMass_small hf.ha
  have bm := okMass_small hf.hb
  have hTl : (lpT c w).length = a.length + 1 := by rw [lpT, dumC_len, hr]
  have hTw : wid (lpT c w) = b.length + 1 := by rw [lpT, wid_dum hf, hc]
  have hct := hmc.hc
  have hpt := hb.shp.tab
  have hpl := hb.plan
  rw [dumA_len, dumA_len] at hct hpt hpl g1 g2
  rw [dumA_len] at g3 g4
  have e : lpS a b c w = prK (dumC c w 0) (lpP a b c w) (a.length + 1) (b.length + 1) (a.length + 1 + (b.length + 1)) := by
    unfold lpS prV
    rw [hTl, hTw]
    rfl
  have hst := prK_st (p := lpP a b c w) hct (by omega) (by omega) (a.length + 1 + (b.length + 1))
  obtain ⟨q1, q2, q3, q4⟩ := prK_ok (p := lpP a b c w) hct (by omega) (by omega) g1 g2 g3 g4
  rw [← e] at hst q1 q2 q3 q4
  have hC : ∀ i j, i < a.length + 1 → j < b.length + 1 → gt (dumC c w 0) i j = costD a.length b.length (gt c) w 0 i j := fun i j hi hj => by
    rw [dumC_at hf.hc (by omega) (by omega), hr, hc]
  have eC : ∀ Q, cst (a.length + 1) (b.length + 1) (costD a.length b.length (gt c) w 0) Q = cst (a.length + 1) (b.length + 1) (gt (dumC c w 0)) Q := fun Q => by
    unfold cst
    exact sg_congr _ fun i hi => sg_congr _ fun j hj => by rw [hC i j hi hj]
  have hpl2 : IsPlan (a.length + 1) (b.length + 1) (withD a.length (ga a) (sumL b - 0)) (withD b.length (ga b) (sumL a - 0)) (gt (lpP a b c w)) :=
    ⟨hpl.nn, fun i hi => (hpl.row i hi).trans (dumA_at hi), fun j hj => (hpl.col j hj).trans (dumA_at hj)⟩
  have k1 := hpl2.worth_eq q2
  have k2 := dump_loose hf.mc w (v := cst (a.length + 1) (b.length + 1) (costD a.length b.length (gt c) w 0) (gt (lpP a b c w))) ⟨_, hpl2, rfl⟩ (fun Q hQ => by
    rw [eC, eC]; exact hpl2.least q1 q2 hQ)
  refine ⟨hmc, ⟨by omega, by omega, ?_, ?_⟩, hst.l1, hst.l2, q3, q4, fun i j hi hj => ?_, ?_, ?_, hs⟩
  · rw [hTl, hTw]; exact hct
  · rw [hTl, hTw]; exact hpt
  · rw [← hC i j hi hj]; exact q1 i j hi hj
  · rw [Int.sub_zero, Int.sub_zero] at k1
    rw [k1, ← eC, k2]
  · exact (eC _).symm.trans k2

theorem lp_worth (hf : ForOK a b c) (hw : 0 ≤ w ∧ w ≤ 99) : errPrL c w (lpR a b c w) = 0 ∧ worthV a b (lpR a b c w) = looseV a b c w := by
  have h := lp_ok hf hw
  have hr := hf.rows
  have hc := hf.cols
  have hm : (lpS a b c w).r.getD a.length 0 + (lpS a b c w).k.getD b.length 0 ≤ 0 := by
    have := h.holds a.length b.length (by omega) (by omega)
    unfold costD at this
    rwa [if_neg (Nat.lt_irrefl _), if_neg (Nat.lt_irrefl _)] at this
  obtain ⟨k1, k2, k3, k4⟩ := dump_prices (a := ga a) (b := ga b) h.holds hm
  have eR : ∀ i, i < a.length → ga (lpR a b c w).1 i = (lpS a b c w).r.getD i 0 + (lpS a b c w).k.getD b.length 0 := fun i hi => tbl_get _ _ hi
  have eC : ∀ j, j < b.length → ga (lpR a b c w).2 j = (lpS a b c w).k.getD j 0 + (lpS a b c w).r.getD a.length 0 := fun j hj => tbl_get _ _ hj
  have lR : (lpR a b c w).1.length = a.length := tbl_len _ _
  have lC : (lpR a b c w).2.length = b.length := tbl_len _ _
  have at_mem : ∀ (l : List Int) (x : Int), x ∈ l → ∃ i, i < l.length ∧ x = ga l i := fun l x hx => by
    obtain ⟨i, hi, rfl⟩ := List.getElem_of_mem hx
    exact ⟨i, hi, by unfold ga; rw [List.getD_eq_getElem?_getD, List.getElem?_eq_getElem hi]; rfl⟩
  have hholds : HoldP c (lpR a b c w) := fun i hi j hj => by
    show ga (lpR a b c w).1 i + ga (lpR a b c w).2 j ≤ gt c i j
    rw [eR i (by omega), eC j (by omega)]
    exact k1 i j (by omega) (by omega)
  have hare : ArePr c (lpR a b c w) := by
    refine ⟨⟨by rw [lR, hr], fun x hx => ?_⟩, ⟨by rw [lC, hc], fun x hx => ?_⟩⟩
    · obtain ⟨i, hi, rfl⟩ := at_mem _ _ hx
      rw [lR] at hi
      rw [eR i hi]
      have := h.b1 i (by omega)
      have := h.b2 b.length (by omega)
      omega
    · obtain ⟨i, hi, rfl⟩ := at_mem _ _ hx
      rw [lC] at hi
      rw [eC i hi]
      have := h.b2 i (by omega)
      have := h.b1 a.length (by omega)
      omega
  have hlow : LowP w (lpR a b c w) := fun x hx => by
    rcases List.mem_append.1 hx with hx | hx
    · obtain ⟨i, hi, rfl⟩ := at_mem _ _ hx
      rw [lR] at hi
      rw [eR i hi]
      exact k2 i hi
    · obtain ⟨i, hi, rfl⟩ := at_mem _ _ hx
      rw [lC] at hi
      rw [eC i hi]
      exact k3 i hi
  refine ⟨?_, ?_⟩
  · rw [errPrL, if_pos ⟨errCost_0 hf.hc, if_pos hw⟩, if_pos (errPr_0 hf.hc hare hholds), if_pos hlow]
  · rw [worth_eq, ← h.val]
    refine Eq.trans ?_ k4
    unfold worth
    rw [sg_congr a.length fun i hi => by rw [eR i hi], sg_congr b.length fun j hj => by rw [eC j hj]]
end
end Go.Proofs.Ytogopoiohckpdae
