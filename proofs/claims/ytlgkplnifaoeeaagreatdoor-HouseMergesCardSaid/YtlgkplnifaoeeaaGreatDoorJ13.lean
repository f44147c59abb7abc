import Derived.Test.YtlgkplnifaoeeaaGreatDoorJ12
import Derived.Test.YtlgkplnifaoeeaaGreatDoorJ8
import Derived.LaidEql
import Derived.Stop.Asserts
import Derived.RowKitTokens
import Derived.Tactics2
import Derived.Test.YtlgkplnifaoeeaaGreatDoorJ4
set_option linter.unusedSimpArgs false
set_option linter.unusedVariables false
namespace Go.Proofs.YtlgkplnifaoeeaaGreatDoor
open Go.RowKit Go.VS
def hw (t : ByteArray) (i : Nat) : ByteArray := (zAN t spS).getD i ByteArray.empty
def zGE (s : ByteArray) : Bool := zCK s && decide (0 ≤ atoiV s) && decide (atoiV s ≤ 99999) && decide (itoaV (atoiV s) = s)
def hform (t : ByteArray) : Int × Int := smGet formsL (hw t 0)
def hpOK (t : ByteArray) : Bool := decide (1 ≤ t.size ∧ t.size ≤ 30) && smHas formsL (hw t 0) && decide (((zAN t spS).length : Int) = (hform t).2 + 1) && (List.range ((zAN t spS).length - 1)).all fun i => zGE (hw t (i + 1))
def zJc (t : ByteArray) (k : Nat) : List Int := tbl k fun i => atoiV (hw t (i + 1))
def hargs (t : ByteArray) : List Int := zJc t ((zAN t spS).length - 1)
section
variable {t : ByteArray} {k : Nat}
theorem zC1 : hpOK t = true ↔ ((1 ≤ t.size ∧ t.size ≤ 30) ∧ smHas formsL (hw t 0) = true ∧ ((zAN t spS).length : Int) = (hform t).2 + 1) ∧ ∀ i, i < (zAN t spS).length - 1 → zGE (hw t (i + 1)) = true := by
  simp only [hpOK, Bool.and_eq_true, decide_eq_true_eq, List.all_eq_true, List.mem_range, and_assoc]
theorem zS9 (h : ¬ (1 ≤ t.size ∧ t.size ≤ 30)) : hpOK t = false := by
  rw [Bool.eq_false_iff]; exact fun h2 => h (zC1.1 h2).1.1
theorem zTa (h : ¬ smHas formsL (hw t 0) = true) : hpOK t = false := by
  rw [Bool.eq_false_iff]; exact fun h2 => h (zC1.1 h2).1.2.1
theorem zTb (h : ¬ ((zAN t spS).length : Int) = (hform t).2 + 1) : hpOK t = false := by
  rw [Bool.eq_false_iff]; exact fun h2 => h (zC1.1 h2).1.2.2
theorem zTc (hk : k < (zAN t spS).length - 1) (h : ¬ zGE (hw t (k + 1)) = true) : hpOK t = false := by
  rw [Bool.eq_false_iff]; exact fun h2 => h ((zC1.1 h2).2 k hk)
theorem zFy {s : ByteArray} : zGE s = true ↔ zCK s = true ∧ 0 ≤ atoiV s ∧ atoiV s ≤ 99999 ∧ itoaV (atoiV s) = s := by
  simp only [zGE, Bool.and_eq_true, decide_eq_true_eq, and_assoc]
theorem zIJ (k : ByteArray) : 0 ≤ (smGet formsL k).1 ∧ (smGet formsL k).1 ≤ 6 ∧ 0 ≤ (smGet formsL k).2 ∧ (smGet formsL k).2 ≤ 3 := by
  unfold smGet
  cases h : formsL.find? (fun p => decide (p.1 = k)) with
  | none => exact ⟨by decide, by decide, by decide, by decide⟩
  | some p =>
    have hm := List.mem_of_find?_eq_some h
    simp only [formsL, List.mem_cons, List.not_mem_nil, or_false] at hm
    rcases hm with rfl | rfl | rfl | rfl | rfl | rfl | rfl <;> exact ⟨by decide, by decide, by decide, by decide⟩
end
@[push_cast] def zE7 : Con := ⟨[.dat .str], fun _ => True, fun (x : ByteArray × Unit) =>
  { res := [.val .int (if hpOK x.1 = true then (hform x.1).1 else 0), .own (.flat 3 .int (if hpOK x.1 = true then hargs x.1 else [])), .val (.err 161) (if hpOK x.1 = true then 0 else 2)] }⟩
set_option maxHeartbeats 4000000 in
theorem zKS : FnSpec Tryz.prog 77 zE7 := by
  refine FnSpec.of_tri' (E := know [(122, zIK), (123, zLV), (124, zIe), (125, zGF)] [] [] []) (zAn (all_cons zHW (all_cons zMW (all_cons zGt (all_cons zE8 all_nil)))) all_nil all_nil) Tryz.func77 rfl rfl (by kernel_rfl) ?_
  intro C x hE hnl hfit hpre
  simp only [Tryz.ntmps77, Tryz.results77, maxLen, Nat.reduceSub, Nat.reducePow, Nat.reduceAdd, Int.cast_ofNat_Int, push_cast] at hnl hfit hpre ⊢
  obtain ⟨(t : ByteArray), _⟩ := x
  dsimp only at hfit hpre ⊢
  by_cases h1 : 1 ≤ t.size ∧ t.size ≤ 30
  rotate_left
  · have e := zS9 h1
    replace hnl := And.intro hnl (And.intro e zJX)
    exact auA
  have hsp : spS.size = 1 := rfl
  have hpos : 1 ≤ (zAN t spS).length := by rw [zEu t spS (by omega)]; omega
  have hlen := zHU t spS (by omega)
  have hw0 : (zAN t spS).getD 0 ByteArray.empty = hw t 0 := rfl
  have hfo : smGet formsL (hw t 0) = hform t := rfl
  obtain ⟨f1, f2, f3, f4⟩ := zIJ (hw t 0)
  rw [hfo] at f1 f2 f3 f4
  have hnl1 := hnl
  replace hnl := And.intro hnl (And.intro zJX (And.intro hw0 (And.intro hfo hsp)))
  repeat' (first|(refine goK (by assumption) ?_; iterate 4 (try clear hK K))|(refine zAd fun K hK => ?_)|((first|refine zAb hE rfl ?_|refine zAh ?_); simp +contextual only [hnl, ↓kN, ↓kP, ↓kG, ↓qN, ↓qP, ↓qG, push_cast, seval, reduceCtorEq, Int.cast_ofNat_Int])|refine zAc ?_|((first|refine zAg ?_|refine zAf ?_); simp only [thenQ, zAk, if_true, if_false, Nat.reduceEqDiff, reduceCtorEq])|(refine zAe (by rfl) (fun hb => ?_) (fun hb => ?_) <;> (try simp only [b1, b2, b3, b4, reduceCtorEq, b5, b6] at hb) <;> (try omega))|refine zAi (by rfl) ?_ ?_|refine andS ?_|(refine ⟨fun hc => ?_, fun hc => ?_⟩)|(intro hc; try omega))
  refine zEV hE (fun D s => (D 9 = true → D 8 = true) ∧
    s.env 5 = .one (.val (.sl .str) (zAN t spS)) ∧
    (D 0 = true → s.env 26 = .one (.val .smap formsL)) ∧
    (D 1 = true → s.env 27 = .one (.val (.sl .str) (zAN t spS))) ∧
    (D 2 = true → s.env 28 = .one (.padr .str (hw t 0))) ∧
    (D 3 = true → s.env 29 = .one (.val .str (hw t 0))) ∧
    (D 4 = true → s.env 30 = .tup [.val (.prod .int .int) (hform t), .val .bool (smHas formsL (hw t 0))]) ∧
    (D 5 = true → s.env 25 = .tup [.val (.prod .int .int) (hform t), .val .bool (smHas formsL (hw t 0))]) ∧
    (D 6 = true → s.env 31 = .one (.val (.prod .int .int) (hform t))) ∧
    (D 7 = true → s.env 32 = .one (.val .bool (smHas formsL (hw t 0)))) ∧
    (D 8 = true → s.env 6 = .one (.box 6)) ∧
    (D 8 = true → D 9 = false → s.boxes 6 = some (.rcd [.val .int 0, .val .int 0])) ∧
    (D 9 = true → s.boxes 6 = some (.one (.val (.prod .int .int) (hform t)))) ∧
    (D 10 = true → s.env 7 = .one (.val .bool (smHas formsL (hw t 0))))) rfl (by kernel_rfl) ?_ ?_ ?_
  · dsimp only
    simp only [push_cast, seval, reduceCtorEq, Int.cast_ofNat_Int]
  · refine ⟨fun D s h0 hp hI => ?_, fun D s h0 hp hI => ?_, fun D s h0 hp hI => ?_, fun D s h0 hp hI => ?_, fun D s h0 hp hI => ?_, fun D s h0 hp hI => ?_, fun D s h0 hp hI => ?_, fun D s h0 hp hI => ?_, fun D s h0 hp hI => ?_, fun D s h0 hp hI => ?_, fun D s h0 hp hI => ?_, trivial⟩
    all_goals obtain ⟨o1, e5, f0, f1, f2, f3, f4, f5, f6, f7, f8, g8, f9, f10⟩ := hI
    all_goals replace hp := List.all_eq_true.1 hp
    · simp +contextual only [hnl, h0, o1, e5, f0, f1, f2, f3, f4, f5, f6, f7, f8, g8, f9, f10, setD, ↓kN, ↓kP, push_cast, seval, reduceCtorEq, Int.cast_ofNat_Int]
    · simp +contextual only [hnl, h0, o1, e5, f0, f1, f2, f3, f4, f5, f6, f7, f8, g8, f9, f10, setD, ↓kN, ↓kP, push_cast, seval, reduceCtorEq, Int.cast_ofNat_Int]
    · have d1 := hp 1 (by decide)
      simp +contextual only [d1, hnl, h0, o1, e5, f0, f1, f2, f3, f4, f5, f6, f7, f8, g8, f9, f10, setD, ↓kN, ↓kP, push_cast, seval, reduceCtorEq, Int.cast_ofNat_Int]
      omega
    · have d2 := hp 2 (by decide)
      simp +contextual only [d2, hnl, h0, o1, e5, f0, f1, f2, f3, f4, f5, f6, f7, f8, g8, f9, f10, setD, ↓kN, ↓kP, push_cast, seval, reduceCtorEq, Int.cast_ofNat_Int]
    · have d0 := hp 0 (by decide)
      have d3 := hp 3 (by decide)
      simp +contextual only [d0, d3, hnl, h0, o1, e5, f0, f1, f2, f3, f4, f5, f6, f7, f8, g8, f9, f10, setD, ↓kN, ↓kP, push_cast, seval, reduceCtorEq, Int.cast_ofNat_Int]
    · have d4 := hp 4 (by decide)
      simp +contextual only [d4, hnl, h0, o1, e5, f0, f1, f2, f3, f4, f5, f6, f7, f8, g8, f9, f10, setD, ↓kN, ↓kP, push_cast, seval, reduceCtorEq, Int.cast_ofNat_Int]
    · have d5 := hp 5 (by decide)
      simp +contextual only [d5, hnl, h0, o1, e5, f0, f1, f2, f3, f4, f5, f6, f7, f8, g8, f9, f10, setD, ↓kN, ↓kP, push_cast, seval, reduceCtorEq, Int.cast_ofNat_Int]
    · have d5 := hp 5 (by decide)
      simp +contextual only [d5, hnl, h0, o1, e5, f0, f1, f2, f3, f4, f5, f6, f7, f8, g8, f9, f10, setD, ↓kN, ↓kP, push_cast, seval, reduceCtorEq, Int.cast_ofNat_Int]
    · have n9 := zBD o1 h0
      simp +contextual only [n9, hnl, h0, o1, e5, f0, f1, f2, f3, f4, f5, f6, f7, f8, g8, f9, f10, setD, ↓kN, ↓kP, push_cast, seval, reduceCtorEq, Int.cast_ofNat_Int]
    · have d8 := hp 8 (by decide)
      have d6 := hp 6 (by decide)
      simp +contextual only [d8, d6, hnl, h0, o1, e5, f0, f1, f2, f3, f4, f5, f6, f7, f8, g8, f9, f10, setD, ↓kN, ↓kP, push_cast, seval, reduceCtorEq, Int.cast_ofNat_Int]
    · have d7 := hp 7 (by decide)
      simp +contextual only [d7, hnl, h0, o1, e5, f0, f1, f2, f3, f4, f5, f6, f7, f8, g8, f9, f10, setD, ↓kN, ↓kP, push_cast, seval, reduceCtorEq, Int.cast_ofNat_Int]
  intro D s hD hI
  obtain ⟨o1, e5, f0, f1, f2, f3, f4, f5, f6, f7, f8, g8, f9, f10⟩ := hI
  have v1 := f8 (hD 8 (by decide))
  have v2 := f9 (hD 9 (by decide))
  have v3 := f10 (hD 10 (by decide))
  refine goK hK ?_
  refine zAE (t := AS.of [(5, .one (.val (.sl .str) (zAN t spS))), (6, .one (.box 6)), (7, .one (.val .bool (smHas formsL (hw t 0))))] [] [(6, .one (.val (.prod .int .int) (hform t)))]) ?_ ?_
  · refine zAj ?_ ?_ ?_ <;> simp only [v1, v2, v3, e5, push_cast, seval, reduceCtorEq, Int.cast_ofNat_Int]
    all_goals first | exact ⟨_, rfl⟩ | skip
  clear hK hD
  replace hnl := hnl1
  by_cases h2 : smHas formsL (hw t 0) = true
  rotate_left
  · have e := zTa h2
    rw [Bool.not_eq_true] at h2
    replace hnl := And.intro hnl (And.intro e h2)
    exact auA
  by_cases h3 : ((zAN t spS).length : Int) = (hform t).2 + 1
  rotate_left
  · have e := zTb h3
    replace hnl := And.intro hnl (And.intro e (And.intro h2 (eq_false h3)))
    exact auA
  replace hnl := And.intro hnl (And.intro h2 (eq_true h3))
  repeat' (first|(refine goK (by assumption) ?_; iterate 4 (try clear hK K))|(refine zAd fun K hK => ?_)|((first|refine zAb hE rfl ?_|refine zAh ?_); simp +contextual only [hnl, ↓kN, ↓kP, ↓kG, ↓qN, ↓qP, ↓qG, push_cast, seval, reduceCtorEq, Int.cast_ofNat_Int])|refine zAc ?_|((first|refine zAg ?_|refine zAf ?_); simp only [thenQ, zAk, if_true, if_false, Nat.reduceEqDiff, reduceCtorEq])|(refine zAe (by rfl) (fun hb => ?_) (fun hb => ?_) <;> (try simp only [b1, b2, b3, b4, reduceCtorEq, b5, b6] at hb) <;> (try omega))|refine zAi (by rfl) ?_ ?_|refine andS ?_|(refine ⟨fun hc => ?_, fun hc => ?_⟩)|(intro hc; try omega))
  refine zAp (fun k : Nat => AS.of [(6, .one (.box 6)), (8, .one (.ref 78)), (46, .one (.val (.sl .str) ((zAN t spS).drop 1))), (47, .I ((zAN t spS).length - 1 : Nat)), (48, .I k)] [(78, .flat 3 .int (zJc t k))] [(6, .one (.val (.prod .int .int) (hform t)))]) (fun k => k ≤ (zAN t spS).length - 1 ∧ ∀ i, i < k → zGE (hw t (i + 1)) = true) (fun k => (zAN t spS).length - 1 - k) 0 ⟨Nat.zero_le _, by omega⟩ ?_ ?_
  · refine zAj ?_ ?_ ?_ <;> simp only [push_cast, seval, reduceCtorEq, Int.cast_ofNat_Int]
    all_goals first | omega | rfl | exact ⟨by omega, rfl⟩ | (rw [List.length_drop]) | skip
  intro k ⟨hk, hall⟩ K' hL
  have hal : (zJc t k).length = k := zD9 _ _
  have hdl : ((zAN t spS).drop 1).length = (zAN t spS).length - 1 := List.length_drop ..
  rcases Nat.lt_or_ge k ((zAN t spS).length - 1) with hkl | hkl
  · have hwk : ((zAN t spS).drop 1).getD k ByteArray.empty = hw t (k + 1) := by
      simp only [List.getD_eq_getElem?_getD, List.getElem?_drop, hw]
      rw [Nat.add_comm]
    have hws : (hw t (k + 1)).size ≤ 30 := by
      have := zHV t spS (hw t (k + 1)) (by
        have hk1 : k + 1 < (zAN t spS).length := by omega
        simp only [hw, List.getD_eq_getElem?_getD, List.getElem?_eq_getElem hk1, Option.getD_some]
        exact List.getElem_mem _)
      omega
    replace hnl := And.intro hnl (And.intro hwk (And.intro hdl hal))
    by_cases h4 : zGE (hw t (k + 1)) = true
    · obtain ⟨q1, q2, q3, q4⟩ := zFy.1 h4
      have hst : zJc t (k + 1) = zJc t k ++ [atoiV (hw t (k + 1))] := zMr _ _
      have hin : InR (atoiV (hw t (k + 1))) := by unfold InR; omega
      replace hnl := And.intro hnl (And.intro q1 (And.intro q4 (eq_true hin)))
      repeat' (first|(refine goK (by assumption) ?_; iterate 4 (try clear hK K))|(refine zAd fun K hK => ?_)|((first|refine zAb hE rfl ?_|refine zAh ?_); simp +contextual only [hnl, ↓kN, ↓kP, ↓kG, ↓qN, ↓qP, ↓qG, push_cast, seval, reduceCtorEq, Int.cast_ofNat_Int])|refine zAc ?_|((first|refine zAg ?_|refine zAf ?_); simp only [thenQ, zAk, if_true, if_false, Nat.reduceEqDiff, reduceCtorEq])|(refine zAe (by rfl) (fun hb => ?_) (fun hb => ?_) <;> (try simp only [b1, b2, b3, b4, reduceCtorEq, b5, b6] at hb) <;> (try omega))|refine zAi (by rfl) ?_ ?_|refine andS ?_|(refine ⟨fun hc => ?_, fun hc => ?_⟩)|(intro hc; try omega))
      refine hL _ (k + 1) ⟨by omega, fun i hi => ?_⟩ (by omega) ?_
      · rcases Nat.lt_or_ge i k with h5 | h5
        · exact hall i h5
        · obtain rfl : i = k := by omega
          exact h4
      refine zAj ?_ ?_ ?_ <;> simp only [push_cast, seval, reduceCtorEq, Int.cast_ofNat_Int]
      exact .inl (by rw [hst])
    · have e := zTc hkl h4
      cases q1 : zCK (hw t (k + 1)) with
      | false =>
        replace hnl := And.intro hnl (And.intro q1 e)
        repeat' (first|(refine goK (by assumption) ?_; iterate 4 (try clear hK K))|(refine zAd fun K hK => ?_)|((first|refine zAb hE rfl ?_|refine zAh ?_); simp +contextual only [hnl, ↓kN, ↓kP, ↓kG, ↓qN, ↓qP, ↓qG, push_cast, seval, reduceCtorEq, Int.cast_ofNat_Int])|refine zAc ?_|((first|refine zAg ?_|refine zAf ?_); simp only [thenQ, zAk, if_true, if_false, Nat.reduceEqDiff, reduceCtorEq])|(refine zAe (by rfl) (fun hb => ?_) (fun hb => ?_) <;> (try simp only [b1, b2, b3, b4, reduceCtorEq, b5, b6] at hb) <;> (try omega))|refine zAi (by rfl) ?_ ?_|refine andS ?_|(refine ⟨fun hc => ?_, fun hc => ?_⟩)|(intro hc; try omega))
      | true =>
        by_cases q2 : atoiV (hw t (k + 1)) < 0
        · replace hnl := And.intro hnl (And.intro q1 (And.intro e (eq_true q2)))
          exact auA
        by_cases q3 : 99999 < atoiV (hw t (k + 1))
        · replace hnl := And.intro hnl (And.intro q1 (And.intro e (And.intro (eq_false q2) (eq_true q3))))
          exact auA
        have q4 : ¬ itoaV (atoiV (hw t (k + 1))) = hw t (k + 1) := fun h => h4 (zFy.2 ⟨q1, by omega, by omega, h⟩)
        have hin : InR (atoiV (hw t (k + 1))) := by unfold InR; omega
        replace hnl := And.intro hnl (And.intro q1 (And.intro e (And.intro (eq_false q2) (And.intro (eq_false q3) (And.intro (eq_false q4) (eq_true hin))))))
        exact auA
  · obtain rfl : k = (zAN t spS).length - 1 := by omega
    have e : hpOK t = true := zC1.2 ⟨⟨h1, h2, h3⟩, hall⟩
    replace hnl := And.intro hnl (And.intro e hdl)
    repeat' (first|(refine goK (by assumption) ?_; iterate 4 (try clear hK K))|(refine zAd fun K hK => ?_)|((first|refine zAb hE rfl ?_|refine zAh ?_); simp +contextual only [hnl, ↓kN, ↓kP, ↓kG, ↓qN, ↓qP, ↓qG, push_cast, seval, reduceCtorEq, Int.cast_ofNat_Int])|refine zAc ?_|((first|refine zAg ?_|refine zAf ?_); simp only [thenQ, zAk, if_true, if_false, Nat.reduceEqDiff, reduceCtorEq])|(refine zAe (by rfl) (fun hb => ?_) (fun hb => ?_) <;> (try simp only [b1, b2, b3, b4, reduceCtorEq, b5, b6] at hb) <;> (try omega))|refine zAi (by rfl) ?_ ?_|refine andS ?_|(refine ⟨fun hc => ?_, fun hc => ?_⟩)|(intro hc; try omega))
    all_goals first | rfl | skip
end Go.Proofs.YtlgkplnifaoeeaaGreatDoor
namespace Go.Proofs.YtlgkplnifaoeeaaGreatDoor
open Go.RowKit Go.VS Go.Extern.Stop Go.Stop Go.Extern
theorem zSN (t : Value) (w : World) : Calls Tryz.prog 126 #[.nilIface, t] w fun e w' => e = .returned (.bool false) ∧ w' = w := by
  go_enter Tryz.func126, Tryz.ntmps126
  go_wp2
  go_ret
  exact ⟨rfl, rfl⟩
theorem as_vp (t : Addr) (w : World) : (ReflectliteValue.unpack (.iface 172 (.pointer (some t)))).run Tryz.prog w = .ok (.agg #[.pointer (some ⟨9, 172, none⟩), .pointer (some ⟨w.heap.size, 0, none⟩), .int .u64 150]) (w.alloc (.cells #[.pointer (some t)] 172)) := by kernel_rfl
theorem as_vr (n : Int) (w : World) : (ReflectliteValue.unpack (.iface 161 (.agg #[.int .i64 n]))).run Tryz.prog w = .ok (.agg #[.pointer (some ⟨9, 161, none⟩), .pointer (some ⟨w.heap.size, 0, none⟩), .int .u64 153]) (w.alloc (.cells #[.int .i64 n] 161)) := by kernel_rfl
theorem zSS (a : Addr) (w : World) : (ReflectliteValue.methodAny (ReflectliteValue.valueError "reflectlite.Value.Type" 0) (fun t _ _ _ => ReflectliteType.toType t) #[.agg #[.pointer (some ⟨9, 172, none⟩), .pointer (some a), .int .u64 150]]).run Tryz.prog w = .ok (.iface 238 (.agg #[.pointer (some ⟨9, 172, none⟩)])) w := by kernel_rfl
theorem as_mk (h : Value) (w : World) : (Go.method 418 238 (.agg #[h]) "Kind").run Tryz.prog w = .ok (260, h) w := by kernel_rfl
theorem as_kp (w : World) : ((ReflectliteType.abiMethod fun t => (fun a : Nat => Value.int IntKind.u8 (a : Int)) <$> Rtype.kind t) #[.pointer (some ⟨9, 172, none⟩)]).run Tryz.prog w = .ok (.int .u8 22) w := by kernel_rfl
theorem as_kr (w : World) : ((ReflectliteType.abiMethod fun t => (fun a : Nat => Value.int IntKind.u8 (a : Int)) <$> Rtype.kind t) #[.pointer (some ⟨9, 161, none⟩)]).run Tryz.prog w = .ok (.int .u8 25) w := by kernel_rfl
theorem zRp (z : Sem Value) (f : TypeId → Addr → Nat → Nat → Sem Value) (v : Value) : ReflectliteValue.method z f #[v] = (do match ← ReflectliteValue.parts v with | none => z | some (t, a, fl) => f t a fl (fl % 32)) := rfl
theorem as_pp (a : Addr) (w : World) : (ReflectliteValue.parts (.agg #[.pointer (some ⟨9, 172, none⟩), .pointer (some a), .int .u64 150])).run Tryz.prog w = .ok (some (172, a, 150)) w := by kernel_rfl
theorem zQd (a p : Addr) (W : World) (ha : W.cell? a = some (.pointer (some p))) : (ReflectliteValue.method (ReflectliteValue.valueError "reflectlite.Value.IsNil" 0) ReflectliteValue.isNil #[.agg #[.pointer (some ⟨9, 172, none⟩), .pointer (some a), .int .u64 150]]).run Tryz.prog W = .ok (.bool false) W := by
  rw [zRp]
  simp only [Sem.run_bind, as_pp, Result.andThen]
  simp [ReflectliteValue.isNil, loadVar, isAgg, underlying, Tryz.underlying172, ha, Result.andThen]
theorem as_me (h : Value) (w : World) : (Go.method 418 238 (.agg #[h]) "Elem").run Tryz.prog w = .ok (273, .agg #[h]) w := by kernel_rfl
theorem as_mi (h : Value) (w : World) : (Go.method 418 238 (.agg #[h]) "Implements").run Tryz.prog w = .ok (274, .agg #[h]) w := by kernel_rfl
theorem as_ma (h : Value) (w : World) : (Go.method 418 238 (.agg #[h]) "AssignableTo").run Tryz.prog w = .ok (271, .agg #[h]) w := by kernel_rfl
theorem as_ep (w : World) : (ReflectliteType.method ReflectliteType.elem #[.agg #[.pointer (some ⟨9, 172, none⟩)]]).run Tryz.prog w = .ok (.iface 238 (.agg #[.pointer (some ⟨9, 161, none⟩)])) w := by kernel_rfl
theorem as_ir (w : World) : (ReflectliteType.relation "Implements" ReflectliteType.implements_ #[.agg #[.pointer (some ⟨9, 161, none⟩)], .iface 238 (.agg #[.pointer (some ⟨9, 116, none⟩)])]).run Tryz.prog w = .ok (.bool true) w := by kernel_rfl
theorem as_to (v : Value) (w : World) : (ReflectliteType.typeOf #[.iface 161 v]).run Tryz.prog w = .ok (.iface 238 (.agg #[.pointer (some ⟨9, 161, none⟩)])) w := by kernel_rfl
theorem as_ar (w : World) : (ReflectliteType.relation "AssignableTo" ReflectliteType.assignableTo #[.agg #[.pointer (some ⟨9, 161, none⟩)], .iface 238 (.agg #[.pointer (some ⟨9, 161, none⟩)])]).run Tryz.prog w = .ok (.bool true) w := by kernel_rfl
theorem as_eo (w : World) : (Rtype.elem? 172).run Tryz.prog w = .ok (some 161) w := by kernel_rfl
theorem zSM (p : Addr) (w : World) : (ReflectliteValue.mk 161 p ReflectliteValue.flagAddr).run Tryz.prog w = .ok (.agg #[.pointer (some ⟨9, 161, none⟩), .pointer (some p), .int .u64 409]) w := by kernel_rfl
theorem as_ev (a p : Addr) (W : World) (ha : W.cell? a = some (.pointer (some p))) : (ReflectliteValue.method (ReflectliteValue.valueError "reflectlite.Value.Elem" 0) ReflectliteValue.elem #[.agg #[.pointer (some ⟨9, 172, none⟩), .pointer (some a), .int .u64 150]]).run Tryz.prog W = .ok (.agg #[.pointer (some ⟨9, 161, none⟩), .pointer (some p), .int .u64 409]) W := by
  rw [zRp]
  simp only [Sem.run_bind, as_pp, Result.andThen]
  simp [ReflectliteValue.elem, loadVar, isAgg, underlying, Tryz.underlying172, ha, Result.andThen, as_eo, zSM]
theorem zSQ (v x : Value) : ReflectliteValue.set #[v, x] = (do
    let (some (dst, a, fl), some (src, b, _)) := (← ReflectliteValue.parts v, ← ReflectliteValue.parts x)
      | unsupported (.noEntry "extern/(internal/reflectlite.Value).Set.zeroValue")
    if fl / ReflectliteValue.flagAddr % 2 == 0 then unsupported (.noEntry "extern/(internal/reflectlite.Value).Set.unaddressable")
    let val ← loadVar src b
    if ← Rtype.directlyAssignable dst src then storeVar dst a val
    else if ← Rtype.implements dst src then
      if (← Rtype.kind src) == 20 then
        match val with
        | .nilIface => unsupported (.noEntry "extern/reflectlite: a nil value of one interface type handed on as a value of another")
        | _ => storeVar dst a val
      else storeVar dst a (.iface src val)
    else panicString ("reflectlite.Set: value of type " ++ (← Rtype.spelt src) ++ " is not assignable to type " ++ (← Rtype.spelt dst))
    pure (.tuple #[])) := rfl
theorem zSO (a : Addr) (w : World) : (ReflectliteValue.parts (.agg #[.pointer (some ⟨9, 161, none⟩), .pointer (some a), .int .u64 409])).run Tryz.prog w = .ok (some (161, a, 409)) w := by kernel_rfl
theorem zSP (a : Addr) (w : World) : (ReflectliteValue.parts (.agg #[.pointer (some ⟨9, 161, none⟩), .pointer (some a), .int .u64 153])).run Tryz.prog w = .ok (some (161, a, 153)) w := by kernel_rfl
theorem as_dr (w : World) : (Rtype.directlyAssignable 161 161).run Tryz.prog w = .ok true w := by kernel_rfl
theorem as_sz (w : World) : (sizeOf 161).run Tryz.prog w = .ok 1 w := by kernel_rfl
theorem as_ag (w : World) : (isAgg 161).run Tryz.prog w = .ok true w := by kernel_rfl
theorem zSR (t b : Addr) (n : Int) (old : Value) (W : World) (hb : W.cell? b = some (.int .i64 n)) (ht : W.cell? t = some old) (hf : W.frozen? t = false) :
    (ReflectliteValue.set #[.agg #[.pointer (some ⟨9, 161, none⟩), .pointer (some t), .int .u64 409], .agg #[.pointer (some ⟨9, 161, none⟩), .pointer (some b), .int .u64 153]]).run Tryz.prog W = .ok (.tuple #[]) (W.setCell t (.int .i64 n)) := by
  rw [zSQ]
  simp only [Sem.run_bind, zSO, zSP, Result.andThen]
  simp [ReflectliteValue.flagAddr, loadVar, as_ag, as_sz, loadCells, loadCellsFrom, Addr.add, hb, Result.andThen, as_dr, storeVar, Value.cells, storeCells]
  rw [run_store Tryz.prog W t _ _ (by rfl)]
  simp [ht, hf]
set_option maxHeartbeats 4000000 in
theorem zSL (n : Int) (t : Addr) (old : Value) (w : World) (hg : w.cell? ⟨0, 0, none⟩ = some (.iface 238 (.agg #[.pointer (some ⟨9, 116, none⟩)]))) (ht0 : w.cell? t = some old) (hf0 : w.frozen? t = false) :
    Calls Tryz.prog 126 #[.iface 161 (.agg #[.int .i64 n]), .iface 172 (.pointer (some t))] w fun ev w' => ev = .returned (.bool true) ∧ w' = ((((w.alloc (.cells #[.pointer (some t)] 172)).alloc (.cells #[.pointer (some ⟨9, 172, none⟩), .pointer (some ⟨w.heap.size, 0, none⟩), .int .u64 150] 206)).alloc (.cells #[.pointer (some ⟨9, 172, none⟩), .pointer (some ⟨w.heap.size, 0, none⟩), .int .u64 150] 206)).alloc (.cells #[.int .i64 n] 161)).setCell t (.int .i64 n) := by
  have h6 := @run_callFunc_extern Tryz.prog 171 _ (fun args => ReflectliteValue.unpack (args.getD 0 (.tuple #[]))) Tryz.func171 (by kernel_rfl) (by kernel_rfl) (by kernel_rfl) (by kernel_rfl)
  have h7 := @run_callFunc_extern Tryz.prog 172 _ (ReflectliteValue.methodAny (ReflectliteValue.valueError "reflectlite.Value.Type" 0) (fun t _ _ _ => ReflectliteType.toType t)) Tryz.func172 (by kernel_rfl) (by kernel_rfl) (by kernel_rfl) (by kernel_rfl)
  have h8 := @run_callFunc_extern Tryz.prog 173 _ (ReflectliteValue.method (ReflectliteValue.valueError "reflectlite.Value.IsNil" 0) ReflectliteValue.isNil) Tryz.func173 (by kernel_rfl) (by kernel_rfl) (by kernel_rfl) (by kernel_rfl)
  have h27 := @run_callFunc_extern Tryz.prog 260 _ (ReflectliteType.abiMethod fun t => do pure (.int .u8 (← Rtype.kind t))) Tryz.func260 (by kernel_rfl) (by kernel_rfl) (by kernel_rfl) (by kernel_rfl)
  have h37 := @run_callFunc_extern Tryz.prog 273 _ (ReflectliteType.method ReflectliteType.elem) Tryz.func273 (by kernel_rfl) (by kernel_rfl) (by kernel_rfl) (by kernel_rfl)
  have h38 := @run_callFunc_extern Tryz.prog 274 _ (ReflectliteType.relation "Implements" ReflectliteType.implements_) Tryz.func274 (by kernel_rfl) (by kernel_rfl) (by kernel_rfl) (by kernel_rfl)
  have h10 := @run_callFunc_extern Tryz.prog 206 _ ReflectliteType.typeOf Tryz.func206 (by kernel_rfl) (by kernel_rfl) (by kernel_rfl) (by kernel_rfl)
  have h35 := @run_callFunc_extern Tryz.prog 271 _ (ReflectliteType.relation "AssignableTo" ReflectliteType.assignableTo) Tryz.func271 (by kernel_rfl) (by kernel_rfl) (by kernel_rfl) (by kernel_rfl)
  have h11 := @run_callFunc_extern Tryz.prog 207 _ (ReflectliteValue.method (ReflectliteValue.valueError "reflectlite.Value.Elem" 0) ReflectliteValue.elem) Tryz.func207 (by kernel_rfl) (by kernel_rfl) (by kernel_rfl) (by kernel_rfl)
  have h12 := @run_callFunc_extern Tryz.prog 208 _ ReflectliteValue.set Tryz.func208 (by kernel_rfl) (by kernel_rfl) (by kernel_rfl) (by kernel_rfl)
  have tO := as_to
  have mA := as_ma
  have aR := as_ar
  have vR := as_vr
  have f6 := as_vp
  have f7 := zSS
  have mK := as_mk
  have mE := as_me
  have mI := as_mi
  have kP := as_kp
  have kR := as_kr
  have eP := as_ep
  have iR := as_ir
  have n8 := zQd ⟨w.heap.size, 0, none⟩ t ((w.alloc (.cells #[.pointer (some t)] 172)).alloc (.cells #[.pointer (some ⟨9, 172, none⟩), .pointer (some ⟨w.heap.size, 0, none⟩), .int .u64 150] 206)) (by simp)
  have hlt : 0 < w.heap.size := by
    rcases Nat.lt_or_ge 0 w.heap.size with h | h
    · exact h
    · simp [World.cell?, Array.getElem?_eq_none h] at hg
  have hg2 : ((w.alloc (.cells #[.pointer (some t)] 172)).alloc (.cells #[.pointer (some ⟨9, 172, none⟩), .pointer (some ⟨w.heap.size, 0, none⟩), .int .u64 150] 206)).cell? ⟨0, 0, none⟩ = some (.iface 238 (.agg #[.pointer (some ⟨9, 116, none⟩)])) := by
    rw [World.cell?_alloc_lt _ _ ⟨0, 0, none⟩ (by simp), World.cell?_alloc_lt _ _ ⟨0, 0, none⟩ hlt]; exact hg
  have htl : t.block < w.heap.size := by
    rcases Nat.lt_or_ge t.block w.heap.size with h | h
    · exact h
    · simp [World.cell?, Array.getElem?_eq_none h] at ht0
  have el := as_ev ⟨w.heap.size, 0, none⟩ t (((w.alloc (.cells #[.pointer (some t)] 172)).alloc (.cells #[.pointer (some ⟨9, 172, none⟩), .pointer (some ⟨w.heap.size, 0, none⟩), .int .u64 150] 206)).alloc (.cells #[.pointer (some ⟨9, 172, none⟩), .pointer (some ⟨w.heap.size, 0, none⟩), .int .u64 150] 206)) (by rw [World.cell?_alloc_lt _ _ ⟨w.heap.size, 0, none⟩ (by simp; omega)]; simp)
  have st := zSR t ⟨w.heap.size + 1 + 1 + 1, 0, none⟩ n old ((((w.alloc (.cells #[.pointer (some t)] 172)).alloc (.cells #[.pointer (some ⟨9, 172, none⟩), .pointer (some ⟨w.heap.size, 0, none⟩), .int .u64 150] 206)).alloc (.cells #[.pointer (some ⟨9, 172, none⟩), .pointer (some ⟨w.heap.size, 0, none⟩), .int .u64 150] 206)).alloc (.cells #[.int .i64 n] 161))
    (by rw [World.cell?_alloc_at _ _ _ _ (by simp)]; rfl)
    (by rw [World.cell?_alloc_lt _ _ t (by simp; omega), World.cell?_alloc_lt _ _ t (by simp; omega), World.cell?_alloc_lt _ _ t (by simp; omega), World.cell?_alloc_lt _ _ t htl]; exact ht0)
    (by rw [World.frozen?_alloc_old _ _ t (by simp; omega), World.frozen?_alloc_old _ _ t (by simp; omega), World.frozen?_alloc_old _ _ t (by simp; omega), World.frozen?_alloc_old _ _ t (Nat.ne_of_lt htl)]; exact hf0)
  go_enter Tryz.func126, Tryz.ntmps126
  go_wp2
  refine wp_loop_rounds 1 ?_
  rw [rounds_succ]
  go_wp2
  go_ret
  exact ⟨rfl, rfl⟩
end Go.Proofs.YtlgkplnifaoeeaaGreatDoor
namespace Go.Proofs.YtlgkplnifaoeeaaGreatDoor
open Go.RowKit Go.VS
set_option maxRecDepth 20000
theorem et_rt : (Tryz.prog.cutTypes.find? (·.1 == "internal/reflectlite.rtype")).map (·.2) = some 238 := by kernel_rfl
theorem zS0 : ((List.range 318).filter fun t => Tryz.prog.rowNamed t [101, 114, 114, 111, 114]) = [116] := by kernel_rfl
theorem zR7 : Tryz.prog.types.size = 318 := by kernel_rfl
theorem et_g : Tryz.prog.globalNamed "errors.errorType" = some 0 := by kernel_rfl
theorem zR6 {w : World} (h : Gd Tryz.prog w) : w.cell? ⟨0, 0, none⟩ = some (.iface 238 (.agg #[.pointer (some ⟨9, 116, none⟩)])) := by
  obtain ⟨u, ty, e2, e3, e4, e5⟩ := h.typ _ et_g
  obtain rfl := Option.some.inj (et_rt.symm.trans e2)
  have hm : ty ∈ (List.range 318).filter fun t => Tryz.prog.rowNamed t [101, 114, 114, 111, 114] := List.mem_filter.2 ⟨List.mem_range.2 (by rw [← zR7]; exact e3), e4⟩
  rw [zS0] at hm
  obtain rfl := List.mem_singleton.1 hm
  have hh : typeHandle Tryz.prog 116 = .pointer (some ⟨9, 116, none⟩) := by kernel_rfl
  rw [hh] at e5
  simpa using World.var?_cell et_g e5 0
theorem zRY (n : Int) (t : Addr) (old : Value) (w : World) (hgd : Gd Tryz.prog w) (ht0 : w.cell? t = some old) (hf0 : w.frozen? t = false) :
    Calls Tryz.prog 126 #[.iface 161 (.agg #[.int .i64 n]), .iface 172 (.pointer (some t))] w fun ev w' => ev = .returned (.bool true) ∧ w'.cell? t = some (.int .i64 n) ∧ Keep (fun k => k = t.block) w w' := by
  refine (zSL n t old w (zR6 hgd) ht0 hf0).mono ?_
  rintro e w' ⟨rfl, rfl⟩
  have htl : t.block < w.heap.size := by
    rcases Nat.lt_or_ge t.block w.heap.size with h | h
    · exact h
    · simp [World.cell?, Array.getElem?_eq_none h] at ht0
  refine ⟨rfl, World.cell?_setCell_same _ t _ (u := old) ?_, ?_⟩
  · rw [World.cell?_alloc_lt _ _ t (by simp; omega), World.cell?_alloc_lt _ _ t (by simp; omega), World.cell?_alloc_lt _ _ t (by simp; omega), World.cell?_alloc_lt _ _ t htl]; exact ht0
  · have k4 : Keep (fun k => k = t.block) w ((((w.alloc (.cells #[.pointer (some t)] 172)).alloc (.cells #[.pointer (some ⟨9, 172, none⟩), .pointer (some ⟨w.heap.size, 0, none⟩), .int .u64 150] 206)).alloc (.cells #[.pointer (some ⟨9, 172, none⟩), .pointer (some ⟨w.heap.size, 0, none⟩), .int .u64 150] 206)).alloc (.cells #[.int .i64 n] 161)) :=
      ⟨rfl, rfl, rfl, by simp; omega, fun k hk _ => by
        rw [Below.heap_alloc _ _ k (by simp; omega), Below.heap_alloc _ _ k (by simp; omega), Below.heap_alloc _ _ k (by simp; omega), Below.heap_alloc _ _ k hk]⟩
    refine k4.step (M := fun k => k = t.block) ⟨rfl, rfl, rfl, ?_, fun k hk hne => ?_⟩ (fun b hb _ => hb)
    · simp [World.setCell]
    · exact Below.heap_setCell _ _ _ k hne
set_option maxHeartbeats 2000000 in
theorem zMI (n : Int) (w : World) (hg : Gd Tryz.prog w) : Calls Tryz.prog 78 #[errV 161 n] w fun e w' => e = .returned (.int .i64 n) ∧ Keep (fun _ => False) w w' := by
  have hkA : Keep (fun _ => False) w (w.alloc (.cells #[.int .i64 0] 161)) := ⟨rfl, rfl, rfl, by simp, fun k hk _ => Below.heap_alloc w _ k hk⟩
  by_cases hn : n = 0
  · subst hn
    rw [show errV 161 0 = .nilIface from rfl]
    go_enter Tryz.func78, Tryz.ntmps78
    go_wp2_with (go_at_call 126; refine (zSN _ _).mono ?_; rintro e w' ⟨rfl, rfl⟩)
    go_ret
    exact ⟨rfl, hkA⟩
  · rw [show errV 161 n = .iface 161 (.agg #[.int .i64 n]) from if_neg hn]
    have hgA := hg.later hkA
    have hnew := heap_alloc_new w (.cells #[.int .i64 0] 161)
    have c0 : (w.alloc (.cells #[.int .i64 0] 161)).cell? ⟨w.heap.size, 0, none⟩ = some (.int .i64 0) := by simp only [World.cell?, hnew]; rfl
    have z0 : (w.alloc (.cells #[.int .i64 0] 161)).frozen? ⟨w.heap.size, 0, none⟩ = false := by simp only [World.frozen?, hnew]; rfl
    have hcall := zRY n ⟨w.heap.size, 0, none⟩ _ _ hgA c0 z0
    clear hnew c0 z0 hgA
    go_enter Tryz.func78, Tryz.ntmps78
    go_wp2_with (go_at_call 126; refine hcall.mono ?_; rintro e w' ⟨rfl, hc, hk⟩)
    go_ret
    exact ⟨rfl, hkA.step hk (fun b hb hlt => by have : b = w.heap.size := hb; omega)⟩
@[push_cast] def zIj : Con := ⟨[.dat (.err 161)], fun _ => True, fun (x : Int × Unit) => { res := [.val .int x.1] }⟩
theorem zOd : FnSpec Tryz.prog 78 zIj := by
  refine zBs ⟨_, Tryz.func78, by kernel_rfl, rfl⟩ (fun _ => rfl) (fun _ => rfl) fun C γ x vs hpre hen => ?_
  have hg := hen.ds.2.gd
  rw [hen.P] at hg
  have hargs := hen.args
  obtain ⟨(n : Int), _⟩ := x
  obtain ⟨v0, _, rfl, h0, rfl⟩ := hargs
  obtain rfl : v0 = errV 161 n := zLb h0
  refine (zMI n C.w0 hg).mono ?_
  rintro e w' ⟨rfl, hk⟩
  exact ⟨[_], rfl, ⟨_, [], rfl, ⟨[.int .i64 n], rfl, rfl⟩, rfl, rfl, rfl⟩, hk⟩
end Go.Proofs.YtlgkplnifaoeeaaGreatDoor
