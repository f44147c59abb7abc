/- slices.Grow of nil, slices.Concat. Conditions: in each contract. -/
import Derived.Test.YtogopoiohckpdaeSc
import Derived.Tactics2
import Derived.Test.YtogopoiohckpdaeV7
namespace Go.Proofs.Ytogopoiohckpdae
open Go.RowKit Go.VS Go.OT
set_option linter.unusedSimpArgs false
set_option linter.unusedVariables false

theorem run_append_zeros (n : Nat) (hn : 0 < n ∧ n ≤ 1000) (w : World) (ty : TypeId) : (Builtin.append_ #[22, 3] ty #[.slice none 0 0, .int .i64 n]).run Try.prog w =
    .ok (.slice (some ⟨w.heap.size, 0, none⟩) n (grownCap w n 0 3)) (w.drew.alloc (.cells (Builtin.zeroCells #[.int .i64 0] n ++ Builtin.zeroCells #[.int .i64 0] (grownCap w n 0 3 - n)) 3)) := by
  have h1 := run_underlying (P := Try.prog) Try.underlying22
  have h2 := run_underlying (P := Try.prog) Try.underlying3
  obtain ⟨i, z, hi, hs, hby, hz, hzc⟩ := tabOK.lang.info 3 .int shI
  have hs1 : i.size = 1 := hs
  have hai : ∀ w, (asInt (.int .i64 (n : Int))).run Try.prog w = .ok (n : Int) w := fun _ => rfl
  have hwr : IntKind.i64.wrap (n : Int) = n := IntWalk.i64_in _ (by omega)
  have hzz : z.cells = #[.int .i64 0] := by rw [← Array.toList_inj]; exact hzc
  have hb : ¬ (281474976710656 : Int) < (n : Int) * i.bytes := by
    have := Nat.mul_le_mul hn.2 hby
    have h3 : ((n * i.bytes : Nat) : Int) ≤ ((1000 * 1024 : Nat) : Int) := by omega
    rw [Int.natCast_mul] at h3
    omega
  have hb2 : ¬ 281474976710656 < n * i.bytes := by
    have := Nat.mul_le_mul hn.2 hby
    omega
  have h63 : ¬ (9223372036854775807 : Int) < n := by omega
  have hn0 : n ≠ 0 := by omega
  have hl : ¬ (n : Int) < 0 := by omega
  simp [Builtin.append_, h1, h2, sizeOf, typeInfo, zeroValue, hi, hai, hwr, hs1, hz, hzz, hb, hb2, h63, hn0, hl, nextslicecap_zero (show 0 < n by omega), Question.forced, run_firstCells_none, newRow, grownCap]

set_option maxRecDepth 20000 in
theorem grow_nil (n : Nat) (hn : 0 < n ∧ n ≤ 1000) (w : World) : Calls Try.prog 63 #[.slice none 0 0, .int .i64 n] w fun e w' =>
    e = .returned (.slice (some ⟨w.heap.size, 0, none⟩) 0 (grownCap w n 0 3)) ∧ w' = w.drew.alloc (.cells (Builtin.zeroCells #[.int .i64 0] n ++ Builtin.zeroCells #[.int .i64 0] (grownCap w n 0 3 - n)) 3) := by
  have hap := run_append_zeros n hn w 22
  have hwr : IntKind.i64.wrap (n : Int) = n := IntWalk.i64_in _ (by omega)
  go_enter Try.func63, Try.ntmps63
  have hb8 : Try.t3.bytes = 8 := by kernel_rfl
  have hns := nextslicecap_zero (show 0 < n by omega)
  go_wp2
  all_goals simp only [hb8, hns] at *
  all_goals first
    | (exfalso; omega)
    | (simp [bodyPost, results, Try.results63, go_sem]; exact ⟨rfl, rfl⟩)

theorem zeros_size (n : Nat) : (Builtin.zeroCells #[.int .i64 0] n).size = n := by simp [Builtin.zeroCells]
theorem tri_grow {C : Ctx} {N : Nat} {Q : Exit → AS → Prop} {s : AS} {E : Know} (hE : KnowOK C.P E) (hP : C.P = Try.prog) {id d x : Nat} {ats : Array TypeId} {ty : TypeId} {pos : String} {af : Array Edge} {L : List Oper} (n : Nat) (hnl : C.nl ≤ d)
    (hL : L = L.take n ++ ⟨some d, .call { callee := .value (.func 63), args := #[.const (.slice none 0 0), .tmp x], argTypes := ats }, ty, pos, af, none⟩ :: L.drop (n + 1)) (hd : allDst N L = true)
    (h : runK E C.nl L.toArray (L.take n) s fun s' => ∃ m : Int, s'.env x = .one (.val .int m) ∧ 0 < m ∧ m ≤ 1000 ∧
      runK E C.nl L.toArray (L.drop (n + 1)) (((s'.map (killR d)).setRoot d (some (.flat 3 .int []))).put (some d) (.one (.ref d))) (Q .normal)) : tri C N (.region id L.toArray false) Q s := by
  refine ⟨fun γ a w hr hN => ?_⟩
  have hd' : ∀ (j : Nat) (o : Oper), L.toArray[j]? = some o → dstOK N o.dst = true := fun j o ho => allDst_spec (ops := L.toArray) (by simpa using hd) j o ho
  have hb := List.all_eq_true.1 hd
  have hdd : d < N := by
    have := hb ⟨some d, .call { callee := .value (.func 63), args := #[.const (.slice none 0 0), .tmp x], argTypes := ats }, ty, pos, af, none⟩ (by rw [hL]; simp)
    simpa [dstOK] using this
  refine wp_region_lit ?_
  have key := runK_then (N := N) (rest := ⟨some d, .call { callee := .value (.func 63), args := #[.const (.slice none 0 0), .tmp x], argTypes := ats }, ty, pos, af, none⟩ :: L.drop (n + 1)) hE (Q := fun e a' w' => ∃ s' γ', Rel C γ' s' a' w' ∧ a'.tmps.size = N ∧ Q e s') hd'
    (fun s' γ' a' w' h1 h2 h3 => ?_) (L.take n) s γ a w (fun o ho => hb o (List.mem_of_mem_take ho)) hN hr h
  · rw [← hL] at key
    exact key
  obtain ⟨m, k1, k2, k3, k4⟩ := h3
  have hx := h1.env x
  rw [k1] at hx
  obtain ⟨k, rfl⟩ : ∃ k : Nat, m = k := ⟨m.toNat, by omega⟩
  have hxv : a'.tmps.getD x undef = .int .i64 (k : Int) := rep_int hx
  have hcal : Callable C.P 63 := by rw [hP]; exact ⟨_, Try.func63, by kernel_rfl, rfl⟩
  refine wpList_step fun K' hK' => ?_
  simp only [Region.wanted, if_true]
  have e1 := exec_call hcal (ρ := a'.eval) (x := .func 63) (caps := #[]) rfl #[.const (.slice none 0 0), .tmp x] ats (some d) ty pos af none w'
  simp only [Oper.wp, e1, Oper.upon]
  have hargs : #[Operand.const (.slice none 0 0), .tmp x].map a'.eval ++ #[] = #[.slice none 0 0, .int .i64 (k : Int)] := by
    have hxv' := hxv
    simp only [Array.getD_eq_getD_getElem?] at hxv'
    simp [Act.eval, hxv']
  rw [hargs, hP]
  refine (grow_nil k (by omega) w').mono ?_
  rintro e w2 ⟨rfl, rfl⟩
  refine hK' _ _ ?_
  have hge := grownCap_ge w' k 0 3
  have hcm : grownCap w' k 0 3 ≤ maxLen := grownCap_le_maxLen w' k 0 3 (by unfold maxLen; omega)
  obtain ⟨W, hW⟩ : ∃ W, W = w'.drew.alloc (.cells (Builtin.zeroCells #[.int .i64 0] k ++ Builtin.zeroCells #[.int .i64 0] (grownCap w' k 0 3 - k)) 3) := ⟨_, rfl⟩
  rw [← hW]
  have hheap : W.heap[w'.heap.size]? = some (.cells (Builtin.zeroCells #[.int .i64 0] k ++ Builtin.zeroCells #[.int .i64 0] (grownCap w' k 0 3 - k)) 3 (0, 0)) := by
    rw [hW]; exact heap_alloc_new w'.drew _
  have hgr : w'.grownBy W none := by
    rw [hW]
    exact ⟨rfl, rfl, rfl, by simp, fun k hk _ => Below.heap_alloc w'.drew _ k hk⟩
  let X : Sl := ⟨some ⟨w'.heap.size, 0, none⟩, 0, grownCap w' k 0 3⟩
  have hXb : ∀ b, X.v.ownBlock = some b → b = w'.heap.size ∧ b < W.heap.size := fun b hb => by
    simp only [X, Sl.v, Value.ownBlock, Option.some.injEq] at hb
    subst hb
    exact ⟨rfl, (Array.getElem?_eq_some_iff.1 hheap).1⟩
  have hrel : Rel C (newGam γ' d X (γ'.rs d) w'.heap.size) ((s'.map (killR d)).setRoot d (some (.flat 3 .int []))) a' W := by
    refine rel_new h1 hnl X (γ'.rs d) hgr hXb ⟨rfl, ?_, ?_⟩
    · rw [newGam_hd]
      exact ⟨rfl, .inr ⟨w'.heap.size, _, _, rfl, Nat.zero_le _, hheap, Nat.zero_le _, hcm, by rw [Array.size_append, zeros_size, zeros_size]; show k + (grownCap w' k 0 3 - k) = grownCap w' k 0 3 * 1; omega, rfl⟩⟩
    · rw [newGam_hd]
      exact newGam_own h1 (fun b hb => (hXb b hb).1)
  have hput := hrel.put (d := some d) (by simp [dstOK, h2, hdd]) (sv := .one (.ref d)) (v := X.v) (by simp only [svRep, bvRep]; rw [newGam_hd])
  exact runK_sound (N := N) hE hd' (fun s2 γ2 a2 w2 g1 g2 g3 => ⟨s2, γ2, g1, g2, g3⟩) (L.drop (n + 1)) _ _ _ _ (fun o ho => hb o (List.mem_of_mem_drop ho)) (by simp [Act.put, h2]) hput k4

structure CatP (l : List (List Int)) : Prop where
  n : l.length ≤ 10
  row : ∀ k, k < l.length → (l.getD k []).length ≤ 100
  pos : 0 < l.flatten.length
def catK (l : List (List Int)) (k : Nat) : List Int := (l.take k).flatten
theorem cat_succ {l : List (List Int)} {k : Nat} (h : k < l.length) : catK l (k + 1) = catK l k ++ l.getD k [] := by
  unfold catK
  rw [List.take_succ_eq_append_getElem h, List.flatten_append]
  simp [List.getD_eq_getElem?_getD, h]
theorem cat_all (l : List (List Int)) : catK l l.length = l.flatten := by simp [catK]
theorem CatP.le {l : List (List Int)} (h : CatP l) : ∀ k, k ≤ l.length → (catK l k).length ≤ 100 * k
  | 0, _ => by simp [catK]
  | k + 1, hk => by
    have := h.le k (by omega)
    have := h.row k (by omega)
    rw [cat_succ (by omega), List.length_append]
    omega
@[push_cast] def concatCon : Con := ⟨[.dat (.sl (.sl .int))], fun (x : List (List Int) × Unit) => CatP x.1, fun (x : List (List Int) × Unit) => { res := [.own (.flat 3 .int x.1.flatten)] }⟩


theorem concat_spec : FnSpec Try.prog 50 concatCon := by
  refine FnSpec.of_triP (E := know [] [] [] []) (know_ok all_nil all_nil all_nil) Try.func50 rfl rfl (by kernel_rfl) ?_
  intro C x hP hE hnl hfit hpre
  simp only [Try.ntmps50, Try.results50, maxLen, Nat.reduceSub, Nat.reducePow, Nat.reduceAdd, Int.cast_ofNat_Int, push_cast] at hnl hfit hpre ⊢
  obtain ⟨(l : List (List Int)), _⟩ := x
  dsimp only at hfit hpre ⊢
  have hl10 := hpre.n
  have hle := hpre.le
  have hpos := hpre.pos
  have hall := cat_all l
  repeat' (first|(refine goK (by assumption) ?_; iterate 4 (try clear hK K))|(refine tri_seqk fun K hK => ?_)|((first|refine tri_region hE rfl ?_|refine tri_ret ?_); simp +contextual only [hnl, ↓kN, ↓kP, ↓kG, ↓qN, ↓qP, ↓qG, push_cast, Int.reduceEq, Int.reduceLT, Int.reduceLE, Int.reduceNeg, Nat.reduceLT, Nat.reduceLeDiff, Int.reduceToNat, Int.cast_ofNat_Int, Nat.reduceBEq, Nat.reduceMul, Nat.reduceEqDiff, reduceCtorEq, Nat.reduceAdd])|refine tri_block ?_|((first|refine tri_skip ?_|refine tri_exit ?_); simp only [thenQ, blockQ, if_true, if_false, Nat.reduceEqDiff, reduceCtorEq])|(refine tri_cond (by rfl) (fun hb => ?_) (fun hb => ?_) <;> (try simp only [decide_eq_true_eq, decide_eq_false_iff_not, Bool.not_eq_true', Bool.not_eq_false', reduceCtorEq, Bool.true_eq_false, Bool.false_eq_true] at hb) <;> (try omega))|refine tri_unk (by rfl) ?_ ?_|refine And.intro (by first|omega|(unfold InR; omega)|assumption|decide|exact ⟨_, _, rfl⟩) ?_|(refine ⟨fun hc => ?_, fun hc => ?_⟩)|(intro hc; try omega))
  refine tri_loopI (fun k : Nat => AS.of [(0, .one (.val (.sl (.sl .int)) l)), (2, .one .nils), (3, .I (catK l k).length), (9, .one (.val (.sl (.sl .int)) l)), (10, .I l.length), (11, .I k)] [] []) (fun k => k ≤ l.length) (fun k => l.length - k) 0 (Nat.zero_le _) ?_ ?_
  · refine weak_of ?_ ?_ ?_ <;> simp only [push_cast, Int.reduceEq, Int.reduceLT, Int.reduceLE, Int.reduceNeg, Nat.reduceLT, Nat.reduceLeDiff, Int.reduceToNat, Int.cast_ofNat_Int, Nat.reduceBEq, Nat.reduceMul, Nat.reduceEqDiff, reduceCtorEq, Nat.reduceAdd]
    rfl
  intro k hk K' hL
  rcases Nat.lt_or_ge k l.length with hkl | hkl
  · have hs := congrArg List.length (cat_succ hkl)
    rw [List.length_append] at hs
    have h1 := hle k hk
    have h2 := hpre.row k hkl
    repeat' (first|(refine goK (by assumption) ?_; iterate 4 (try clear hK K))|(refine tri_seqk fun K hK => ?_)|((first|refine tri_region hE rfl ?_|refine tri_ret ?_); simp +contextual only [hnl, ↓kN, ↓kP, ↓kG, ↓qN, ↓qP, ↓qG, push_cast, Int.reduceEq, Int.reduceLT, Int.reduceLE, Int.reduceNeg, Nat.reduceLT, Nat.reduceLeDiff, Int.reduceToNat, Int.cast_ofNat_Int, Nat.reduceBEq, Nat.reduceMul, Nat.reduceEqDiff, reduceCtorEq, Nat.reduceAdd])|refine tri_block ?_|((first|refine tri_skip ?_|refine tri_exit ?_); simp only [thenQ, blockQ, if_true, if_false, Nat.reduceEqDiff, reduceCtorEq])|(refine tri_cond (by rfl) (fun hb => ?_) (fun hb => ?_) <;> (try simp only [decide_eq_true_eq, decide_eq_false_iff_not, Bool.not_eq_true', Bool.not_eq_false', reduceCtorEq, Bool.true_eq_false, Bool.false_eq_true] at hb) <;> (try omega))|refine tri_unk (by rfl) ?_ ?_|refine And.intro (by first|omega|(unfold InR; omega)|assumption|decide|exact ⟨_, _, rfl⟩) ?_|(refine ⟨fun hc => ?_, fun hc => ?_⟩)|(intro hc; try omega))
    refine hL _ (k + 1) (by omega) (by omega) ?_
    refine weak_of ?_ ?_ ?_ <;> simp only [push_cast, Int.reduceEq, Int.reduceLT, Int.reduceLE, Int.reduceNeg, Nat.reduceLT, Nat.reduceLeDiff, Int.reduceToNat, Int.cast_ofNat_Int, Nat.reduceBEq, Nat.reduceMul, Nat.reduceEqDiff, reduceCtorEq, Nat.reduceAdd]
    rw [hs]
    exact (Int.natCast_add _ _).symm
  · obtain rfl : k = l.length := by omega
    have h1 := hle _ hk
    have h2 : 0 < (catK l l.length).length := by rw [hall]; exact hpos
    repeat' (first|((refine tri_grow hE hP 1 (by omega) rfl rfl ?_; simp only [List.length_cons, List.length_nil, Nat.reduceAdd, Nat.reduceSub, List.take_succ_cons, List.take_zero, List.drop_succ_cons, List.drop_zero]; simp +contextual only [hnl, ↓kN, ↓kP, ↓kG, ↓qN, ↓qP, ↓qG, push_cast, Int.reduceEq, Int.reduceLT, Int.reduceLE, Int.reduceNeg, Nat.reduceLT, Nat.reduceLeDiff, Int.reduceToNat, Int.cast_ofNat_Int, Nat.reduceBEq, Nat.reduceMul, Nat.reduceEqDiff, reduceCtorEq, Nat.reduceAdd]))|first|(refine goK (by assumption) ?_; iterate 4 (try clear hK K))|(refine tri_seqk fun K hK => ?_)|((first|refine tri_region hE rfl ?_|refine tri_ret ?_); simp +contextual only [hnl, ↓kN, ↓kP, ↓kG, ↓qN, ↓qP, ↓qG, push_cast, Int.reduceEq, Int.reduceLT, Int.reduceLE, Int.reduceNeg, Nat.reduceLT, Nat.reduceLeDiff, Int.reduceToNat, Int.cast_ofNat_Int, Nat.reduceBEq, Nat.reduceMul, Nat.reduceEqDiff, reduceCtorEq, Nat.reduceAdd])|refine tri_block ?_|((first|refine tri_skip ?_|refine tri_exit ?_); simp only [thenQ, blockQ, if_true, if_false, Nat.reduceEqDiff, reduceCtorEq])|(refine tri_cond (by rfl) (fun hb => ?_) (fun hb => ?_) <;> (try simp only [decide_eq_true_eq, decide_eq_false_iff_not, Bool.not_eq_true', Bool.not_eq_false', reduceCtorEq, Bool.true_eq_false, Bool.false_eq_true] at hb) <;> (try omega))|refine tri_unk (by rfl) ?_ ?_|refine And.intro (by first|omega|(unfold InR; omega)|assumption|decide|exact ⟨_, _, rfl⟩) ?_|(refine ⟨fun hc => ?_, fun hc => ?_⟩)|(intro hc; try omega))
    refine ⟨_, rfl, by omega, by omega, ?_⟩
    repeat' (first|(refine goK (by assumption) ?_; iterate 4 (try clear hK K))|(refine tri_seqk fun K hK => ?_)|((first|refine tri_region hE rfl ?_|refine tri_ret ?_); simp +contextual only [hnl, ↓kN, ↓kP, ↓kG, ↓qN, ↓qP, ↓qG, push_cast, Int.reduceEq, Int.reduceLT, Int.reduceLE, Int.reduceNeg, Nat.reduceLT, Nat.reduceLeDiff, Int.reduceToNat, Int.cast_ofNat_Int, Nat.reduceBEq, Nat.reduceMul, Nat.reduceEqDiff, reduceCtorEq, Nat.reduceAdd])|refine tri_block ?_|((first|refine tri_skip ?_|refine tri_exit ?_); simp only [thenQ, blockQ, if_true, if_false, Nat.reduceEqDiff, reduceCtorEq])|(refine tri_cond (by rfl) (fun hb => ?_) (fun hb => ?_) <;> (try simp only [decide_eq_true_eq, decide_eq_false_iff_not, Bool.not_eq_true', Bool.not_eq_false', reduceCtorEq, Bool.true_eq_false, Bool.false_eq_true] at hb) <;> (try omega))|refine tri_unk (by rfl) ?_ ?_|refine And.intro (by first|omega|(unfold InR; omega)|assumption|decide|exact ⟨_, _, rfl⟩) ?_|(refine ⟨fun hc => ?_, fun hc => ?_⟩)|(intro hc; try omega))
    refine tri_loopI (fun k : Nat => AS.of [(2, .one .nils), (6, .one (.ref 24)), (25, .one (.val (.sl (.sl .int)) l)), (26, .I l.length), (27, .I k)] [(24, .flat 3 .int (catK l k))] []) (fun k => k ≤ l.length) (fun k => l.length - k) 0 (Nat.zero_le _) ?_ ?_
    · refine weak_of ?_ ?_ ?_ <;> simp only [push_cast, Int.reduceEq, Int.reduceLT, Int.reduceLE, Int.reduceNeg, Nat.reduceLT, Nat.reduceLeDiff, Int.reduceToNat, Int.cast_ofNat_Int, Nat.reduceBEq, Nat.reduceMul, Nat.reduceEqDiff, reduceCtorEq, Nat.reduceAdd]
      exact .inl rfl
    intro k hk2 K2 hL2
    rcases Nat.lt_or_ge k l.length with hkl | hkl
    · have hs := cat_succ hkl
      have h3 := hle k hk2
      have h4 := hpre.row k hkl
      repeat' (first|(refine goK (by assumption) ?_; iterate 4 (try clear hK K))|(refine tri_seqk fun K hK => ?_)|((first|refine tri_region hE rfl ?_|refine tri_ret ?_); simp +contextual only [hnl, ↓kN, ↓kP, ↓kG, ↓qN, ↓qP, ↓qG, push_cast, Int.reduceEq, Int.reduceLT, Int.reduceLE, Int.reduceNeg, Nat.reduceLT, Nat.reduceLeDiff, Int.reduceToNat, Int.cast_ofNat_Int, Nat.reduceBEq, Nat.reduceMul, Nat.reduceEqDiff, reduceCtorEq, Nat.reduceAdd])|refine tri_block ?_|((first|refine tri_skip ?_|refine tri_exit ?_); simp only [thenQ, blockQ, if_true, if_false, Nat.reduceEqDiff, reduceCtorEq])|(refine tri_cond (by rfl) (fun hb => ?_) (fun hb => ?_) <;> (try simp only [decide_eq_true_eq, decide_eq_false_iff_not, Bool.not_eq_true', Bool.not_eq_false', reduceCtorEq, Bool.true_eq_false, Bool.false_eq_true] at hb) <;> (try omega))|refine tri_unk (by rfl) ?_ ?_|refine And.intro (by first|omega|(unfold InR; omega)|assumption|decide|exact ⟨_, _, rfl⟩) ?_|(refine ⟨fun hc => ?_, fun hc => ?_⟩)|(intro hc; try omega))
      rw [← hs]
      refine hL2 _ (k + 1) (by omega) (by omega) ?_
      refine weak_of ?_ ?_ ?_ <;> simp only [push_cast, Int.reduceEq, Int.reduceLT, Int.reduceLE, Int.reduceNeg, Nat.reduceLT, Nat.reduceLeDiff, Int.reduceToNat, Int.cast_ofNat_Int, Nat.reduceBEq, Nat.reduceMul, Nat.reduceEqDiff, reduceCtorEq, Nat.reduceAdd]
      done
    · obtain rfl : k = l.length := by omega
      repeat' (first|(refine goK (by assumption) ?_; iterate 4 (try clear hK K))|(refine tri_seqk fun K hK => ?_)|((first|refine tri_region hE rfl ?_|refine tri_ret ?_); simp +contextual only [hnl, ↓kN, ↓kP, ↓kG, ↓qN, ↓qP, ↓qG, push_cast, Int.reduceEq, Int.reduceLT, Int.reduceLE, Int.reduceNeg, Nat.reduceLT, Nat.reduceLeDiff, Int.reduceToNat, Int.cast_ofNat_Int, Nat.reduceBEq, Nat.reduceMul, Nat.reduceEqDiff, reduceCtorEq, Nat.reduceAdd])|refine tri_block ?_|((first|refine tri_skip ?_|refine tri_exit ?_); simp only [thenQ, blockQ, if_true, if_false, Nat.reduceEqDiff, reduceCtorEq])|(refine tri_cond (by rfl) (fun hb => ?_) (fun hb => ?_) <;> (try simp only [decide_eq_true_eq, decide_eq_false_iff_not, Bool.not_eq_true', Bool.not_eq_false', reduceCtorEq, Bool.true_eq_false, Bool.false_eq_true] at hb) <;> (try omega))|refine tri_unk (by rfl) ?_ ?_|refine And.intro (by first|omega|(unfold InR; omega)|assumption|decide|exact ⟨_, _, rfl⟩) ?_|(refine ⟨fun hc => ?_, fun hc => ?_⟩)|(intro hc; try omega))
      rw [hall]
end Go.Proofs.Ytogopoiohckpdae
