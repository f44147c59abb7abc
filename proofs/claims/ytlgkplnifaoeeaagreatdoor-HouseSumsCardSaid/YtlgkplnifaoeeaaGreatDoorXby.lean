import Derived.Test.YtlgkplnifaoeeaaGreatDoorY20
import Derived.Test.YtlgkplnifaoeeaaGreatDoorXcy
set_option linter.unusedSimpArgs false
set_option linter.unusedVariables false
namespace Go.Proofs.YtlgkplnifaoeeaaGreatDoor
open Go.ChangeShapes Go.WideShapes Go.ChangeAt Go.RowKit Go.VS
set_option maxRecDepth 100000 in
theorem zO7 (os : Os) (started : os.Started) (H : Type) (enc : TypeId × Value → H) :
    ReturnsInHanded {} Tryz.checked os 3 .any (fun w args => (Rows.houseSumsSpec.pre enc Tryz.prog Tryz.f3 Rows.houseSumsRow.domain false w args ∧ laidMetH Tryz.prog Rows.houseSumsRow.laid w) ∧ sizedMet enc Tryz.prog Tryz.f3 (OpenSpec.ofChange Rows.houseSumsSpec) false w args)
      (Rows.houseSumsSpec.post enc Tryz.prog Tryz.f3 false true false false) := by
  refine zC4 (C := Tryz.checked) (X := fun w _ => laidMetH Tryz.prog Rows.houseSumsRow.laid w) (fun _ _ _ hh h => h.of_heap hh) own started (by kernel_rfl) Tryz.func3
    (ChangeSpec.witness_shaped (enc := enc) (C := Tryz.checked) (os := os) (X := fun w _ => laidMetH Tryz.prog Rows.houseSumsRow.laid w) false (laidW os) #[.int .i64 0, .string ⟨#[]⟩, .string ⟨#[]⟩] 8 (zGn os)
      (zC0 os _) (by kernel_rfl) (by kernel_rfl) (by kernel_rfl) (zE9 os _)) ?_
  intro W base args ds gs before hval0 hW hL hsh
  have hval : ∀ (j : Nat) t v, Tryz.f3.params[j]? = some t → args[j]? = some v → Value.okWide Tryz.prog W .any base t v := hval0
  have hW' := hW
  obtain ⟨p, q, hA0, hV, rfl, hfz, hnd⟩ := hW
  have hA : DataW.TrodAll enc Tryz.prog W 0 (fun _ => true) true Tryz.f3.params.toList args.toList ds p := hA0
  rw [Tryz.params3] at hA hval
  obtain ⟨v0, vs0, d0, ds0, p0, q0, hargs, rfl, rfl, h0, r0⟩ := trodAll_cons hA
  obtain ⟨v1, vs1, d1, ds1, p1, q1, rfl, rfl, rfl, h1, r1⟩ := trodAll_cons r0
  obtain ⟨v2, vs2, d2, ds2, p2, q2, rfl, rfl, rfl, h2, r2⟩ := trodAll_cons r1
  obtain ⟨rfl, rfl, rfl⟩ := trodAll_nil r2
  obtain rfl : args = #[v0, v1, v2] := by cases args; simp_all
  obtain ⟨rfl, rfl⟩ := trodVars_none hV
  obtain ⟨y0, w0⟩ := zCe tabOK partsOK shI (hval 0 3 v0 rfl rfl) h0
  have lt0 : ∀ x ∈ p0, x.block < W.heap.size := by obtain ⟨m, hm⟩ := h0; exact DataW.trod_lt m _ _ _ hm
  obtain ⟨y1, w1⟩ := zCe tabOK partsOK shSt (hval 1 9 v1 rfl rfl) h1
  have lt1 : ∀ x ∈ p1, x.block < W.heap.size := by obtain ⟨m, hm⟩ := h1; exact DataW.trod_lt m _ _ _ hm
  obtain ⟨y2, w2⟩ := zCe tabOK partsOK shSt (hval 2 9 v2 rfl rfl) h2
  have lt2 : ∀ x ∈ p2, x.block < W.heap.size := by obtain ⟨m, hm⟩ := h2; exact DataW.trod_lt m _ _ _ hm
  clear hA0 hval0
  refine (zCw zNW W (zIy hL hsh) (fun _ => rfl) (y0, y1, y2, ()) [v0, v1, v2] rfl rfl trivial ⟨_, _, rfl, zAt (fun b _ => ⟨.inl trivial, rfl⟩) w0, ⟨_, _, rfl, zAt (fun b _ => ⟨.inl trivial, rfl⟩) w1, ⟨_, _, rfl, zAt (fun b _ => ⟨.inl trivial, rfl⟩) w2, rfl⟩⟩⟩ rfl).mono fun e W' ⟨he, bel⟩ => ?_
  subst he
  exact ⟨_, rfl, _, _, _, [], _, [], hW', trodAll_mk1 (shut_bool Tryz.underlying4 _), (trodAll_cons_mk (Below.trod zBZ (by kernel_rfl) (of_decide_eq_true (by kernel_rfl)) h0 bel lt0) (trodAll_cons_mk (Below.trod zBZ (by kernel_rfl) (of_decide_eq_true (by kernel_rfl)) h1 bel lt1) (trodAll_cons_mk (Below.trod zBZ (by kernel_rfl) (of_decide_eq_true (by kernel_rfl)) h2 bel lt2) trodAll_mk0))), rfl, bel.frame _, fun h => by cases h⟩
set_option maxHeartbeats 8000000 in
theorem zO6 : joinedFacts Tryz.prog 3 Tryz.f3 Rows.houseSumsSpec Rows.houseSumsRow = true :=
  zE8 (by as_aux_lemma => kernel_rfl) zBZ zMk (by as_aux_lemma => kernel_rfl) (by as_aux_lemma => kernel_rfl) (by as_aux_lemma => kernel_rfl) zIx (by as_aux_lemma => kernel_rfl) zIv (by as_aux_lemma => kernel_rfl) (by as_aux_lemma => kernel_rfl) (by as_aux_lemma => kernel_rfl) (by as_aux_lemma => kernel_rfl) (by as_aux_lemma => kernel_rfl) (by as_aux_lemma => kernel_rfl) (by as_aux_lemma => kernel_rfl) (by as_aux_lemma => kernel_rfl) (by as_aux_lemma => kernel_rfl) (by as_aux_lemma => kernel_rfl) (by as_aux_lemma => kernel_rfl) (by as_aux_lemma => kernel_rfl) (by as_aux_lemma => kernel_rfl) zMh (by as_aux_lemma => kernel_rfl) zIu zIs zIt zMj (by as_aux_lemma => kernel_rfl) (by as_aux_lemma => kernel_rfl) (by as_aux_lemma => kernel_rfl) (by as_aux_lemma => kernel_rfl)
theorem hs_named : Tryz.prog.funcNamed "drayage/drayagelaw09.HouseSums" = some 3 := by kernel_rfl
theorem zSm : Rows.HouseSumsSaid :=
  OpenClaim.holds_of_wide 3 Tryz.f3 rfl rfl rfl rfl rfl rfl rfl ⟨rfl, rfl, rfl, rfl, rfl⟩ rfl rfl rfl rfl rfl hs_named Tryz.func3 zO6
    (of_decide_eq_true (by as_aux_lemma => kernel_rfl)) (by as_aux_lemma => unfold Func.isWrapper; first | (rw [if_pos (by decide +kernel)]; kernel_rfl) | (rw [if_neg (by decide +kernel)]; exact ⟨rfl, rfl⟩))
    (fun os started H enc _ => zO7 os started H enc)
set_option maxHeartbeats 8000000 in
theorem hs_proved : Rows.HouseSumsCardSaid :=
  Claim7.holds_tied_plain_at .later [] [.data, .data, .data, .data, .handle, .sentinel, .sentinel, .pinned] true (true, "0146e591f237301b7053da96baa47155bf57fa013d55b738f4f6b2de920f81fe") true
    zSm (fun _ h => by cases h) (by as_aux_lemma => kernel_rfl) (fun _ h => by cases h) houseSums_row_tie rfl ⟨rfl, rfl⟩ zMi rfl
    (fun f fn hf hfn => by
      obtain rfl : f = 3 := Option.some.inj (hs_named.symm.trans hf) |>.symm
      obtain rfl : fn = Tryz.f3 := (Option.some.inj (Tryz.func3.symm.trans hfn)).symm
      exact ⟨zIw, fun j t ht => by
        rw [Tryz.params3] at ht
        have hm : t ∈ [3, 9, 9] := by simpa using Array.mem_of_getElem? ht
        have hall : ([3, 9, 9].all fun u => !Tryz.prog.wantsStandIn u) = true := (by as_aux_lemma => kernel_rfl)
        exact (show Tryz.prog.wantsStandIn t = false by simpa using List.all_eq_true.1 hall t hm)⟩)
    (by as_aux_lemma => kernel_rfl)
#print axioms hs_proved
end Go.Proofs.YtlgkplnifaoeeaaGreatDoor
