import Derived.Test.YtlgkplnifaoeeaaGreatDoorJ14
set_option linter.unusedSimpArgs false
set_option linter.unusedVariables false
namespace Go.Proofs.YtlgkplnifaoeeaaGreatDoor
open Go.RowKit Go.VS
theorem zNg {w : World} {Z : Nat → Prop} (s : Sh) (x : s.T) (cs : List Value) (h : pers w Z s x cs) : pers w (fun b => Z b ∧ b < w.heap.size) s x cs :=
  zAs (Nat.le_refl _) (fun b hb hz => ⟨⟨hz, hb⟩, rfl⟩) s x cs h
theorem zIa {w : World} {Z : Nat → Prop} {s : Sh} {x : s.T} {v : Value} (h : vrep w Z s x v) : vrep w (fun b => Z b ∧ b < w.heap.size) s x v :=
  let ⟨cs, h1, h2⟩ := h
  ⟨cs, zNg s x cs h1, h2⟩
theorem zHO {a : Act} {d : Nat} {v : Value} (hd : d < a.tmps.size) : (a.put (some d) v).tmps.getD d undef = v := by rw [zIC hd, if_pos rfl]
theorem zCU {a : Act} {d i : Nat} {v u : Value} (hd : d < a.tmps.size) (hi : i ≠ d) (h : a.tmps.getD i undef = u) : (a.put (some d) v).tmps.getD i undef = u := by rw [zIC hd, if_neg hi]; exact h
theorem zEA {P : Program} {ops : Array Oper} {rest : List Oper} {o : Oper} {a : Act} {w w' : World} {Q : Exit → Act → World → Prop} {v : Value} (hg : o.guard = none) (hrun : (execOp a.eval o).run P w = .ok (.value v) w') (h : wpList P ops Q rest (a.put o.dst v) w') : wpList P ops Q (o :: rest) a w := by
  refine wpList_plain hg fun K' hK' => ?_
  unfold Oper.wp
  rw [hrun]
  exact hK' _ _ h
theorem zNN {P : Program} {ops : Array Oper} {rest : List Oper} {o : Oper} {a : Act} {w w' : World} {Q : Exit → Act → World → Prop} (hg : o.guard = none) (hrun : (execOp a.eval o).run P w = .ok .skip w') (h : wpList P ops Q rest (a.put o.dst undef) w') : wpList P ops Q (o :: rest) a w := by
  refine wpList_plain hg fun K' hK' => ?_
  unfold Oper.wp
  rw [hrun]
  exact hK' _ _ h
set_option maxHeartbeats 4000000 in
theorem zSs {C : Ctx} {E : Know} {s : AS} {Q : Exit → AS → Prop} (hP : C.P = Tryz.prog) (hE : KnowOK C.P E) (hG : E.G = tab.lang) {id1 id2 : Nat} {at1 at2 : Array TypeId} {t1 t2 t3 t4 t5 t6 t7 t8 t9 t10 t11 : TypeId} {p1 p2 p3 p4 p5 p6 p7 p8 p9 p10 p11 : String} {e1 e2 e3 e4 e5 e6 e7 e8 e9 e10 e11 : Array Edge} {rest rest2 : Code}
    {k : Nat} {l : List Int} {t : ByteArray} {f c : List (List Int)} {ma mb : List Int} {wst : Int} {ord : List ByteArray} {bk : ByteArray} (hnl : C.nl ≤ 8) (h0 : s.env 0 = .one (.box 0)) (hs1 : s.env 1 = .one (.val .str t)) (h5 : s.env 5 = .one (.val .int (k : Int))) (h6 : s.env 6 = .one (.val (.sl .int) l))
    (hb : s.boxes 0 = some (.rcd [.raw (.int .i32 1), .raw (.int .u32 0), .val (.sl (.sl .int)) f, .val (.sl (.sl .int)) c, .val (.sl .int) ma, .val (.sl .int) mb, .val .int wst, .mk 0 9 .str ord, .val .str bk])) (hsz : StateSz (c, ma, mb, wst)) (hpre : DoPre k l (c, ma, mb, wst))
    (hrest : ∀ S : AS, S.env 0 = .one (.box 0) → S.env 1 = .one (.val .str t) → S.env 8 = .one (.box 8) → S.env 9 = .one (.val (.err 161) (doV k l (c, ma, mb, wst)).1) →
      S.boxes 0 = some (.rcd [.raw (.int .i32 1), .raw (.int .u32 0), .val (.sl (.sl .int)) f, .val (.sl (.sl .int)) c, .val (.sl .int) ma, .val (.sl .int) mb, .val .int wst, .mk 0 9 .str ord, .val .str bk]) →
      S.boxes 8 = some (.rcd [.val (.sl (.sl .int)) (doV k l (c, ma, mb, wst)).2.1, .val (.sl .int) (doV k l (c, ma, mb, wst)).2.2.1, .val (.sl .int) (doV k l (c, ma, mb, wst)).2.2.2.1, .val .int (doV k l (c, ma, mb, wst)).2.2.2.2]) → tri C 72 rest (thenQ (tri C 72 rest2 Q) Q) S) :
    tri C 72 (.seq (.region id1 #[⟨some 35, .move (.tmp 0), t1, p1, e1, none⟩, ⟨some 36, .nilCheck (.tmp 35), t2, p2, e2, none⟩, ⟨some 37, .fieldAddr 113 (.tmp 36) 2, t3, p3, e3, none⟩, ⟨some 38, .load 103 (.tmp 37), t4, p4, e4, none⟩, ⟨some 39, .call { callee := .value (.func 74), args := #[.tmp 38], argTypes := at1 }, t5, p5, e5, none⟩, ⟨some 8, .alloc 103, t6, p6, e6, none⟩, ⟨none, .store 103 (.tmp 8) (.tmp 39), t7, p7, e7, none⟩] false) (.seq (.seq (.region id2 #[⟨some 40, .move (.tmp 5), t8, p8, e8, none⟩, ⟨some 41, .move (.tmp 6), t9, p9, e9, none⟩, ⟨some 42, .call { callee := .value (.func 79), args := #[.tmp 8, .tmp 40, .tmp 41], argTypes := at2 }, t10, p10, e10, none⟩, ⟨some 9, .assign (.tmp 42), t11, p11, e11, none⟩] false) rest) rest2)) Q s := by
  refine ⟨fun γ a w hr hN => ?_⟩
  have hd : zDI 72 [⟨some 35, .move (.tmp 0), t1, p1, e1, none⟩, ⟨some 36, .nilCheck (.tmp 35), t2, p2, e2, none⟩, ⟨some 37, .fieldAddr 113 (.tmp 36) 2, t3, p3, e3, none⟩, ⟨some 38, .load 103 (.tmp 37), t4, p4, e4, none⟩, ⟨some 39, .call { callee := .value (.func 74), args := #[.tmp 38], argTypes := at1 }, t5, p5, e5, none⟩, ⟨some 8, .alloc 103, t6, p6, e6, none⟩, ⟨none, .store 103 (.tmp 8) (.tmp 39), t7, p7, e7, none⟩] = true := rfl
  have hd' := fun (j : Nat) (o : Oper) (ho : (List.toArray [_, _, _, _, _, _, _])[j]? = some o) => zBl (ops := List.toArray [_, _, _, _, _, _, _]) (by simpa using hd) j o ho
  refine wp_seq (wp_region_lit (l := [_, _, _, _, _, _, _]) ?_)
  refine runK_then hE [_, _, _] hd' (K := fun s' => s' = (((s.put (some 35) (.one (.box 0))).put (some 36) (.one (.box 0))).put (some 37) (.one (.boxf 0 5 2 3))).put (some 38) (.one (.val stSh (c, ma, mb, wst)))) ?_ [_, _, _, _] s γ a w ?_ hN hr ?_
  rotate_left
  · intro o ho
    refine List.all_eq_true.1 hd o ?_
    simp only [List.mem_cons, List.not_mem_nil, or_false] at ho ⊢
    rcases ho with rfl | rfl | rfl | rfl <;> simp
  · simp only [↓kP, ↓kN, hG, h0, hb, push_cast, seval, reduceCtorEq, Int.cast_ofNat_Int]
  rintro s' γ1 a1 W r1 hN1 rfl
  refine wpList_step fun K' hK' => ?_
  simp only [Region.wanted, if_true]
  have hgW : Gd Tryz.prog W := by
    have := r1.defers.2.at r1.keep
    rwa [hP] at this
  have hv38 : vrep W (C.zn γ1) stSh (c, ma, mb, wst) (a1.eval (.tmp 38)) := zAl r1 (.tmp 38)
  have hv5 : a1.tmps.getD 5 undef = .int .i64 (k : Int) := by
    have := r1.env 5
    rw [zBK _ (by decide), zBK _ (by decide), zBK _ (by decide), zBK _ (by decide), h5] at this
    exact zAA this
  have hv6 : vrep W (C.zn γ1) (.sl .int) l (a1.tmps.getD 6 undef) := by
    have := r1.env 6
    rw [zBK _ (by decide), zBK _ (by decide), zBK _ (by decide), zBK _ (by decide), h6] at this
    exact this
  unfold Oper.wp
  have hcc : zA6 C.P 74 := by rw [hP]; exact stClone_spec.callable
  rw [zDT hcc (caps := #[]) rfl]
  simp only [Oper.upon]
  rw [hP]
  have ea : (#[Operand.tmp 38].map a1.eval ++ #[] : Array Value) = #[a1.eval (.tmp 38)] := by simp
  rw [ea]
  refine (zOc hgW (fun b => C.zn γ1 b ∧ b < W.heap.size) hsz (zIa hv38)).mono ?_
  rintro en w1 ⟨v, rfl, hcl⟩
  refine hK' _ _ ?_
  have hkc := hcl.keep
  have r2 : Rel C γ1 _ (a1.put (some 39) v) W := r1.put (d := some 39) (by rw [hN1]; rfl) (sv := .one .any) trivial
  have hN2 : (a1.put (some 39) v).tmps.size = 72 := by rw [zCn]; exact hN1
  have g39 : (a1.put (some 39) v).tmps.getD 39 undef = v := zHO (by omega)
  have g5 : (a1.put (some 39) v).tmps.getD 5 undef = .int .i64 (k : Int) := zCU (by omega) (by decide) hv5
  obtain ⟨v6, hv6e⟩ : ∃ v6, a1.tmps.getD 6 undef = v6 := ⟨_, rfl⟩
  have g6 : (a1.put (some 39) v).tmps.getD 6 undef = v6 := zCU (by omega) (by decide) hv6e
  rw [hv6e] at hv6
  generalize a1.put (some 39) v = a2 at r2 hN2 g39 g5 g6 ⊢
  obtain ⟨i0, z, hi0, hs0, _, hz, hzc⟩ := hE.lang.info 103 stSh (by rw [hG]; rfl)
  refine zEA rfl (v := .pointer (some ⟨w1.heap.size, 0, none⟩)) (w' := w1.alloc (.cells z.cells 103)) ?_ ?_
  · refine run_v ?_
    simp only [Instr.alloc, Sem.run_bind, zeroValue, typeInfo]
    simp [hi0, hz, newVar, newRow, newObj, Sem.run]
  have hzl : z.cells.toList.length = 4 := by rw [hzc, zAq]; rfl
  have r3 : Rel C γ1 _ (a2.put (some 8) (.pointer (some ⟨w1.heap.size, 0, none⟩))) W := r2.put (d := some 8) (by rw [hN2]; rfl) (sv := .one .any) trivial
  have hN3 : (a2.put (some 8) (.pointer (some ⟨w1.heap.size, 0, none⟩))).tmps.size = 72 := by rw [zCn]; exact hN2
  have q8 : (a2.put (some 8) (.pointer (some ⟨w1.heap.size, 0, none⟩))).tmps.getD 8 undef = .pointer (some ⟨w1.heap.size, 0, none⟩) := zHO (by omega)
  have q39 : (a2.put (some 8) (.pointer (some ⟨w1.heap.size, 0, none⟩))).tmps.getD 39 undef = v := zCU (by omega) (by decide) g39
  have q5 : (a2.put (some 8) (.pointer (some ⟨w1.heap.size, 0, none⟩))).tmps.getD 5 undef = .int .i64 (k : Int) := zCU (by omega) (by decide) g5
  have q6 : (a2.put (some 8) (.pointer (some ⟨w1.heap.size, 0, none⟩))).tmps.getD 6 undef = v6 := zCU (by omega) (by decide) g6
  generalize a2.put (some 8) (.pointer (some ⟨w1.heap.size, 0, none⟩)) = a3 at r3 hN3 q8 q39 q5 q6 ⊢
  have hcell1 : (w1.alloc (.cells z.cells 103)).heap[w1.heap.size]? = some (.cells z.cells 103 (0, 0)) := heap_alloc_new w1 _
  have hkA : Keep (fun _ => False) w1 (w1.alloc (.cells z.cells 103)) := ⟨rfl, rfl, rfl, by simp, fun k hk _ => Below.heap_alloc w1 _ k hk⟩
  obtain ⟨γc, hvv, hc27, hc8, hc11, hcl4⟩ := hcl.h
  have hvc : v.cells.toList = [γc.hd 27, γc.hd 8, γc.hd 11, .int .i64 wst] := by rw [hvv]; rfl
  obtain ⟨w2, hst, hgr, hcur⟩ := zDz (C := C) (w := w1.alloc (.cells z.cells 103)) (t := 103) (i := i0) hi0 (g := w1.heap.size) (o := 0) (v := v) hcell1 (by rw [hs0, ← Array.length_toList, hvc]; rfl) (by rw [hvc, ← Array.length_toList, hzl]; simp) (by rw [hvc]; intro u hu; simp only [List.mem_cons, List.not_mem_nil, or_false] at hu; rcases hu with rfl | rfl | rfl | rfl <;> rfl)
  have hcur2 : w2.heap[w1.heap.size]? = some (.cells #[γc.hd 27, γc.hd 8, γc.hd 11, .int .i64 wst] 103 (0, 0)) := by
    rw [hcur, hvc]
    have hdz : z.cells.toList.drop (0 + [γc.hd 27, γc.hd 8, γc.hd 11, Value.int .i64 wst].length) = [] := List.drop_of_length_le (by rw [hzl]; simp)
    rw [hdz]
    simp
  have hk12 : Keep (fun _ => False) w1 w2 := hkA.step (M := fun g => g = w1.heap.size) ⟨hgr.os, hgr.tape, hgr.output, hgr.size, fun g hg hne => hgr.block g hg (fun e => hne (by simpa using e))⟩ (fun g hg hlt => by omega)
  have e8 : a3.eval (.tmp 8) = .pointer (some ⟨w1.heap.size, 0, none⟩) := q8
  have e39 : a3.eval (.tmp 39) = v := q39
  refine zNN rfl (w' := w2) (zBX (by rw [e8, e39]; exact hst)) (wpList_nil ?_)
  show (Code.seq _ _).wp C.P _ a3 w2
  refine wp_seq (wp_seq (wp_region_lit (l := [_, _, _, _]) ?_))
  refine zEA rfl (v := .int .i64 (k : Int)) (w' := w2) (by show Result.ok (Next.value (a3.tmps.getD 5 undef)) w2 = _; rw [q5]) ?_
  have r4 : Rel C γ1 _ (a3.put (some 40) (.int .i64 (k : Int))) W := r3.put (d := some 40) (by rw [hN3]; rfl) (sv := .one .any) trivial
  have hN4 : (a3.put (some 40) (.int .i64 (k : Int))).tmps.size = 72 := by rw [zCn]; exact hN3
  have m40 : (a3.put (some 40) (.int .i64 (k : Int))).tmps.getD 40 undef = .int .i64 (k : Int) := zHO (by omega)
  have m8 : (a3.put (some 40) (.int .i64 (k : Int))).tmps.getD 8 undef = .pointer (some ⟨w1.heap.size, 0, none⟩) := zCU (by omega) (by decide) q8
  have m6 : (a3.put (some 40) (.int .i64 (k : Int))).tmps.getD 6 undef = v6 := zCU (by omega) (by decide) q6
  show wpList C.P _ _ _ (a3.put (some 40) (.int .i64 (k : Int))) w2
  generalize a3.put (some 40) (.int .i64 (k : Int)) = a4 at r4 hN4 m40 m8 m6 ⊢
  refine zEA rfl (v := v6) (w' := w2) (by show Result.ok (Next.value (a4.tmps.getD 6 undef)) w2 = _; rw [m6]) ?_
  have r5 : Rel C γ1 _ (a4.put (some 41) v6) W := r4.put (d := some 41) (by rw [hN4]; rfl) (sv := .one .any) trivial
  have hN5 : (a4.put (some 41) v6).tmps.size = 72 := by rw [zCn]; exact hN4
  have x41 : (a4.put (some 41) v6).tmps.getD 41 undef = v6 := zHO (by omega)
  have x40 : (a4.put (some 41) v6).tmps.getD 40 undef = .int .i64 (k : Int) := zCU (by omega) (by decide) m40
  have x8 : (a4.put (some 41) v6).tmps.getD 8 undef = .pointer (some ⟨w1.heap.size, 0, none⟩) := zCU (by omega) (by decide) m8
  show wpList C.P _ _ _ (a4.put (some 41) v6) w2
  generalize a4.put (some 41) v6 = a5 at r5 hN5 x41 x40 x8 ⊢
  refine wpList_step fun K5 hK5 => ?_
  simp only [Region.wanted, if_true]
  unfold Oper.wp
  have hcd : zA6 C.P 79 := by rw [hP]; exact ⟨_, Tryz.func79, by kernel_rfl, rfl⟩
  rw [zDT hcd (caps := #[]) rfl]
  simp only [Oper.upon]
  rw [hP]
  have ea : (#[Operand.tmp 8, .tmp 40, .tmp 41].map a5.eval ++ #[] : Array Value) = #[.pointer (some ⟨w1.heap.size, 0, none⟩), .int .i64 (k : Int), v6] := by
    simp [Act.eval, x8, x40, x41]
  rw [ea]
  have hkW2 : Keep (fun _ => False) W w2 := hkc.step hk12 (fun _ hf => hf.elim)
  have hg2 : Gd Tryz.prog w2 := hgW.later hkW2
  have hl2 : vrep w2 (fun b => C.zn γ1 b ∧ b < W.heap.size) (.sl .int) l v6 := by
    obtain ⟨cs, h1, h2⟩ := zIa hv6
    exact ⟨cs, zAs hkW2.size (fun b hb hz => ⟨hz, hkW2.block b hb (fun h => h)⟩) _ _ _ h1, h2⟩
  refine (zSV hcl hg2 hgW.size (nb := w1.heap.size) (t := 103) (Nat.le_refl _) (fun g hg => hg.2) hk12 ⟨_, hvv, hcur2⟩ k l hpre hl2).mono ?_
  rintro en w3 ⟨rfl, hdn⟩
  refine hK5 _ _ ?_
  have r6 : Rel C γ1 _ (a5.put (some 42) (errV 161 (doV k l (c, ma, mb, wst)).1)) W := r5.put (d := some 42) (by rw [hN5]; rfl) (sv := .one .any) trivial
  have hN6 : (a5.put (some 42) (errV 161 (doV k l (c, ma, mb, wst)).1)).tmps.size = 72 := by rw [zCn]; exact hN5
  have y42 : (a5.put (some 42) (errV 161 (doV k l (c, ma, mb, wst)).1)).tmps.getD 42 undef = errV 161 (doV k l (c, ma, mb, wst)).1 := zHO (by omega)
  have y8 : (a5.put (some 42) (errV 161 (doV k l (c, ma, mb, wst)).1)).tmps.getD 8 undef = .pointer (some ⟨w1.heap.size, 0, none⟩) := zCU (by omega) (by decide) x8
  generalize a5.put (some 42) (errV 161 (doV k l (c, ma, mb, wst)).1) = a6 at r6 hN6 y42 y8 ⊢
  refine zEA rfl (v := errV 161 (doV k l (c, ma, mb, wst)).1) (w' := w3) (by show Result.ok (Next.value (a6.tmps.getD 42 undef)) w3 = _; rw [y42]) (wpList_nil ?_)
  have r7 : Rel C γ1 _ (a6.put (some 9) (errV 161 (doV k l (c, ma, mb, wst)).1)) W := r6.put (d := some 9) (by rw [hN6]; rfl) (sv := .one .any) trivial
  have hN7 : (a6.put (some 9) (errV 161 (doV k l (c, ma, mb, wst)).1)).tmps.size = 72 := by rw [zCn]; exact hN6
  have z9 : (a6.put (some 9) (errV 161 (doV k l (c, ma, mb, wst)).1)).tmps.getD 9 undef = errV 161 (doV k l (c, ma, mb, wst)).1 := zHO (by omega)
  have z8 : (a6.put (some 9) (errV 161 (doV k l (c, ma, mb, wst)).1)).tmps.getD 8 undef = .pointer (some ⟨w1.heap.size, 0, none⟩) := zCU (by omega) (by decide) y8
  show rest.wp C.P _ (a6.put (some 9) (errV 161 (doV k l (c, ma, mb, wst)).1)) w3
  generalize a6.put (some 9) (errV 161 (doV k l (c, ma, mb, wst)).1) = a7 at r7 hN7 z9 z8 ⊢
  obtain ⟨hkD, cs, tt, c1, c2, v1, v2, v3, c3, k1, k2, k3⟩ := hdn
  have hkW3 : Keep (fun _ => False) W w3 := hkW2.step hkD (fun g hg hlt => absurd hlt (by have hg' : W.heap.size ≤ g := hg; omega))
  have hzone : ∀ b, ((C.zn γ1 b ∧ b < W.heap.size) ∨ W.heap.size ≤ b) ∧ b ≠ w1.heap.size → C.zn (zAz γ1 8 w1.heap.size) b := fun b hb => by
    obtain ⟨h1, h2⟩ := hb
    have hown : (zAz γ1 8 w1.heap.size).own b = γ1.own b := by simp only [zAz]; rw [if_neg h2]
    rcases h1 with ⟨h1, _⟩ | h1
    · exact ⟨h1.1, by rw [hown]; exact h1.2⟩
    · refine ⟨.inr (.inl (Nat.le_trans r7.keep.size h1)), ?_⟩
      rw [hown]
      cases ho : γ1.own b with
      | none => rfl
      | some lo => have := r7.ownlt b lo ho; omega
  have hbox := zPF r7 8 hnl (nb := w1.heap.size) hkc.size hkW3 c1 (sv := .rcd [.val (.sl (.sl .int)) (doV k l (c, ma, mb, wst)).2.1, .val (.sl .int) (doV k l (c, ma, mb, wst)).2.2.1, .val (.sl .int) (doV k l (c, ma, mb, wst)).2.2.2.1, .val .int (doV k l (c, ma, mb, wst)).2.2.2.2])
    (by show zAm _ _ _ _ cs.toList; rw [c3]; exact ⟨v1, _, rfl, zAB hzone k1, v2, _, rfl, zAB hzone k2, v3, _, rfl, zAB hzone k3, _, _, rfl, ⟨_, rfl, rfl⟩, rfl⟩) c2
  have hk8 := hbox.know 8 (sv := .one (.box 8)) (by rw [z8]; simp [svRep, bvRep, zAz, upd])
  have hk9 := hk8.know 9 (sv := .one (.val (.err 161) (doV k l (c, ma, mb, wst)).1)) (by rw [z9]; exact ⟨_, rfl, rfl⟩)
  refine wp_mono ((hrest _ ?_ ?_ ?_ ?_ ?_ ?_).run _ _ _ hk9 hN7) ?_
  rotate_right
  · rintro e a' w' ⟨s', γ', h1, h2, h3⟩
    cases e with
    | normal => exact h3.run γ' a' w' h1 h2
    | _ => exact ⟨s', γ', h1, h2, h3⟩
  · simp only [h0, push_cast, seval, reduceCtorEq, Int.cast_ofNat_Int]
  · simp only [hs1, push_cast, seval, reduceCtorEq, Int.cast_ofNat_Int]
  · simp only [push_cast, seval, reduceCtorEq, Int.cast_ofNat_Int]
  · simp only [push_cast, seval, reduceCtorEq, Int.cast_ofNat_Int]
  · simp only [hb, push_cast, seval, reduceCtorEq, Int.cast_ofNat_Int]
  · simp only [push_cast, seval, reduceCtorEq, Int.cast_ofNat_Int]
end Go.Proofs.YtlgkplnifaoeeaaGreatDoor
