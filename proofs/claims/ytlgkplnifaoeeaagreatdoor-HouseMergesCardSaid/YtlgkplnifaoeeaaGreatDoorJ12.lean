import Derived.Test.YtlgkplnifaoeeaaGreatDoorJ11
import Derived.Test.YtlgkplnifaoeeaaGreatDoorJ8
import Derived.Test.YtlgkplnifaoeeaaGreatDoorJ4
import Derived.Carry
import Derived.ChangeMaps5
import Derived.MapKept
import Derived.Tactics2
set_option linter.unusedSimpArgs false
set_option linter.unusedVariables false
namespace Go.Proofs.YtlgkplnifaoeeaaGreatDoor
open Go.RowKit Go.VS
def nxOK (b : ByteArray) (s : Int) : Bool := zB9 b && decide (lineV s (zCT b) = zBf b)
def nxSum (b : ByteArray) (s : Int) : Int := sumV s (textV (numRV (zBv b)) (zA3 b))
def zAU : Nat → ByteArray → Int → List Line × ByteArray
  | 0, b, _ => ([], b)
  | n + 1, b, s => if nxOK b s = true then (zCT b :: (zAU n (rcut2 b 10) (nxSum b s)).1, (zAU n (rcut2 b 10) (nxSum b s)).2) else ([], b)
theorem zFC {n : Nat} {b : ByteArray} {s : Int} (h : nxOK b s = true) : zAU (n + 1) b s = (zCT b :: (zAU n (rcut2 b 10) (nxSum b s)).1, (zAU n (rcut2 b 10) (nxSum b s)).2) := if_pos h
theorem zBq {n : Nat} {b : ByteArray} {s : Int} (h : ¬ nxOK b s = true) : zAU n b s = ([], b) := by
  cases n with
  | zero => rfl
  | succ n => exact if_neg h
@[push_cast] def zIt : Con := ⟨[.dat .str], fun (x : ByteArray × Unit) => x.1.size ≤ 1000000, fun (x : ByteArray × Unit) => { res := [.own (.flat 85 (.prod .str .int) (zAU 60 x.1 0).1), .val .str (zAU 60 x.1 0).2] }⟩
set_option maxHeartbeats 1500000 in
theorem zHF : FnSpec Tryz.prog 85 zIt := by
  refine FnSpec.of_tri' (E := know [(130, zL9)] [] [] []) (zAn (all_cons zNe all_nil) all_nil all_nil) Tryz.func85 rfl rfl (by kernel_rfl) ?_
  intro C x hE hnl hfit hpre
  simp only [Tryz.ntmps85, Tryz.results85, maxLen, Nat.reduceSub, Nat.reducePow, Nat.reduceAdd, Int.cast_ofNat_Int, push_cast] at hnl hfit hpre ⊢
  obtain ⟨(book : ByteArray), _⟩ := x
  dsimp only at hfit hpre ⊢
  repeat' (first|(refine goK (by assumption) ?_; iterate 4 (try clear hK K))|(refine zAd fun K hK => ?_)|((first|refine zAb hE rfl ?_|refine zAh ?_|((first|refine zAa hE 1 rfl rfl (by kernel_rfl) ?_|refine zAa hE 2 rfl rfl (by kernel_rfl) ?_|refine zAa hE 3 rfl rfl (by kernel_rfl) ?_|refine zAa hE 4 rfl rfl (by kernel_rfl) ?_); simp only [List.length_cons, List.length_nil, Nat.reduceAdd, Nat.reduceSub, List.take_succ_cons, List.take_zero, List.drop_succ_cons, List.drop_zero])); simp +contextual only [hnl, ↓kN, ↓kP, ↓kG, ↓qN, ↓qP, ↓qG, push_cast, seval, reduceCtorEq, Int.cast_ofNat_Int])|refine zAc ?_|((first|refine zAg ?_|refine zAf ?_); simp only [thenQ, zAk, if_true, if_false, Nat.reduceEqDiff, reduceCtorEq])|(refine zAe (by rfl) (fun hb => ?_) (fun hb => ?_) <;> (try simp only [b1, b2, b3, b4, reduceCtorEq, b5, b6] at hb) <;> (try omega))|refine zAi (by rfl) ?_ ?_|refine andS ?_|(refine ⟨fun hc => ?_, fun hc => ?_⟩)|(intro hc; try omega))
  refine zAp (fun y : List Line × ByteArray × Int => AS.of [(0, .one (.val .str y.2.1)), (4, .one (.ref 26)), (5, .I y.2.2)] [(26, .flat 85 (.prod .str .int) y.1)] []) (fun y => y.1.length ≤ 60 ∧ y.2.1.size ≤ 1000000 ∧ zAU 60 book 0 = (y.1 ++ (zAU (60 - y.1.length) y.2.1 y.2.2).1, (zAU (60 - y.1.length) y.2.1 y.2.2).2)) (fun y => 60 - y.1.length) ([], book, 0) ⟨Nat.zero_le _, hpre, rfl⟩ ?_ ?_
  · refine zAj ?_ ?_ ?_ <;> simp only [push_cast, seval, reduceCtorEq, Int.cast_ofNat_Int]
    all_goals first | rfl | omega | exact ⟨by omega, rfl⟩
  rintro ⟨out, b, s⟩ ⟨h1, h2, h3⟩ K' hL
  dsimp only at h1 h2 h3 ⊢
  rcases Nat.lt_or_ge out.length 60 with h4 | h4
  · obtain ⟨m, hm⟩ : ∃ m, 60 - out.length = m + 1 := ⟨60 - out.length - 1, by omega⟩
    rw [hm] at h3
    cases hk : nxOK b s with
    | true =>
      rw [zFC hk] at h3
      have hg : zB9 b = true := by
        rw [nxOK, Bool.and_eq_true] at hk; exact hk.1
      have hk' : (zB9 b && decide (lineV s (zCT b) = zBf b)) = true := hk
      have hz := zDj b 10
      have hq : lineV s (zCT b) = zBf b := by
        have h5 := hk'
        rw [Bool.and_eq_true, decide_eq_true_eq] at h5
        exact h5.2
      replace hnl := And.intro hnl (And.intro hk' hg)
      repeat' (first|(refine goK (by assumption) ?_; iterate 4 (try clear hK K))|(refine zAd fun K hK => ?_)|((first|refine zAb hE rfl ?_|refine zAh ?_|((first|refine zAa hE 1 rfl rfl (by kernel_rfl) ?_|refine zAa hE 2 rfl rfl (by kernel_rfl) ?_|refine zAa hE 3 rfl rfl (by kernel_rfl) ?_|refine zAa hE 4 rfl rfl (by kernel_rfl) ?_); simp only [List.length_cons, List.length_nil, Nat.reduceAdd, Nat.reduceSub, List.take_succ_cons, List.take_zero, List.drop_succ_cons, List.drop_zero])); simp +contextual only [hnl, ↓kN, ↓kP, ↓kG, ↓qN, ↓qP, ↓qG, push_cast, seval, reduceCtorEq, Int.cast_ofNat_Int])|refine zAc ?_|((first|refine zAg ?_|refine zAf ?_); simp only [thenQ, zAk, if_true, if_false, Nat.reduceEqDiff, reduceCtorEq])|(refine zAe (by rfl) (fun hb => ?_) (fun hb => ?_) <;> (try simp only [b1, b2, b3, b4, reduceCtorEq, b5, b6] at hb) <;> (try omega))|refine zAi (by rfl) ?_ ?_|refine andS ?_|(refine ⟨fun hc => ?_, fun hc => ?_⟩)|(intro hc; try omega))
      · exact absurd hq hb
      refine hL _ (out ++ [zCT b], rcut2 b 10, nxSum b s) ⟨?_, ?_, ?_⟩ ?_ ?_
      · dsimp only; rw [List.length_append]; simp; omega
      · dsimp only; omega
      · dsimp only
        rw [h3, List.length_append, show 60 - (out.length + [zCT b].length) = m by simp; omega, List.append_assoc]
        rfl
      · dsimp only; rw [List.length_append]; simp; omega
      refine zAj ?_ ?_ ?_ <;> simp only [push_cast, seval, reduceCtorEq, Int.cast_ofNat_Int]
      rfl
    | false =>
      rw [zBq (n := m + 1) (b := b) (s := s) (by rw [hk]; decide), List.append_nil] at h3
      cases hg : zB9 b with
      | true =>
        have hd : decide (lineV s (zCT b) = zBf b) = false := by rw [nxOK, hg, Bool.true_and] at hk; exact hk
        replace hnl := And.intro hnl (And.intro hd (And.intro hg h3))
        repeat' (first|(refine goK (by assumption) ?_; iterate 4 (try clear hK K))|(refine zAd fun K hK => ?_)|((first|refine zAb hE rfl ?_|refine zAh ?_|((first|refine zAa hE 1 rfl rfl (by kernel_rfl) ?_|refine zAa hE 2 rfl rfl (by kernel_rfl) ?_|refine zAa hE 3 rfl rfl (by kernel_rfl) ?_|refine zAa hE 4 rfl rfl (by kernel_rfl) ?_); simp only [List.length_cons, List.length_nil, Nat.reduceAdd, Nat.reduceSub, List.take_succ_cons, List.take_zero, List.drop_succ_cons, List.drop_zero])); simp +contextual only [hnl, ↓kN, ↓kP, ↓kG, ↓qN, ↓qP, ↓qG, push_cast, seval, reduceCtorEq, Int.cast_ofNat_Int])|refine zAc ?_|((first|refine zAg ?_|refine zAf ?_); simp only [thenQ, zAk, if_true, if_false, Nat.reduceEqDiff, reduceCtorEq])|(refine zAe (by rfl) (fun hb => ?_) (fun hb => ?_) <;> (try simp only [b1, b2, b3, b4, reduceCtorEq, b5, b6] at hb) <;> (try omega))|refine zAi (by rfl) ?_ ?_|refine andS ?_|(refine ⟨fun hc => ?_, fun hc => ?_⟩)|(intro hc; try omega))
      | false =>
        replace hnl := And.intro hnl (And.intro hg h3)
        exact auB
  · rw [show 60 - out.length = 0 by omega] at h3
    have h3' : zAU 60 book 0 = (out, b) := by rw [h3]; show (out ++ [], b) = _; rw [List.append_nil]
    replace hnl := And.intro hnl h3'
    exact auB
end Go.Proofs.YtlgkplnifaoeeaaGreatDoor
namespace Go.Proofs.YtlgkplnifaoeeaaGreatDoor
open Go.RowKit Go.VS Go.ChangeMaps Go.MapKept
def formsL : List (ByteArray × Int × Int) := [(pPut, 0, 2), (pTake, 1, 2), (pWant, 2, 2), (pDrop, 3, 2), (pCost, 4, 3), (zTw, 5, 1), (zTv, 6, 1)]
structure MapAt (w0 w : World) (b : Nat) (l : List (ByteArray × Int × Int)) : Prop where
  new : w0.heap.size ≤ b
  keep : Keep (fun _ => False) w0 w
  at' : ∃ es clock, w.heap[b]? = some (.map es clock) ∧ MapIs es l
theorem zO4 (w : World) : MapAt w (w.alloc (.map #[] 0)) w.heap.size [] :=
  ⟨Nat.le_refl _, ⟨rfl, rfl, rfl, by simp, fun k hk _ => Below.heap_alloc w _ k hk⟩, #[], 0, heap_alloc_new w _, rfl⟩
theorem zSb {P : Program} {t k e : TypeId} (ht : P.underlying t = some (.map k e)) (hk : P.underlying k = some .string) {w0 w : World} {b : Nat} {l : List (ByteArray × Int × Int)} (h : MapAt w0 w b l) (s : ByteArray) (y : Int × Int) (hs : smHas l s = false) :
    ∃ w', (Instr.mapUpdate t (.map (some b)) (.string s) (.agg #[.int .i64 y.1, .int .i64 y.2])).run P w = .ok () w' ∧ MapAt w0 w' b (l ++ [(s, y)]) := by
  obtain ⟨h1, h2, es, cl, hb, hm⟩ := h
  have hck : (Instr.checkKey false 10000 k (.string s)).run P w = .ok () w := by rw [show (10000 : Nat) = 9999 + 1 from rfl]; unfold Instr.checkKey; simp only [Sem.run_bind, run_underlying hk, Result.andThen_ok, Sem.run_pure]
  have hf : Instr.findNow .string (.string s) es.toList 0 = some none := by
    rcases zEK s es.toList l 0 hm with ⟨h5, _⟩ | ⟨j, p, _, h6⟩
    · exact h5
    · rw [smHas, h6] at hs; cases hs
  have hfind : (Instr.findKey k (.string s) es.toList).run P w = .ok none w := by
    simp only [Instr.findKey, Sem.run_bind, run_underlying hk, Result.andThen_ok, hf, Sem.run_pure]
  refine ⟨setBlock w b (.map (es.push ⟨.string s, .agg #[.int .i64 y.1, .int .i64 y.2], cl⟩) (cl + 1)), ?_, h1, ?_, _, _, heap_setBlock_same hb _, ?_⟩
  · have hset : (setObj b (.map (es.push ⟨.string s, .agg #[.int .i64 y.1, .int .i64 y.2], cl⟩) (cl + 1))).run P w = .ok () (setBlock w b (.map (es.push ⟨.string s, .agg #[.int .i64 y.1, .int .i64 y.2], cl⟩) (cl + 1))) := by
      exact run_setObj_map _ hb
    simp only [Instr.mapUpdate, Sem.run_bind, run_underlying ht, Result.andThen_ok, run_getObj_map w b es cl hb, hck, hfind]
    exact hset
  · exact h2.step (M := fun k => k = b) ⟨rfl, rfl, rfl, by simp [setBlock], fun k hk hne => heap_setBlock_other hb _ hne⟩ (fun k hk hlt => by omega)
  · show ((es.push _).toList.map _) = _
    rw [Array.toList_push, List.map_append, List.map_append, hm]
    rfl
theorem zNM {P : Program} {ops : Array Oper} {rest : List Oper} {o : Oper} {a : Act} {w w0 : World} {Q : Exit → Act → World → Prop} (hg : o.guard = none) {t : TypeId} {mo x v : Operand} (hop : o.op = .insert t mo x v) {k e : TypeId}
    (ht : P.underlying t = some (.map k e)) (hk : P.underlying k = some .string) {b : Nat} {s : ByteArray} {n m : Int} {l : List (ByteArray × Int × Int)} (hm : a.eval mo = .map (some b)) (hx : a.eval x = .string s) (hv : a.eval v = .agg #[.int .i64 n, .int .i64 m])
    (h : MapAt w0 w b l) (hs : smHas l s = false) (K : ∀ w', MapAt w0 w' b (l ++ [(s, n, m)]) → wpList P ops Q rest (a.put o.dst undef) w') : wpList P ops Q (o :: rest) a w := by
  refine wpList_plain hg fun K' hK' => ?_
  obtain ⟨w', hrun, h'⟩ := zSb ht hk h s (n, m) hs
  unfold Oper.wp
  simp [execOp, hop, hm, hx, hv, hrun, Result.andThen]
  exact hK' _ _ (K w' h')
theorem zMV (n m : Int) (w : World) : (Instr.build 164 #[(0, .int .i64 n), (1, .int .i64 m)]).run Tryz.prog w = .ok (.agg #[.int .i64 n, .int .i64 m]) w := by kernel_rfl
set_option maxRecDepth 20000 in
set_option maxHeartbeats 1000000 in
theorem zKN (w : World) : Calls Tryz.prog 123 #[] w fun e w' => ∃ b, e = .returned (.map (some b)) ∧ MapAt w w' b formsL := by
  have h0 := zO4 w
  have hb := zMV
  have hmk := fun w => run_makeMap (P := Tryz.prog) 166 w
  go_enter Tryz.func123, Tryz.ntmps123
  go_wp2_with (refine zNM rfl rfl Tryz.underlying166 Tryz.underlying9 (b := w.heap.size) rfl rfl rfl (by assumption) (by decide +kernel) ?_; intro w' h0')
  go_ret
  exact ⟨_, rfl, by assumption⟩
@[push_cast] def zLV : Con := ⟨[], fun _ => True, fun _ => { res := [.val .smap formsL] }⟩
theorem zMW : FnSpec Tryz.prog 123 zLV := by
  refine zBs ⟨_, Tryz.func123, by kernel_rfl, rfl⟩ (fun _ => rfl) (fun _ => rfl) fun C γ x vs hpre hen => ?_
  have hlt := hen.ownlt
  have hargs := hen.args
  obtain rfl : vs = [] := hargs
  refine (zKN C.w0).mono ?_
  rintro e w' ⟨b, rfl, h1, h2, es, cl, hb, hm⟩
  refine ⟨[_], rfl, ⟨_, [], rfl, ⟨_, ⟨b, es, cl, rfl, ⟨.inr (.inl h1), ?_⟩, ?_, hb, hm⟩, rfl⟩, rfl, rfl, rfl⟩, h2⟩
  · cases ho : γ.own b with
    | none => rfl
    | some l => have := hlt b l ho; omega
  · exact (Array.getElem?_eq_some_iff.1 hb).1
end Go.Proofs.YtlgkplnifaoeeaaGreatDoor
namespace Go.Proofs.YtlgkplnifaoeeaaGreatDoor
open Go.RowKit Go.VS
theorem zBD {x y : Bool} (o : x = true → y = true) (h : y = false) : x = false := by
  cases x with
  | false => rfl
  | true => rw [o rfl] at h; cases h
structure StateSz (s : State) : Prop where
  c : s.1.length ≤ 1000
  row : ∀ k, k < s.1.length → (s.1.getD k []).length ≤ 1000
  a : s.2.1.length ≤ 1000
  b : s.2.2.1.length ≤ 1000
abbrev stSh : Sh := .prod (.sl (.sl .int)) (.prod (.sl .int) (.prod (.sl .int) .int))
def zCl (s : State) : AS := AS.of [(2, .one (.box 2))] [(27, .deep 25 3 .int s.1), (8, .flat 3 .int s.2.1), (11, .flat 3 .int s.2.2.1)] [(2, .rcd [.ref 27, .ref 8, .ref 11, .val .int s.2.2.2])]
def zIi (s : State) : AS := AS.of [(2, .one (.box 2))] [] [(2, .rcd [.val (.sl (.sl .int)) s.1, .val (.sl .int) s.2.1, .val (.sl .int) s.2.2.1, .val .int s.2.2.2])]
structure CloneQ (nl : Nat) (s : State) (e : Exit) (t : AS) : Prop where
  e : e = .normal ∨ e = .ret
  h : Weak nl t (zCl s)
set_option maxHeartbeats 4000000 in
theorem zIZ {C : Ctx} (hE : KnowOK C.P (know [(119, zE3)] [])) (hnl : C.nl = 0) (s : State) (hs : StateSz s) {code : Code} (hb : Tryz.f74.body = some code) :
    tri C 31 code (CloneQ 0 s) (AS.of [(0, .one (.val stSh s))] [] []) := by
  obtain ⟨c, a, b, w⟩ := s
  obtain ⟨hc, hrow, ha, hbl⟩ := hs
  dsimp only at *
  have hb' : code = (Tryz.f74.body).getD .skip := by rw [hb]; rfl
  subst hb'
  clear hb
  show tri C 31 _ _ _
  dsimp only [Tryz.f74]
  simp only [Option.getD_some]
  have hnl0 := hnl
  replace hnl := And.intro hnl (And.intro ha hbl)
  repeat' (first|(refine goK (by assumption) ?_; iterate 4 (try clear hK K))|(refine zAd fun K hK => ?_)|((first|refine zAb hE rfl ?_|refine zAh ?_); simp +contextual only [hnl, ↓kN, ↓kP, ↓kG, ↓qN, ↓qP, ↓qG, push_cast, seval, reduceCtorEq, Int.cast_ofNat_Int])|refine zAc ?_|((first|refine zAg ?_|refine zAf ?_); simp only [thenQ, zAk, if_true, if_false, Nat.reduceEqDiff, reduceCtorEq])|(refine zAe (by rfl) (fun hb => ?_) (fun hb => ?_) <;> (try simp only [b1, b2, b3, b4, reduceCtorEq, b5, b6] at hb) <;> (try omega))|refine zAi (by rfl) ?_ ?_|refine andS ?_|(refine ⟨fun hc => ?_, fun hc => ?_⟩)|(intro hc; try omega))
  refine zEV hE (fun D s => (D 8 = true → D 2 = true) ∧
    (D 8 = true → D 5 = true) ∧
    (D 10 = true → D 8 = true) ∧
    (D 10 = true → D 9 = true) ∧
    s.boxes 1 = some (.one (.val (.prod (.sl (.sl .int)) (.prod (.sl .int) (.prod (.sl .int) .int))) (c, a, b, w))) ∧
    s.boxes 2 = some (.rcd [.nils, .nils, .nils, .val .int 0]) ∧
    s.env 1 = .one (.box 1) ∧
    s.env 2 = .one (.box 2) ∧
    (D 2 = true → s.roots 8 = some (.flat 3 .int a)) ∧
    (D 5 = true → s.roots 11 = some (.flat 3 .int b)) ∧
    (D 0 = true → s.env 6 = .one (.boxf 1 4 1 1)) ∧
    (D 1 = true → s.env 7 = .one (.val (.sl .int) a)) ∧
    (D 2 = true → s.env 8 = .one (.ref 8)) ∧
    (D 3 = true → s.env 9 = .one (.boxf 1 4 2 2)) ∧
    (D 4 = true → s.env 10 = .one (.val (.sl .int) b)) ∧
    (D 5 = true → s.env 11 = .one (.ref 11)) ∧
    (D 6 = true → s.env 12 = .one (.boxf 1 4 3 3)) ∧
    (D 7 = true → s.env 13 = .one (.val .int w)) ∧
    (D 8 = true → s.env 14 = .rcd [.nils, .ref 8, .ref 11, .val .int w]) ∧
    (D 9 = true → s.env 3 = .one (.box 3)) ∧
    (D 9 = true → D 10 = false → s.boxes 3 = some (.rcd [.nils, .nils, .nils, .val .int 0])) ∧
    (D 10 = true → s.boxes 3 = some (.rcd [.nils, .ref 8, .ref 11, .val .int w]))) rfl (by kernel_rfl) ?_ ?_ ?_
  · dsimp only
    simp only [push_cast, seval, reduceCtorEq, Int.cast_ofNat_Int]
  · refine ⟨fun D s h0 hp hI => ?_, fun D s h0 hp hI => ?_, fun D s h0 hp hI => ?_, fun D s h0 hp hI => ?_, fun D s h0 hp hI => ?_, fun D s h0 hp hI => ?_, fun D s h0 hp hI => ?_, fun D s h0 hp hI => ?_, fun D s h0 hp hI => ?_, fun D s h0 hp hI => ?_, fun D s h0 hp hI => ?_, trivial⟩
    all_goals obtain ⟨o1, o2, o3, o4, q1, q2, e1, e2, r8, r11, f0, f1, f2, f3, f4, f5, f6, f7, f8, f9, g9, f10⟩ := hI
    all_goals replace hp := List.all_eq_true.1 hp
    · simp +contextual only [hnl, h0, o1, o2, o3, o4, q1, q2, e1, e2, r8, r11, f0, f1, f2, f3, f4, f5, f6, f7, f8, f9, g9, f10, setD, ↓kN, ↓kP, push_cast, seval, reduceCtorEq, Int.cast_ofNat_Int]
    · have d0 := hp 0 (by decide)
      simp +contextual only [d0, hnl, h0, o1, o2, o3, o4, q1, q2, e1, e2, r8, r11, f0, f1, f2, f3, f4, f5, f6, f7, f8, f9, g9, f10, setD, ↓kN, ↓kP, push_cast, seval, reduceCtorEq, Int.cast_ofNat_Int]
    · have d1 := hp 1 (by decide)
      have n8 := zBD o1 h0
      have n10 := zBD o3 n8
      simp +contextual only [d1, n8, n10, hnl, h0, o1, o2, o3, o4, q1, q2, e1, e2, r8, r11, f0, f1, f2, f3, f4, f5, f6, f7, f8, f9, g9, f10, setD, ↓kN, ↓kP, push_cast, seval, reduceCtorEq, Int.cast_ofNat_Int]
    · simp +contextual only [hnl, h0, o1, o2, o3, o4, q1, q2, e1, e2, r8, r11, f0, f1, f2, f3, f4, f5, f6, f7, f8, f9, g9, f10, setD, ↓kN, ↓kP, push_cast, seval, reduceCtorEq, Int.cast_ofNat_Int]
    · have d3 := hp 3 (by decide)
      simp +contextual only [d3, hnl, h0, o1, o2, o3, o4, q1, q2, e1, e2, r8, r11, f0, f1, f2, f3, f4, f5, f6, f7, f8, f9, g9, f10, setD, ↓kN, ↓kP, push_cast, seval, reduceCtorEq, Int.cast_ofNat_Int]
    · have d4 := hp 4 (by decide)
      have n8 := zBD o2 h0
      have n10 := zBD o3 n8
      simp +contextual only [d4, n8, n10, hnl, h0, o1, o2, o3, o4, q1, q2, e1, e2, r8, r11, f0, f1, f2, f3, f4, f5, f6, f7, f8, f9, g9, f10, setD, ↓kN, ↓kP, push_cast, seval, reduceCtorEq, Int.cast_ofNat_Int]
    · simp +contextual only [hnl, h0, o1, o2, o3, o4, q1, q2, e1, e2, r8, r11, f0, f1, f2, f3, f4, f5, f6, f7, f8, f9, g9, f10, setD, ↓kN, ↓kP, push_cast, seval, reduceCtorEq, Int.cast_ofNat_Int]
    · have d6 := hp 6 (by decide)
      simp +contextual only [d6, hnl, h0, o1, o2, o3, o4, q1, q2, e1, e2, r8, r11, f0, f1, f2, f3, f4, f5, f6, f7, f8, f9, g9, f10, setD, ↓kN, ↓kP, push_cast, seval, reduceCtorEq, Int.cast_ofNat_Int]
    · have d2 := hp 2 (by decide)
      have d5 := hp 5 (by decide)
      have d7 := hp 7 (by decide)
      have n10 := zBD o3 h0
      simp +contextual only [d2, d5, d7, n10, hnl, h0, o1, o2, o3, o4, q1, q2, e1, e2, r8, r11, f0, f1, f2, f3, f4, f5, f6, f7, f8, f9, g9, f10, setD, ↓kN, ↓kP, push_cast, seval, reduceCtorEq, Int.cast_ofNat_Int]
    · have n10 := zBD o4 h0
      simp +contextual only [n10, hnl, h0, o1, o2, o3, o4, q1, q2, e1, e2, r8, r11, f0, f1, f2, f3, f4, f5, f6, f7, f8, f9, g9, f10, setD, ↓kN, ↓kP, push_cast, seval, reduceCtorEq, Int.cast_ofNat_Int]
    · have d8 := hp 8 (by decide)
      have d9 := hp 9 (by decide)
      simp +contextual only [d8, d9, hnl, h0, o1, o2, o3, o4, q1, q2, e1, e2, r8, r11, f0, f1, f2, f3, f4, f5, f6, f7, f8, f9, g9, f10, setD, ↓kN, ↓kP, push_cast, seval, reduceCtorEq, Int.cast_ofNat_Int]
  intro D s hD hI
  obtain ⟨o1, o2, o3, o4, q1, q2, e1, e2, r8, r11, f0, f1, f2, f3, f4, f5, f6, f7, f8, f9, g9, f10⟩ := hI
  have v1 := r8 (hD 2 (by decide))
  have v2 := r11 (hD 5 (by decide))
  have v3 := f10 (hD 10 (by decide))
  have v4 := f9 (hD 9 (by decide))
  refine goK hK ?_
  refine zAE (t := AS.of [(1, .one (.box 1)), (2, .one (.box 2)), (3, .one (.box 3))] [(8, .flat 3 .int a), (11, .flat 3 .int b)] [(1, .one (.val stSh (c, a, b, w))), (2, .rcd [.nils, .nils, .nils, .val .int 0]), (3, .rcd [.nils, .ref 8, .ref 11, .val .int w])]) ?_ ?_
  · refine zAj ?_ ?_ ?_ <;> simp only [v1, v2, v3, v4, q1, q2, e1, e2, push_cast, seval, reduceCtorEq, Int.cast_ofNat_Int]
  clear hK hD
  repeat' (first|(refine goK (by assumption) ?_; iterate 4 (try clear hK K))|(refine zAd fun K hK => ?_)|((first|refine zAb hE rfl ?_|refine zAh ?_); simp +contextual only [hnl, ↓kN, ↓kP, ↓kG, ↓qN, ↓qP, ↓qG, push_cast, seval, reduceCtorEq, Int.cast_ofNat_Int])|refine zAc ?_|((first|refine zAg ?_|refine zAf ?_); simp only [thenQ, zAk, if_true, if_false, Nat.reduceEqDiff, reduceCtorEq])|(refine zAe (by rfl) (fun hb => ?_) (fun hb => ?_) <;> (try simp only [b1, b2, b3, b4, reduceCtorEq, b5, b6] at hb) <;> (try omega))|refine zAi (by rfl) ?_ ?_|refine andS ?_|(refine ⟨fun hc => ?_, fun hc => ?_⟩)|(intro hc; try omega))
  refine zAp (fun k : Nat => AS.of [(2, .one (.box 2)), (3, .one (.box 3)), (16, .one (.val (.sl (.sl .int)) c)), (17, .I (c.length : Nat)), (18, .I (k : Nat))] [(27, .deep 25 3 .int (c.take k)), (8, .flat 3 .int a), (11, .flat 3 .int b)] [(2, .rcd [.nils, .nils, .nils, .val .int 0]), (3, .rcd [.ref 27, .ref 8, .ref 11, .val .int w])]) (fun k => k ≤ c.length) (fun k => c.length - k) 0 (Nat.zero_le _) ?_ ?_
  · refine zAj ?_ ?_ ?_ <;> simp only [push_cast, seval, reduceCtorEq, Int.cast_ofNat_Int]
    all_goals first | omega | rfl | exact ⟨by omega, rfl⟩ | skip
  intro k hk K' hL
  rcases Nat.lt_or_ge k c.length with hkl | hkl
  · have hrk := hrow k hkl
    have htl : (c.take k).length ≤ 1000000 := by rw [List.length_take]; omega
    have hst : c.take k ++ [c.getD k []] = c.take (k + 1) := by
      rw [List.take_succ_eq_append_getElem hkl]
      simp [List.getD_eq_getElem?_getD, hkl]
    replace hnl := And.intro hnl (And.intro hrk (And.intro htl hst))
    repeat' (first|(refine goK (by assumption) ?_; iterate 4 (try clear hK K))|(refine zAd fun K hK => ?_)|((first|refine zAb hE rfl ?_|refine zAh ?_); simp +contextual only [hnl, ↓kN, ↓kP, ↓kG, ↓qN, ↓qP, ↓qG, push_cast, seval, reduceCtorEq, Int.cast_ofNat_Int])|refine zAc ?_|((first|refine zAg ?_|refine zAf ?_); simp only [thenQ, zAk, if_true, if_false, Nat.reduceEqDiff, reduceCtorEq])|(refine zAe (by rfl) (fun hb => ?_) (fun hb => ?_) <;> (try simp only [b1, b2, b3, b4, reduceCtorEq, b5, b6] at hb) <;> (try omega))|refine zAi (by rfl) ?_ ?_|refine andS ?_|(refine ⟨fun hc => ?_, fun hc => ?_⟩)|(intro hc; try omega))
    refine zEV hE (fun D s => (D 5 = true → D 1 = true) ∧
      (D 5 = true → D 4 = true) ∧
      (D 4 = true → D 3 = true) ∧
      (D 7 = true → D 5 = true) ∧
      s.env 2 = .one (.box 2) ∧
      s.env 3 = .one (.box 3) ∧
      s.env 5 = .one (.val (.sl .int) (c.getD k [])) ∧
      s.env 16 = .one (.val (.sl (.sl .int)) c) ∧
      s.env 17 = .I (c.length : Nat) ∧
      s.env 18 = .I (k : Nat) ∧
      s.boxes 2 = some (.rcd [.nils, .nils, .nils, .val .int 0]) ∧
      s.roots 8 = some (.flat 3 .int a) ∧
      s.roots 11 = some (.flat 3 .int b) ∧
      s.roots 27 = some (.deep 25 3 .int (if D 5 = true then c.take (k + 1) else c.take k)) ∧
      (D 3 = true → D 5 = false → s.roots 25 = some (.flat 3 .int (c.getD k []))) ∧
      (D 5 = false → s.boxes 3 = some (.rcd [.ref 27, .ref 8, .ref 11, .val .int w])) ∧
      (D 5 = true → D 7 = false → s.boxes 3 = some (.rcd [.any, .ref 8, .ref 11, .val .int w])) ∧
      (D 7 = true → s.boxes 3 = some (.rcd [.ref 27, .ref 8, .ref 11, .val .int w])) ∧
      (D 0 = true → s.env 22 = .one (.boxf 3 4 0 0)) ∧
      (D 1 = true → D 5 = false → s.env 23 = .one (.ref 27)) ∧
      (D 2 = true → s.env 24 = .one (.val (.sl .int) (c.getD k []))) ∧
      (D 3 = true → D 5 = false → s.env 25 = .one (.ref 25)) ∧
      (D 4 = true → D 5 = false → s.env 26 = .one (.lits 25)) ∧
      (D 5 = true → s.env 27 = .one (.ref 27)) ∧
      (D 6 = true → s.env 28 = .one (.boxf 3 4 0 0))) rfl (by kernel_rfl) ?_ ?_ ?_
    · dsimp only
      simp only [push_cast, seval, reduceCtorEq, Int.cast_ofNat_Int]
    · refine ⟨fun D s h0 hp hI => ?_, fun D s h0 hp hI => ?_, fun D s h0 hp hI => ?_, fun D s h0 hp hI => ?_, fun D s h0 hp hI => ?_, fun D s h0 hp hI => ?_, fun D s h0 hp hI => ?_, fun D s h0 hp hI => ?_, trivial⟩
      all_goals obtain ⟨o1, o2, o3, o4, e2, e3, e5, e16, e17, e18, q2, r8, r11, r27, r25, q3, q5, q7, f0, f1, f2, f3, f4, f5, f6⟩ := hI
      all_goals replace hp := List.all_eq_true.1 hp
      · simp +contextual only [hnl, h0, o1, o2, o3, o4, e2, e3, e5, e16, e17, e18, q2, r8, r11, r27, r25, q3, q5, q7, f0, f1, f2, f3, f4, f5, f6, setD, ↓kN, ↓kP, push_cast, seval, reduceCtorEq, Int.cast_ofNat_Int]
      · have d0 := hp 0 (by decide)
        have n5 := zBD o1 h0
        have n7 := zBD o4 n5
        simp +contextual only [d0, n5, n7, hnl, h0, o1, o2, o3, o4, e2, e3, e5, e16, e17, e18, q2, r8, r11, r27, r25, q3, q5, q7, f0, f1, f2, f3, f4, f5, f6, setD, ↓kN, ↓kP, push_cast, seval, reduceCtorEq, Int.cast_ofNat_Int]
      · simp +contextual only [hnl, h0, o1, o2, o3, o4, e2, e3, e5, e16, e17, e18, q2, r8, r11, r27, r25, q3, q5, q7, f0, f1, f2, f3, f4, f5, f6, setD, ↓kN, ↓kP, push_cast, seval, reduceCtorEq, Int.cast_ofNat_Int]
      · have d2 := hp 2 (by decide)
        have n4 := zBD o3 h0
        have n5 := zBD o2 n4
        have n7 := zBD o4 n5
        simp +contextual only [d2, n4, n5, n7, hnl, h0, o1, o2, o3, o4, e2, e3, e5, e16, e17, e18, q2, r8, r11, r27, r25, q3, q5, q7, f0, f1, f2, f3, f4, f5, f6, setD, ↓kN, ↓kP, push_cast, seval, reduceCtorEq, Int.cast_ofNat_Int]
      · have d3 := hp 3 (by decide)
        have n5 := zBD o2 h0
        have n7 := zBD o4 n5
        simp +contextual only [d3, n5, n7, hnl, h0, o1, o2, o3, o4, e2, e3, e5, e16, e17, e18, q2, r8, r11, r27, r25, q3, q5, q7, f0, f1, f2, f3, f4, f5, f6, setD, ↓kN, ↓kP, push_cast, seval, reduceCtorEq, Int.cast_ofNat_Int]
      · have d1 := hp 1 (by decide)
        have d4 := hp 4 (by decide)
        have n7 := zBD o4 h0
        have d3 := o3 d4
        simp +contextual only [d1, d4, n7, d3, hnl, h0, o1, o2, o3, o4, e2, e3, e5, e16, e17, e18, q2, r8, r11, r27, r25, q3, q5, q7, f0, f1, f2, f3, f4, f5, f6, setD, ↓kN, ↓kP, push_cast, seval, reduceCtorEq, Int.cast_ofNat_Int]
      · simp +contextual only [hnl, h0, o1, o2, o3, o4, e2, e3, e5, e16, e17, e18, q2, r8, r11, r27, r25, q3, q5, q7, f0, f1, f2, f3, f4, f5, f6, setD, ↓kN, ↓kP, push_cast, seval, reduceCtorEq, Int.cast_ofNat_Int]
      · have d5 := hp 5 (by decide)
        have d6 := hp 6 (by decide)
        simp +contextual only [d5, d6, hnl, h0, o1, o2, o3, o4, e2, e3, e5, e16, e17, e18, q2, r8, r11, r27, r25, q3, q5, q7, f0, f1, f2, f3, f4, f5, f6, setD, ↓kN, ↓kP, push_cast, seval, reduceCtorEq, Int.cast_ofNat_Int]
    intro D s hD hI
    obtain ⟨o1, o2, o3, o4, e2, e3, e5, e16, e17, e18, q2, r8, r11, r27, r25, q3, q5, q7, f0, f1, f2, f3, f4, f5, f6⟩ := hI
    have v1 := r27
    rw [if_pos (hD 5 (by decide))] at v1
    have v3 := q7 (hD 7 (by decide))
    refine goK hK ?_
    refine zAE (t := AS.of [(2, .one (.box 2)), (3, .one (.box 3)), (16, .one (.val (.sl (.sl .int)) c)), (17, .I (c.length : Nat)), (18, .I (k : Nat))] [(27, .deep 25 3 .int (c.take (k + 1))), (8, .flat 3 .int a), (11, .flat 3 .int b)] [(2, .rcd [.nils, .nils, .nils, .val .int 0]), (3, .rcd [.ref 27, .ref 8, .ref 11, .val .int w])]) ?_ ?_
    · refine zAj ?_ ?_ ?_ <;> simp only [v1, v3, r8, r11, q2, e2, e3, e16, e17, e18, push_cast, seval, reduceCtorEq, Int.cast_ofNat_Int]
    clear hK hD
    repeat' (first|(refine goK (by assumption) ?_; iterate 4 (try clear hK K))|(refine zAd fun K hK => ?_)|((first|refine zAb hE rfl ?_|refine zAh ?_); simp +contextual only [hnl, ↓kN, ↓kP, ↓kG, ↓qN, ↓qP, ↓qG, push_cast, seval, reduceCtorEq, Int.cast_ofNat_Int])|refine zAc ?_|((first|refine zAg ?_|refine zAf ?_); simp only [thenQ, zAk, if_true, if_false, Nat.reduceEqDiff, reduceCtorEq])|(refine zAe (by rfl) (fun hb => ?_) (fun hb => ?_) <;> (try simp only [b1, b2, b3, b4, reduceCtorEq, b5, b6] at hb) <;> (try omega))|refine zAi (by rfl) ?_ ?_|refine andS ?_|(refine ⟨fun hc => ?_, fun hc => ?_⟩)|(intro hc; try omega))
    refine hL _ (k + 1) (by omega) (by omega) ?_
    refine zAj ?_ ?_ ?_ <;> simp only [push_cast, seval, reduceCtorEq, Int.cast_ofNat_Int]
  · obtain rfl : k = c.length := by omega
    clear hL
    repeat' (first|(refine goK (by assumption) ?_; iterate 4 (try clear hK K))|(refine zAd fun K hK => ?_)|((first|refine zAb hE rfl ?_|refine zAh ?_); simp +contextual only [hnl, ↓kN, ↓kP, ↓kG, ↓qN, ↓qP, ↓qG, push_cast, seval, reduceCtorEq, Int.cast_ofNat_Int])|refine zAc ?_|((first|refine zAg ?_|refine zAf ?_); simp only [thenQ, zAk, if_true, if_false, Nat.reduceEqDiff, reduceCtorEq])|(refine zAe (by rfl) (fun hb => ?_) (fun hb => ?_) <;> (try simp only [b1, b2, b3, b4, reduceCtorEq, b5, b6] at hb) <;> (try omega))|refine zAi (by rfl) ?_ ?_|refine andS ?_|(refine ⟨fun hc => ?_, fun hc => ?_⟩)|(intro hc; try omega))
    all_goals ((try refine zAh ?_); refine ⟨.inr rfl, ?_⟩; unfold zCl; dsimp only; refine zAj ?_ ?_ ?_ <;> simp only [push_cast, seval, reduceCtorEq, Int.cast_ofNat_Int]; exact .inl (by rw [List.take_length]))
def zOb : Know := know [(119, zE3)] []
theorem zIY : KnowOK Tryz.prog zOb := zAn (all_cons zMH all_nil) all_nil all_nil
@[push_cast] def zDl : Con := ⟨[.dat stSh], fun (x : State × Unit) => StateSz x.1, fun (x : State × Unit) => { res := [.val stSh x.1] }⟩
theorem stClone_spec : FnSpec Tryz.prog 74 zDl := by
  refine FnSpec.of_tri' (E := zOb) zIY Tryz.func74 rfl rfl (by kernel_rfl) ?_
  intro C x hE hnl hfit hpre
  simp only [Tryz.ntmps74, Tryz.results74, lends] at hnl ⊢
  obtain ⟨s, _⟩ := x
  refine zMw (zMw (zRh (zIZ hE hnl s hpre rfl) ?_))
  rintro e t ⟨he, hw⟩
  refine ⟨zCl s, by rw [hnl]; exact hw, zIi s, ?_, ?_⟩
  · unfold zCl zIi
    refine zAj ?_ ?_ ?_ <;> simp only [push_cast, seval, reduceCtorEq, Int.cast_ofNat_Int]
  · unfold zIi
    rcases he with rfl | rfl <;> simp only [zOb, hnl, push_cast, seval, reduceCtorEq, Int.cast_ofNat_Int]
end Go.Proofs.YtlgkplnifaoeeaaGreatDoor
