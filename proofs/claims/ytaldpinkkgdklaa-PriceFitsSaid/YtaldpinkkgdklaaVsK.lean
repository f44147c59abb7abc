/- Value semantics, part K: rows that are taken out of a table, variables; all writing operations together. Over any program; no condition. -/
import Derived.Test.YtaldpinkkgdklaaVsJ
namespace Go.VS
open Go.RowKit
set_option linter.unusedSimpArgs false
set_option linter.unusedVariables false

section
variable {C : Ctx} {G : Lang} {γ γ' : Gam} {s : AS} {a : Act} {w w' : World}

/-- Row i of r becomes the root d, with the header x. -/
def holeGam (γ : Gam) (r i d : Nat) (x : Sl) (k : Nat) : Gam :=
  ⟨upd γ.hs d x, γ.rs, γ.bx, fun b => if (γ.rows r i).ownBlock = some b then some (.hd d) else if x.v.ownBlock = some b ∧ b = k then some (.hd d) else γ.own b⟩

/-- 'append(table[i], xs...)': the row leaves the table. -/
theorem w_append_refi (hG : LangOK C.P G) (h : Rel C γ s a w) {dd : Option Tmp} {d : Nat} {t : TypeId} {x y : Operand} {ty : TypeId} {pos : String} {af : Array Edge} {gd : Option (Nat × Bool)} {r i : Nat} {e : TypeId} {sh : Sh} {xss : List (List sh.T)} {ys : List sh.T}
    (hx : ev s x = .one (.refi r i)) (hr : s.roots r = some (.deep e (G.el t) sh xss)) (hy : lens G s t (ev s y) = some ⟨sh, ys⟩) (ht : G.sh t = some (.sl sh)) (hi : i < xss.length) (hd : C.nl ≤ d) (hne : r ≠ d)
    (hn : (xss.getD i []).length ≤ 1000000) (hm : ys.length ≤ 1000000) :
    ∃ v w' γ', (execOp a.eval ⟨dd, .call { callee := .builtin .append, args := #[x, y], argTypes := #[t, t] }, ty, pos, af, gd⟩).run C.P w = .ok (.value v) w' ∧
      Rel C γ' ((((s.map (killR d)).map (killRow r)).setRoot r (some (.hole e (G.el t) sh xss i))).setRoot d (some (.flat (G.el t) sh (xss.getD i [] ++ ys)))) a w' ∧ svRep C γ' w' (.one (.ref d)) v := by
  have hx' := ev_rep h x
  rw [hx] at hx'
  simp only [svRep, bvRep] at hx'
  obtain ⟨hu, he, hpos⟩ := hG.sl t sh ht
  obtain ⟨i0, z, hi0, hs0, hby, hz, hzc⟩ := hG.info _ sh he
  have hzs : z.cells.size = sh.size := by have := congrArg List.length hzc; rw [cells_len] at this; simpa using this
  obtain ⟨hf, htop, hobt, hrows⟩ := h.roots r _ hr
  have hgi : xss.getD i [] = xss[i] := by simp [List.getD_eq_getElem?_getD, hi]
  rw [hgi] at hn ⊢
  obtain ⟨hown, hob⟩ := hrows i xss[i] (by simp [hi])
  obtain ⟨ad, c, hv, hsome, hcells⟩ := src_rep hG h hy hf hpos.1 (ev_rep h y)
  obtain ⟨X, w', hrun, hown', hX⟩ := append_core (ty := ty) hu hi0 hz hs0 hzs hown ad ys.length c (ys.flatMap sh.cells) (flatMap_len sh.cells sh.size (cells_len sh) ys) hcells hsome (flatMap_one ys) hby hn hm
  let γ' := holeGam γ r i d X w.heap.size
  have hlt : ∀ b, (γ.rows r i).ownBlock = some b → b < w.heap.size := fun b hb => h.ownlt b _ (hob b hb).1
  have hsame : ∀ b, b < w.heap.size → γ.own b ≠ some (.row r i) → γ'.own b = γ.own b := fun b hb hn' => by
    simp only [γ', holeGam]
    rw [if_neg (fun e => hn' (hob b e).1), if_neg (fun e => by omega)]
  have hhd : ∀ p, p ≠ d → γ'.hd p = γ.hd p := fun p hp => by simp only [γ', holeGam, Gam.hd, upd]; rw [if_neg hp]
  have hrow : ∀ p k, γ'.rows p k = γ.rows p k := fun _ _ => rfl
  have hhr : γ'.hd d = X.v := by simp [γ', holeGam, Gam.hd, upd]
  have hblk : ∀ b, b < w.heap.size → γ.own b ≠ some (.row r i) → w'.heap[b]? = w.heap[b]? := by
    intro b hb hne'
    rcases hX with ⟨_, hg⟩ | ⟨_, _, hg⟩
    · exact hg.block b hb (fun e => hne' (hob b e.symm).1)
    · exact hg.block b hb (by simp)
  have hos : w'.os = w.os ∧ w'.tape = w.tape ∧ w'.output = w.output ∧ w.heap.size ≤ w'.heap.size := by
    rcases hX with ⟨_, hg⟩ | ⟨_, _, hg⟩ <;> exact ⟨hg.os, hg.tape, hg.output, hg.size⟩
  have hXown : ownB C γ' X.v (.hd d) := by
    intro k hk
    rcases hX with ⟨h1, hg⟩ | ⟨h1, h2, hg⟩
    · rw [h1] at hk
      refine ⟨?_, (hob k hk).2⟩
      simp only [γ', holeGam]
      rw [if_pos hk]
    · rw [h1] at hk
      simp only [Option.some.injEq] at hk
      subst hk
      refine ⟨?_, .inl h.keep.size⟩
      simp only [γ', holeGam]
      rw [if_neg (fun e => by have := hlt _ e; omega), if_pos ⟨h1, trivial⟩]
  have m : Move C γ w γ' w' (fun p => p = r ∨ p = d) := by
    refine ⟨⟨hos.2.2.2, fun b hb hzb => ⟨⟨hzb.1, by rw [hsame b hb (by rw [hzb.2]; simp)]; exact hzb.2⟩, hblk b hb (by rw [hzb.2]; simp)⟩, fun b d hb ho => ⟨by rw [hsame b hb (by rw [ho]; simp)]; exact ho, hblk b hb (by rw [ho]; simp)⟩⟩, ⟨hos.1.trans h.keep.os, hos.2.1.trans h.keep.tape, hos.2.2.1.trans h.keep.output, Nat.le_trans h.keep.size hos.2.2.2, fun k hk hL => ?_⟩, fun k l hk => ?_, fun p hp => ?_, fun p hp => hhd p (fun e => hp (.inr e)), fun p k hp => rfl, fun _ => rfl, fun b l hb hl => ?_⟩
    · rcases hX with ⟨_, hg⟩ | ⟨_, _, hg⟩
      · rw [hg.block k (Nat.lt_of_lt_of_le hk h.keep.size) (fun e => by
          rcases (hob k e.symm).2 with h1 | h1
          · omega
          · exact hL h1)]
        exact h.keep.block k hk hL
      · rw [hg.block k (Nat.lt_of_lt_of_le hk h.keep.size) (by simp)]
        exact h.keep.block k hk hL
    · simp only [γ', holeGam] at hk
      split at hk
      · rename_i e
        exact Nat.lt_of_lt_of_le (hlt k e) hos.2.2.2
      · split at hk
        · rename_i e1 e
          rcases hX with ⟨h1, hg⟩ | ⟨h1, h2, hg⟩
          · rw [h1] at e
            exact absurd e.1 e1
          · omega
        · exact Nat.lt_of_lt_of_le (h.ownlt k l hk) hos.2.2.2
    · rw [hhd p (by omega)]
      exact h.lent p hp
    · have h1 : γ.own b ≠ some (.row r i) := by
        rw [hb]
        intro e
        simp only [Option.some.injEq] at e
        subst e
        exact hl r rfl (.inl rfl)
      exact ⟨by rw [hsame b (h.ownlt b l hb) h1]; exact hb, hblk b (h.ownlt b l hb) h1⟩
  have hK : Forgets (fun b => killRow r (killR d b)) γ γ' := by
    intro b
    by_cases h1 : killRow r (killR d b) = .any
    · exact .inl h1
    · right
      have h2 : killR d b ≠ .any := fun e' => by rw [e'] at h1; exact h1 rfl
      have h3 : killR d b = b := (killR_or d b).resolve_left h2
      rw [h3] at h1
      refine ⟨by show killRow r (killR d b) = b; rw [h3]; exact (killRow_or r b).resolve_left h1, killR_agree h2 hhd (fun p i _ => hrow p i) (fun _ => rfl)⟩
  refine ⟨X.v, w', γ', exec_append (by rw [hx', hv]; exact hrun), ?_, by simp only [svRep, bvRep]; rw [hhr]⟩
  rw [AS.map_map]
  refine m.rel h hK (fun p rc' hp => ?_)
  simp only [AS.map, AS.setRoot, upd] at hp
  split at hp
  · rename_i e'
    subst e'
    simp only [Option.some.injEq] at hp
    subst hp
    right
    refine ⟨hf, ?_, by rw [hhr]; exact hXown⟩
    rw [hhr, List.length_append, List.flatMap_append]
    exact hown'
  · rename_i e3
    split at hp
    · rename_i e4
      subst e4
      simp only [Option.some.injEq] at hp
      subst hp
      right
      have hkeepOwn : ∀ b l, l ≠ .row p i → γ.own b = some l → γ'.own b = some l ∧ w'.heap[b]? = w.heap[b]? := by
        intro b l hl hb
        have h1 : γ.own b ≠ some (.row p i) := by rw [hb]; simpa using hl
        exact ⟨by rw [hsame b (h.ownlt b l hb) h1]; exact hb, hblk b (h.ownlt b l hb) h1⟩
      refine ⟨hf, ?_, ?_, fun k xs hk hxs => ?_⟩
      · rw [hhd p e3]
        exact own_same htop (fun b hb => (hkeepOwn b _ (by simp) (hobt b hb).1).2)
      · rw [hhd p e3]
        exact fun b hb => ⟨(hkeepOwn b _ (by simp) (hobt b hb).1).1, (hobt b hb).2⟩
      · have h4 := hrows k xs hxs
        unfold rowRep at *
        rw [hrow]
        exact ⟨own_same h4.1 (fun b hb => (hkeepOwn b _ (by simp; omega) (h4.2 b hb).1).2), fun b hb => ⟨(hkeepOwn b _ (by simp; omega) (h4.2 b hb).1).1, (h4.2 b hb).2⟩⟩
    · rename_i e4
      exact .inl ⟨fun e' => e'.elim e4 e3, hp⟩

/-- A list that is written out, in memory of its own. -/
theorem w_build_own (hG : LangOK C.P G) (h : Rel C γ s a w) {d n : Nat} {t ty : TypeId} {parts : Array (Nat × Operand)} {pos : String} {af : Array Edge} {gd : Option (Nat × Bool)} {sh : Sh} {xs : List sh.T} (ht : G.sh t = some (.sl sh))
    (hxs : allVals sh (parts.toList.map fun p => ev s p.2) = some xs) (hidx : parts.toList.map (·.1) = List.range n) (hn : n ≤ 1000) (hf : sh.flat = true) (hd : C.nl ≤ d) :
    ∃ v w' γ', (execOp a.eval ⟨some d, .buildSlice t n parts, ty, pos, af, gd⟩).run C.P w = .ok (.value v) w' ∧ Rel C γ' ((s.map (killR d)).setRoot d (some (.flat (G.el t) sh xs))) a w' ∧ svRep C γ' w' (.one (.ref d)) v := by
  obtain ⟨hl, hget⟩ := allVals_rep (C := C) (γ := γ) (w := w) _ (parts.toList.map fun p => a.eval p.2) xs hxs (by simp) (fun i sv v h1 h2 => by
    rw [List.getElem?_map, Option.map_eq_some_iff] at h1 h2
    obtain ⟨o, h3, rfl⟩ := h1
    obtain ⟨o', h4, rfl⟩ := h2
    rw [h3] at h4
    obtain rfl : o = o' := by simpa using h4
    exact ev_rep h o.2)
  have hnl : n = xs.length := by
    rw [hl, List.length_map]
    have := congrArg List.length hidx
    simpa using this.symm
  have hsz : ∀ v ∈ (parts.toList.map fun p => a.eval p.2), v.cells.toList.length = sh.size := by
    intro v hv
    obtain ⟨i, hi, hvi⟩ := List.getElem_of_mem hv
    obtain ⟨u, h1, c, hp, h2⟩ := hget i (by rw [hl]; exact hi)
    rw [List.getElem?_eq_getElem hi, hvi] at h1
    obtain rfl : v = u := by simpa using h1
    rw [h2]; exact pack_size hp
  have hr := run_buildSlice (a := a) (w := w) hG ht hidx hn rfl hsz
  have hcells : (parts.toList.map fun p => a.eval p.2).flatMap (fun v => v.cells.toList) = xs.flatMap sh.cells := by
    generalize (parts.toList.map fun p => a.eval p.2) = vs at hl hget
    clear hr hsz hnl hxs
    induction vs generalizing xs with
    | nil =>
      have : xs = [] := by simpa using hl
      subst this
      rfl
    | cons v vs ih =>
      cases xs with
      | nil => simp at hl
      | cons x xs =>
        obtain ⟨u, h1, c, hp, h2⟩ := hget 0 (by simp)
        simp only [List.getElem?_cons_zero, Option.some.injEq] at h1
        subst h1
        have hc := (pers_flat sh _ c hf).1 hp
        have e1 : v.cells.toList = sh.cells x := by rw [h2, pack_cells sh _ c hp, hc]; rfl
        rw [List.flatMap_cons, List.flatMap_cons, e1, ih (by simpa using hl) (fun i hi => by
          have := hget (i + 1) (by simpa using hi)
          simpa using this)]
  let x : Sl := ⟨some ⟨w.heap.size, 0, none⟩, n, n⟩
  have hx : ∀ b, x.v.ownBlock = some b → b = w.heap.size := fun b hb => by
    simp only [x, Sl.v, Value.ownBlock, Option.some.injEq] at hb
    exact hb.symm
  have hg : w.grownBy (w.alloc (.cells ((parts.toList.map fun p => a.eval p.2).flatMap fun v => v.cells.toList).toArray (G.el t))) none := ⟨rfl, rfl, rfl, by simp, fun k hk _ => Below.heap_alloc w _ k hk⟩
  refine ⟨x.v, _, newGam γ d x (γ.rs d) w.heap.size, run_v hr, rel_new h hd x (γ.rs d) hg (fun b hb => ⟨hx b hb, by rw [hx b hb]; simp⟩) ⟨hf, ?_, ?_⟩, by simp only [svRep, bvRep]; rw [newGam_hd]⟩
  · rw [newGam_hd, ← hnl]
    have hlen : (xs.flatMap sh.cells).length = n * sh.size := by rw [flatMap_len sh.cells sh.size (cells_len sh), hnl]
    refine ⟨hlen, .inr ⟨w.heap.size, n, _, rfl, Nat.zero_le _, heap_alloc_new w _, Nat.le_refl _, by unfold maxLen; omega, ?_, ?_⟩⟩
    · rw [hcells]; simpa using hlen
    · rw [hcells, ← hlen]; exact List.take_length
  · rw [newGam_hd]
    exact newGam_own h hx

/-! ### Variables -/
theorem Rel.boxed {b : Nat} {sv : SV} (h : Rel C γ s a w) (hw : Write C γ w w' (γ.bx b) (.bx b)) (hb : bxRep C γ w' b sv) : Rel C γ (s.setBox b sv) a w' := by
  refine ⟨h.defers, hw.keep h.keep, fun k l hl => Nat.lt_of_lt_of_le (h.ownlt k l hl) hw.grown.size, h.lent, fun i => svRep_mono hw.sub (fun _ _ => Agree.refl γ _) (h.env i), fun q rc hq => hw.root (h.roots q rc hq) (by simp) (fun _ => by simp), fun q sv' hq => ?_⟩
  simp only [AS.setBox, upd] at hq
  split at hq
  · rename_i e
    subst e
    simp only [Option.some.injEq] at hq
    subst hq
    exact hb
  · rename_i e
    exact hw.box h.ownlt (h.boxes q sv' hq) (by simp; exact fun e' => e e'.symm)

theorem setRow_grown {g : Nat} {cur : Array Value} (w : World) : w.grownBy (w.setRow g cur) (some g) :=
  ⟨rfl, rfl, rfl, by simp, fun k _ hk => setRow_other w g k _ (fun e => hk (by simp [e]))⟩

theorem sized_len {sv : SV} {cs : List Value} (hs : sized sv = true) (h : boxCells C γ w sv cs) : cs.length = svSize sv := by
  cases sv with
  | one b =>
    obtain ⟨v, hv, rfl⟩ := h
    cases b with
    | val sh x =>
      obtain ⟨c, hp, rfl⟩ := hv
      rw [pack_cells sh x c hp, pers_len sh x c hp]
      rfl
    | any => simp [sized, BV.single] at hs
    | skip => simp [sized, BV.single] at hs
    | fnv as r q p => simp [sized, BV.single] at hs
    | mk d e s xs => simp [sized, BV.single] at hs
    | _ =>
      rw [single_cells (by rfl) hv]
      rfl
  | tup bs => exact h.elim
  | rcd bs => exact bvsRep_len bs cs h

/-- What a value is made of. -/
theorem cells_rep {sv : SV} {v : Value} (h : svRep C γ w sv v) (hs : sized sv = true) : boxCells C γ w sv v.cells.toList ∧ (∀ u ∈ v.cells.toList, u.oneCell' = true) ∧ v.cells.toList.length = svSize sv := by
  have key : boxCells C γ w sv v.cells.toList → v.cells.toList.length = svSize sv := fun hb => sized_len hs hb
  cases sv with
  | one b =>
    have hb : boxCells C γ w (.one b) v.cells.toList := ⟨v, h, rfl⟩
    have hv : bvRep C γ w b v := h
    refine ⟨hb, ?_, key hb⟩
    cases b with
    | val sh x =>
      obtain ⟨c, hp, rfl⟩ := h
      rw [pack_cells sh x c hp]
      exact pers_one sh x c hp
    | any => simp [sized, BV.single] at hs
    | skip => simp [sized, BV.single] at hs
    | fnv as r q p => simp [sized, BV.single] at hs
    | mk d e s xs => simp [sized, BV.single] at hs
    | _ =>
      rw [single_cells (by rfl) hv]
      intro u hu
      simp only [List.mem_singleton] at hu
      subst hu
      exact single_one (by rfl) hv
  | tup bs => simp [sized] at hs
  | rcd bs =>
    obtain ⟨vs, rfl, h1, h2⟩ := h
    have hb : boxCells C γ w (.rcd bs) (Value.agg vs.toArray).cells.toList := by simpa [Value.cells, boxCells] using h1
    exact ⟨hb, by simpa [Value.cells] using h2, key hb⟩

theorem fits_info (hG : LangOK C.P G) {t : TypeId} {sv : SV} (h : fitsT G t sv) : ∃ i, C.P.info? t = some i ∧ i.size = svSize sv := by
  cases sv with
  | one b =>
    have plain : G.plain t = true → ∃ i, C.P.info? t = some i ∧ i.size = 1 := fun hp => by
      obtain ⟨d, i, _, _, h1, h2⟩ := hG.plain t hp
      exact ⟨i, h1, h2⟩
    cases b with
    | val sh x =>
      obtain ⟨i, z, hi, hs, _⟩ := hG.info t sh h
      exact ⟨i, hi, hs⟩
    | _ => exact plain h.2
  | tup bs => exact h.elim
  | rcd bs =>
    obtain ⟨fs, i, z, _, hi, hs, _⟩ := hG.ones t _ h
    exact ⟨i, hi, hs⟩

theorem fits_sized {t : TypeId} {sv : SV} (h : fitsT G t sv) : sized sv = true := by
  cases sv with
  | one b =>
    cases b with
    | val sh x => rfl
    | _ => exact h.1
  | tup bs => exact h.elim
  | rcd bs => rfl

theorem storeAt_box {t : TypeId} {i : TypeInfo} (hi : C.P.info? t = some i) {g o : Nat} {v : Value} {cur : Array Value} {tt : TypeId} (hg : w.heap[g]? = some (.cells cur tt (0, 0)))
    (hs : v.cells.size = i.size) (hl : o + v.cells.toList.length ≤ cur.size) (h1 : ∀ u ∈ v.cells.toList, u.oneCell' = true) :
    ∃ W, (Instr.storeAt t (.pointer (some ⟨g, o, none⟩)) v).run C.P w = .ok () W ∧ w.grownBy W (some g) ∧ W.heap[g]? = some (.cells (cur.toList.take o ++ v.cells.toList ++ cur.toList.drop (o + v.cells.toList.length)).toArray tt (0, 0)) :=
  ⟨_, run_storeAt hi hg hs hl h1, setRow_grown w, setRow_heap w g cur _ tt _ hg⟩

theorem w_store_box (hG : LangOK C.P G) (h : Rel C γ s a w) {d : Option Tmp} {t : TypeId} {x y : Operand} {ty : TypeId} {pos : String} {af : Array Edge} {gd : Option (Nat × Bool)} {b : Nat} {old : SV}
    (hx : ev s x = .one (.box b)) (ho : s.boxes b = some old) (hsz : svSize old = svSize (ev s y)) (hs : sized old = true) (hf : fitsT G t (ev s y)) :
    ∃ w', (execOp a.eval ⟨d, .store t x y, ty, pos, af, gd⟩).run C.P w = .ok .skip w' ∧ Rel C γ (s.setBox b (ev s y)) a w' := by
  have hx' := ev_rep h x
  rw [hx] at hx'
  simp only [svRep, bvRep] at hx'
  obtain ⟨cs, tt, h1, h2, h3, h4, h5⟩ := h.boxes b _ ho
  obtain ⟨i, hi, his⟩ := fits_info hG hf
  obtain ⟨k1, k2, k3⟩ := cells_rep (ev_rep h y) (fits_sized hf)
  have hcl := sized_len hs h2
  obtain ⟨W, hst, hgr, hcur⟩ := storeAt_box (C := C) (w := w) hi (v := a.eval y) (o := 0) h1 (by rw [his, ← k3, Array.length_toList]) (by rw [k3, ← hsz, ← hcl]; simp) k2
  refine ⟨_, exec_store (by rw [hx']; exact hst), ?_⟩
  have hw : Write C γ w W (γ.bx b) (.bx b) := ⟨h4, .inl h5, hgr, fun _ => by simp⟩
  refine h.boxed hw ⟨_, tt, hcur, ?_, ?_, h4, h5⟩
  · have : (cs.toList.take 0 ++ (a.eval y).cells.toList ++ cs.toList.drop (0 + (a.eval y).cells.toList.length)).toArray.toList = (a.eval y).cells.toList := by
      have hd : cs.toList.drop (0 + (a.eval y).cells.toList.length) = [] := List.drop_of_length_le (by rw [k3, ← hsz, ← hcl]; omega)
      rw [hd]; simp
    rw [this]
    exact boxCells_mono hw.sub (fun _ _ => Agree.refl γ _) k1
  · have hd : cs.toList.drop (0 + (a.eval y).cells.toList.length) = [] := List.drop_of_length_le (by rw [k3, ← hsz, ← hcl]; omega)
    rw [hd]
    simpa using k2

theorem w_store_boxf (hG : LangOK C.P G) (h : Rel C γ s a w) {d : Option Tmp} {t : TypeId} {x y : Operand} {ty : TypeId} {pos : String} {af : Array Edge} {gd : Option (Nat × Bool)} {b n f off : Nat} {bs : List BV} {v : BV}
    (hx : ev s x = .one (.boxf b n f off)) (ho : s.boxes b = some (.rcd bs)) (hy : ev s y = .one v) (hoff : off < bs.length) (hv : v.single = true) (ht : G.plain t = true) :
    ∃ w', (execOp a.eval ⟨d, .store t x y, ty, pos, af, gd⟩).run C.P w = .ok .skip w' ∧ Rel C γ (s.setBox b (.rcd (bs.set off v))) a w' := by
  have hx' := ev_rep h x
  rw [hx] at hx'
  simp only [svRep, bvRep] at hx'
  have hy' := ev_rep h y
  rw [hy] at hy'
  obtain ⟨cs, tt, h1, h2, h3, h4, h5⟩ := h.boxes b _ ho
  obtain ⟨_, i, _, _, hi, his⟩ := hG.plain t ht
  have k1 := single_cells hv hy'
  have k2 := single_one hv hy'
  have hcl := bvsRep_len bs cs.toList h2
  obtain ⟨W, hst, hgr, hcur⟩ := storeAt_box (C := C) (w := w) hi (v := a.eval y) (o := off) h1 (by rw [his, ← Array.length_toList, k1]; rfl) (by rw [k1]; simp at hcl ⊢; omega) (by rw [k1]; intro u hu; simp at hu; subst hu; exact k2)
  refine ⟨_, exec_store (by rw [hx']; exact hst), ?_⟩
  have hw : Write C γ w W (γ.bx b) (.bx b) := ⟨h4, .inl h5, hgr, fun _ => by simp⟩
  have hset : cs.toList.take off ++ [a.eval y] ++ cs.toList.drop (off + 1) = cs.toList.set off (a.eval y) := by
    rw [List.set_eq_take_append_cons_drop, if_pos (by omega)]
    simp
  rw [k1] at hcur
  refine h.boxed hw ⟨_, tt, hcur, ?_, ?_, h4, h5⟩
  · show bvsRep C γ _ (bs.set off v) (cs.toList.take off ++ [a.eval y] ++ cs.toList.drop (off + 1))
    rw [hset]
    exact bvsRep_set bs _ off v _ (bvsRep_mono hw.sub bs _ (fun _ _ => Agree.refl γ _) h2) (bvRep_mono hw.sub (Agree.refl γ _) hy')
  · intro u hu
    have hu' : u ∈ cs.toList.set off (a.eval y) := by rw [← hset]; simpa using hu
    rcases List.mem_or_eq_of_mem_set hu' with h6 | h6
    · exact h3 u h6
    · rw [h6]; exact k2

def boxGam (γ : Gam) (d k : Nat) : Gam := ⟨γ.hs, γ.rs, upd γ.bx d k, fun b => if b = k then some (.bx d) else γ.own b⟩

/-- A new variable. -/
theorem rel_box (h : Rel C γ s a w) (d : Nat) (cs : Array Value) (t : TypeId) {sv : SV} (hsv : boxCells C (boxGam γ d w.heap.size) (w.alloc (.cells cs t)) sv cs.toList) (h1 : ∀ u ∈ cs.toList, u.oneCell' = true) :
    Rel C (boxGam γ d w.heap.size) ((s.map (killB d)).setBox d sv) a (w.alloc (.cells cs t)) := by
  have hsame : ∀ b, b < w.heap.size → (boxGam γ d w.heap.size).own b = γ.own b := fun b hb => by
    simp only [boxGam]
    rw [if_neg (by omega)]
  have hsz : w.heap.size < (w.alloc (.cells cs t)).heap.size := by simp
  have hblk : ∀ b, b < w.heap.size → (w.alloc (.cells cs t)).heap[b]? = w.heap[b]? := fun b hb => Below.heap_alloc w _ b hb
  have hkeep : ∀ b l, γ.own b = some l → (boxGam γ d w.heap.size).own b = some l ∧ (w.alloc (.cells cs t)).heap[b]? = w.heap[b]? := fun b l hb => ⟨by rw [hsame b (h.ownlt b l hb)]; exact hb, hblk b (h.ownlt b l hb)⟩
  have hsub : Sub C γ w (boxGam γ d w.heap.size) (w.alloc (.cells cs t)) := ⟨by omega, fun b hb hz => ⟨⟨hz.1, by rw [hsame b hb]; exact hz.2⟩, hblk b hb⟩, fun b d hb ho => ⟨by rw [hsame b hb]; exact ho, hblk b hb⟩⟩
  have hK : Forgets (killB d) γ (boxGam γ d w.heap.size) := by
    intro b
    by_cases h1 : killB d b = .any
    · exact .inl h1
    · exact .inr ⟨(killB_or d b).resolve_left h1, killB_agree h1 (fun _ => rfl) (fun _ _ => rfl) (fun y hy => by simp only [boxGam, upd]; rw [if_neg hy])⟩
  have m : Move C γ w ⟨γ.hs, γ.rs, γ.bx, (boxGam γ d w.heap.size).own⟩ (w.alloc (.cells cs t)) (fun _ => False) :=
    ⟨⟨by omega, hsub.zn, hsub.made⟩, h.keep.step (M := fun _ => False) ⟨rfl, rfl, rfl, by omega, fun b hb _ => hblk b hb⟩ (fun _ hf => hf.elim), fun k l hk => by
      simp only [boxGam] at hk
      split at hk
      · rename_i e; omega
      · exact Nat.lt_trans (h.ownlt k l hk) hsz, h.lent, fun _ _ => rfl, fun _ _ _ => rfl, fun _ => rfl, fun b l hb _ => hkeep b l hb⟩
  refine ⟨h.defers, m.keep, m.ownlt, h.lent, fun i => svRep_map hsub hK (h.env i), fun p rc hp => ?_, fun b sv' hb => ?_⟩
  · have h2 := m.root (fun hf => hf) (h.roots p rc hp)
    cases rc <;> exact h2
  · simp only [AS.setBox, upd] at hb
    split at hb
    · rename_i e
      subst e
      simp only [Option.some.injEq] at hb
      subst hb
      have hbx : (boxGam γ b w.heap.size).bx b = w.heap.size := by simp [boxGam, upd]
      refine ⟨cs, t, ?_, hsv, h1, ?_, ?_⟩
      · rw [hbx]; exact heap_alloc_new w _
      · rw [hbx]; simp [boxGam]
      · rw [hbx]; exact h.keep.size
    · rename_i e
      obtain ⟨sv0, h2, rfl⟩ := boxes_map hb
      obtain ⟨cs', t', d1, d2, d3, d4, d5⟩ := h.boxes b sv0 h2
      have hbx : (boxGam γ d w.heap.size).bx b = γ.bx b := by simp only [boxGam, upd]; rw [if_neg e]
      refine ⟨cs', t', ?_, boxCells_map hsub hK d2, d3, ?_, ?_⟩ <;> rw [hbx]
      · rw [(hkeep _ _ d4).2]; exact d1
      · exact (hkeep _ _ d4).1
      · exact d5

theorem w_alloc (hG : LangOK C.P G) (h : Rel C γ s a w) {d : Nat} {dd : Option Tmp} {t ty : TypeId} {pos : String} {af : Array Edge} {gd : Option (Nat × Bool)} {sh : Sh} (ht : G.sh t = some sh) :
    ∃ v w' γ', (execOp a.eval ⟨dd, .alloc t, ty, pos, af, gd⟩).run C.P w = .ok (.value v) w' ∧
      Rel C γ' ((s.map (killB d)).setBox d (if sh.agg then .rcd (zeroCells sh) else .one ((zeroCells sh).headD .any))) a w' ∧ svRep C γ' w' (.one (.box d)) v := by
  obtain ⟨i, z, hi, hs, _, hz, hzc⟩ := hG.info t sh ht
  refine ⟨_, _, _, run_v (v := .pointer (some ⟨w.heap.size, 0, none⟩)) (w' := w.alloc (.cells z.cells t)) ?_, rel_box h d z.cells t ?_ (by rw [hzc]; exact cells_one sh sh.zero), by simp [svRep, bvRep, boxGam, upd]⟩
  · simp only [Instr.alloc, Sem.run_bind, zeroValue, typeInfo]
    simp [hi, hz, newVar, newRow, newObj, Sem.run]
  · rw [hzc]
    have hz0 := zero_rep (C := C) (γ := boxGam γ d w.heap.size) (w := w.alloc (.cells z.cells t)) sh
    cases hagg : sh.agg with
    | true => exact hz0
    | false =>
      have hl : (sh.cells sh.zero).length = 1 := by rw [cells_len, size_one hagg]
      obtain ⟨u, hu⟩ := List.length_eq_one_iff.1 hl
      rw [hu] at hz0 ⊢
      have hone := cells_one sh sh.zero u (by rw [hu]; simp)
      cases hzl : zeroCells sh with
      | nil => rw [hzl] at hz0; simp [bvsRep] at hz0
      | cons b bs =>
        rw [hzl] at hz0
        obtain ⟨v, vs, e1, e2, e3⟩ := hz0
        simp only [List.cons.injEq] at e1
        obtain ⟨rfl, rfl⟩ := e1
        refine ⟨u, e2, ?_⟩
        cases sh <;> simp [Sh.agg] at hagg <;> simp [Sh.cells] at hu <;> subst hu <;> rfl

theorem w_alloc_fn (hG : LangOK C.P G) (h : Rel C γ s a w) {d : Nat} {dd : Option Tmp} {t ty : TypeId} {pos : String} {af : Array Edge} {gd : Option (Nat × Bool)} (ht : G.fnT t = true) :
    ∃ v w' γ', (execOp a.eval ⟨dd, .alloc t, ty, pos, af, gd⟩).run C.P w = .ok (.value v) w' ∧
      Rel C γ' ((s.map (killB d)).setBox d (.one .nilf)) a w' ∧ svRep C γ' w' (.one (.box d)) v := by
  obtain ⟨i, hi, hz⟩ := hG.fnT t ht
  refine ⟨_, _, _, run_v (v := .pointer (some ⟨w.heap.size, 0, none⟩)) (w' := w.alloc (.cells (Value.nilFunc).cells t)) ?_, rel_box h d (Value.nilFunc).cells t ⟨.nilFunc, rfl, rfl⟩ (fun u hu => by simp [Value.cells] at hu; subst hu; rfl), by simp [svRep, bvRep, boxGam, upd]⟩
  simp only [Instr.alloc, Sem.run_bind, zeroValue, typeInfo]
  simp [hi, hz, newVar, newRow, newObj, Sem.run]

theorem w_box (h : Rel C γ s a w) {d : Nat} {dd : Option Tmp} {t ty : TypeId} {x : Operand} {pos : String} {af : Array Edge} {gd : Option (Nat × Bool)} (hs : sized (ev s x) = true) :
    ∃ v w' γ', (execOp a.eval ⟨dd, .box t x, ty, pos, af, gd⟩).run C.P w = .ok (.value v) w' ∧
      Rel C γ' ((s.map (killB d)).setBox d (mapSV (killB d) (ev s x))) a w' ∧ svRep C γ' w' (.one (.box d)) v := by
  obtain ⟨k1, k2, k3⟩ := cells_rep (ev_rep h x) hs
  refine ⟨_, _, _, run_v (v := .pointer (some ⟨w.heap.size, 0, none⟩)) (w' := w.alloc (.cells (a.eval x).cells t)) ?_, rel_box h d (a.eval x).cells t ?_ k2, by simp [svRep, bvRep, boxGam, upd]⟩
  · simp [Instr.box, newVar, newRow, newObj, Sem.run]
  · refine boxCells_map ⟨by simp, fun b hb hz => ⟨⟨hz.1, ?_⟩, Below.heap_alloc w _ b hb⟩, fun b e hb ho => ⟨?_, Below.heap_alloc w _ b hb⟩⟩ ?_ k1
    · simp only [boxGam]
      rw [if_neg (by omega)]
      exact hz.2
    · simp only [boxGam]
      rw [if_neg (by omega)]
      exact ho
    · intro b
      by_cases h1 : killB d b = .any
      · exact .inl h1
      · exact .inr ⟨(killB_or d b).resolve_left h1, killB_agree h1 (fun _ => rfl) (fun _ _ => rfl) (fun y hy => by simp only [boxGam, upd]; rw [if_neg hy])⟩
end
end Go.VS
