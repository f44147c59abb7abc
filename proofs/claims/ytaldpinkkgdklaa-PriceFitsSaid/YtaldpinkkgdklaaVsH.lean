/- Value semantics, part H: stores, new slices and new variables are sound. Over any program; no condition. -/
import Derived.Test.YtaldpinkkgdklaaVsG
namespace Go.VS
open Go.RowKit
set_option linter.unusedSimpArgs false
set_option linter.unusedVariables false

section
variable {C : Ctx} {G : Lang} {γ : Gam} {s : AS} {a : Act} {w : World} {N : Nat}

theorem run_storeAt {P : Program} {w : World} {t : TypeId} {i : TypeInfo} (hi : P.info? t = some i) {g o : Nat} {v : Value} {cur : Array Value} {tt : TypeId} (hg : w.heap[g]? = some (.cells cur tt (0, 0)))
    (hs : v.cells.size = i.size) (hl : o + v.cells.toList.length ≤ cur.size) (h1 : ∀ u ∈ v.cells.toList, u.oneCell' = true) :
    (Instr.storeAt t (.pointer (some ⟨g, o, none⟩)) v).run P w = .ok () (w.setRow g (cur.toList.take o ++ v.cells.toList ++ cur.toList.drop (o + v.cells.toList.length)).toArray) := by
  have hst := run_storeCells_at P g o tt v.cells.toList 0 cur w hg (by simpa using hl) h1
  simp only [Nat.add_zero] at hst
  simp only [Instr.storeAt, Instr.sureAddr, storeVar, Sem.run_bind, Sem.run_pure, Result.andThen_ok, run_sizeOf hi, hs, ne_eq, not_true_eq_false, if_false]
  exact hst

theorem exec_store {P : Program} {w w' : World} {a : Act} {t : TypeId} {x y : Operand} {d : Option Tmp} {ty : TypeId} {pos : String} {af : Array Edge} {gd : Option (Nat × Bool)} (h : (Instr.storeAt t (a.eval x) (a.eval y)).run P w = .ok () w') :
    (execOp a.eval ⟨d, .store t x y, ty, pos, af, gd⟩).run P w = .ok .skip w' := by
  simp only [execOp, Sem.run_bind, h, Result.andThen_ok, Sem.run_pure]

theorem flatMap_set {α : Type} (f : α → List Value) (sz : Nat) (hf : ∀ x, (f x).length = sz) (y : α) : ∀ (xs : List α) (i : Nat), i < xs.length →
    (xs.set i y).flatMap f = (xs.flatMap f).take (i * sz) ++ f y ++ (xs.flatMap f).drop (i * sz + (f y).length)
  | x :: xs, 0, _ => by
    have : (f x).length = sz := hf x
    have h2 : (f y).length = (f x).length := by rw [this, hf]
    simp [h2]
  | x :: xs, i + 1, hi => by
    have hx : (f x).length = sz := hf x
    have hy : (f y).length = sz := hf y
    have ih := flatMap_set f sz hf y xs i (by simpa using hi)
    have e1 : (i + 1) * sz = sz + i * sz := by rw [Nat.add_mul]; omega
    simp only [List.set_cons_succ, List.flatMap_cons, ih, e1, hy]
    rw [List.take_append, List.drop_append, hx]
    have h1 : (f x).take (sz + i * sz) = f x := List.take_of_length_le (by omega)
    have h2 : (f x).drop (sz + i * sz + sz) = [] := List.drop_of_length_le (by omega)
    have h3 : sz + i * sz - sz = i * sz := by omega
    have h4 : sz + i * sz + sz - sz = i * sz + sz := by omega
    simp [h1, h2, h3, h4]

/-- The state behind a write into an owned block that changes one root, nothing else. -/
theorem Rel.written {w' : World} {g : Nat} {l : Loc} (h : Rel C γ s a w) (hw : Write C γ w w' g l) {r : Nat} {rc : RC} (hl : l = .hd r ∨ ∃ i, l = .row r i) (hrc : rcRep C γ w' r rc) :
    Rel C γ (s.setRoot r (some rc)) a w' := by
  refine ⟨h.defers, hw.keep h.keep, fun k b hb => Nat.lt_of_lt_of_le (h.ownlt k b hb) hw.grown.size, h.lent, fun i => svRep_mono hw.sub (fun _ _ => Agree.refl γ _) (h.env i), fun q rc' hq => ?_, fun b sv hb => hw.box h.ownlt (h.boxes b sv hb) (by rcases hl with rfl | ⟨i, rfl⟩ <;> simp)⟩
  simp only [AS.setRoot, upd] at hq
  split at hq
  · rename_i e
    subst e
    simp only [Option.some.injEq] at hq
    subst hq
    exact hrc
  · rename_i e
    exact hw.root (h.roots q rc' hq) (by rcases hl with rfl | ⟨i, rfl⟩ <;> simp; exact fun e' => e e'.symm) (fun j => by rcases hl with rfl | ⟨i, rfl⟩ <;> simp; exact fun e' => absurd e'.symm e)

theorem cast_val {sh sh' : Sh} {v : sh.T} {v' : sh'.T} (h : tryCast sh sh' v = some v') : ∃ e : sh = sh', v' = e ▸ v := by
  unfold tryCast at h
  split at h
  · rename_i e
    exact ⟨e, by simpa using h.symm⟩
  · cases h

theorem w_store_adr (hG : LangOK C.P G) (h : Rel C γ s a w) {d : Option Tmp} {t : TypeId} {x y : Operand} {ty : TypeId} {pos : String} {af : Array Edge} {gd : Option (Nat × Bool)} {r i sz : Nat} {sh : Sh} {v : sh.T} {e : TypeId} {xs : List sh.T}
    (hx : ev s x = .one (.adr r i sz)) (hy : ev s y = .one (.val sh v)) (hr : s.roots r = some (.flat e sh xs)) (ht : G.sh t = some sh) (hsz : sz = sh.size) (hi : i < xs.length) :
    ∃ w', (execOp a.eval ⟨d, .store t x y, ty, pos, af, gd⟩).run C.P w = .ok .skip w' ∧ Rel C γ (s.setRoot r (some (.flat e sh (xs.set i v)))) a w' := by
  have hx' := ev_rep h x
  have hy' := ev_rep h y
  rw [hx] at hx'
  rw [hy] at hy'
  obtain ⟨g, n, cap, hh, hv⟩ := hx'
  obtain ⟨c, hp, hvy⟩ := hy'
  obtain ⟨hf, hown, hob⟩ := h.roots r _ hr
  have hc := (pers_flat sh v c hf).1 hp
  subst hc
  subst hsz
  obtain ⟨i0, z, hi0, hs0, _⟩ := hG.info t sh ht
  have hcell : (a.eval y).cells.toList = sh.cells v := by rw [hvy]; exact pack_cells sh v _ hp
  have hcl : (a.eval y).cells.toList.length = sh.size := by rw [hcell, cells_len]
  rw [hh] at hown hob
  have hn : n = xs.length := by
    obtain ⟨ad, cp, e1, _⟩ := own_slice hown
    simp only [Value.slice.injEq] at e1
    exact e1.2.1
  subst hn
  have hle : i * sh.size + (sh.cells v).length ≤ (xs.flatMap sh.cells).length := by
    rw [cells_len, flatMap_len sh.cells sh.size (cells_len sh)]
    have := Nat.mul_le_mul_right sh.size (show i + 1 ≤ xs.length by omega)
    rw [Nat.add_mul] at this
    omega
  obtain ⟨cur, tt, hg, hcs, hown', hgr⟩ := row_store hown (sh.cells v) hle
  have hst := run_storeAt (P := C.P) (w := w) hi0 (v := a.eval y) (o := i * sh.size) hg (by rw [hs0, ← hcl, Array.length_toList]) (by rw [hcell]; exact hcs) (by rw [hcell]; exact cells_one sh v)
  rw [hcell] at hst
  refine ⟨_, exec_store (by rw [hv]; exact hst), ?_⟩
  have hk := hob g rfl
  refine h.written ⟨hk.1, hk.2, hgr, fun _ => by simp⟩ (.inl rfl) ⟨hf, ?_, by rw [hh]; exact hob⟩
  rw [hh, List.length_set, flatMap_set sh.cells sh.size (cells_len sh) v xs i hi]
  exact hown'

theorem w_store_adri (hG : LangOK C.P G) (h : Rel C γ s a w) {d : Option Tmp} {t : TypeId} {x y : Operand} {ty : TypeId} {pos : String} {af : Array Edge} {gd : Option (Nat × Bool)} {r i j sz : Nat} {sh : Sh} {v : sh.T} {e e2 : TypeId} {xss : List (List sh.T)}
    (hx : ev s x = .one (.adri r i j sz)) (hy : ev s y = .one (.val sh v)) (hr : s.roots r = some (.deep e e2 sh xss)) (ht : G.sh t = some sh) (hsz : sz = sh.size) (hi : i < xss.length) (hj : j < (xss.getD i []).length) :
    ∃ w', (execOp a.eval ⟨d, .store t x y, ty, pos, af, gd⟩).run C.P w = .ok .skip w' ∧ Rel C γ (s.setRoot r (some (.deep e e2 sh (xss.set i ((xss.getD i []).set j v))))) a w' := by
  have hx' := ev_rep h x
  have hy' := ev_rep h y
  rw [hx] at hx'
  rw [hy] at hy'
  obtain ⟨g, n, cap, hh, hv⟩ := hx'
  obtain ⟨c, hp, hvy⟩ := hy'
  obtain ⟨hf, htop, hobt, hrows⟩ := h.roots r _ hr
  have hgi : xss.getD i [] = xss[i] := by simp [List.getD_eq_getElem?_getD, hi]
  rw [hgi] at hj ⊢
  obtain ⟨hown, hob⟩ := hrows i xss[i] (by simp [hi])
  have hc := (pers_flat sh v c hf).1 hp
  subst hc
  subst hsz
  obtain ⟨i0, z, hi0, hs0, _⟩ := hG.info t sh ht
  have hcell : (a.eval y).cells.toList = sh.cells v := by rw [hvy]; exact pack_cells sh v _ hp
  have hcl : (a.eval y).cells.toList.length = sh.size := by rw [hcell, cells_len]
  rw [hh] at hown hob
  have hn : n = xss[i].length := by
    obtain ⟨ad, cp, e1, _⟩ := own_slice hown
    simp only [Value.slice.injEq] at e1
    exact e1.2.1
  subst hn
  have hle : j * sh.size + (sh.cells v).length ≤ (xss[i].flatMap sh.cells).length := by
    rw [cells_len, flatMap_len sh.cells sh.size (cells_len sh)]
    have := Nat.mul_le_mul_right sh.size (show j + 1 ≤ xss[i].length by omega)
    rw [Nat.add_mul] at this
    omega
  obtain ⟨cur, tt, hg, hcs, hown', hgr⟩ := row_store hown (sh.cells v) hle
  have hst := run_storeAt (P := C.P) (w := w) hi0 (v := a.eval y) (o := j * sh.size) hg (by rw [hs0, ← hcl, Array.length_toList]) (by rw [hcell]; exact hcs) (by rw [hcell]; exact cells_one sh v)
  rw [hcell] at hst
  refine ⟨_, exec_store (by rw [hv]; exact hst), ?_⟩
  have hk := hob g rfl
  have hw : Write C γ w _ g (.row r i) := ⟨hk.1, hk.2, hgr, fun _ => by simp⟩
  refine h.written hw (.inr ⟨i, rfl⟩) ⟨hf, ?_, hobt, fun k ys hys => ?_⟩
  · rw [List.length_set]
    exact hw.row (by simp) htop hobt
  · rw [List.getElem?_set] at hys
    split at hys
    · rename_i e
      subst e
      simp only [Option.some.injEq] at hys
      subst hys
      refine ⟨?_, by rw [hh]; exact hob⟩
      rw [hh, List.length_set, flatMap_set sh.cells sh.size (cells_len sh) v xss[i] j hj]
      exact hown'
    · rename_i e
      exact ⟨hw.row (by simp; exact fun e' => e e'.symm) (hrows k ys hys).1 (hrows k ys hys).2, (hrows k ys hys).2⟩

/-! ### Forgetting -/
theorem killR_or (r : Nat) (b : BV) : killR r b = .any ∨ killR r b = b := by
  cases b <;> simp only [killR] <;> first | (right; trivial) | (split <;> simp)
theorem killRow_or (r : Nat) (b : BV) : killRow r b = .any ∨ killRow r b = b := by
  cases b <;> simp only [killRow] <;> first | (right; trivial) | (split <;> simp)
theorem killB_or (r : Nat) (b : BV) : killB r b = .any ∨ killB r b = b := by
  cases b <;> simp only [killB] <;> first | (right; trivial) | (split <;> simp)

theorem killR_agree {r : Nat} {γ γ' : Gam} {b : BV} (h : killR r b ≠ .any) (hh : ∀ q, q ≠ r → γ'.hd q = γ.hd q) (hr : ∀ q i, q ≠ r → γ'.rows q i = γ.rows q i) (hb : ∀ x, γ'.bx x = γ.bx x) : Agree γ γ' b := by
  cases b <;> simp only [killR] at h <;> simp only [Agree] <;> first
    | trivial
    | (exact hb _)
    | (exact fun x _ => hb x)
    | (refine hh _ fun e => ?_; subst e; simp at h)
    | (refine hr _ _ fun e => ?_; subst e; simp at h)

theorem killB_agree {x : Nat} {γ γ' : Gam} {b : BV} (h : killB x b ≠ .any) (hh : ∀ q, γ'.hd q = γ.hd q) (hr : ∀ q i, γ'.rows q i = γ.rows q i) (hb : ∀ y, y ≠ x → γ'.bx y = γ.bx y) : Agree γ γ' b := by
  cases b <;> simp only [killB] at h <;> simp only [Agree] <;> first
    | trivial
    | (exact hh _)
    | (exact hr _ _)
    | (refine hb _ fun e => ?_; subst e; simp at h)
    | skip
  intro y hy
  refine hb y fun e => ?_
  subst e
  rename_i caps
  rw [if_pos (List.elem_eq_true_of_mem hy)] at h
  exact h rfl

theorem AS.map_map (s : AS) (K K' : BV → BV) : (s.map K).map K' = s.map (fun b => K' (K b)) := by
  simp only [AS.map]
  congr 1
  · funext i
    cases s.env i <;> simp [mapSV]
  · funext i
    cases s.boxes i with
    | none => rfl
    | some sv => cases sv <;> simp [mapSV]

/-- What a box holds, forgotten in part. -/
theorem boxes_map {K : BV → BV} {s : AS} {b : Nat} {sv : SV} (h : (s.map K).boxes b = some sv) : ∃ sv', s.boxes b = some sv' ∧ sv = mapSV K sv' := by
  simp only [AS.map, Option.map_eq_some_iff] at h
  obtain ⟨sv', h1, h2⟩ := h
  exact ⟨sv', h1, h2.symm⟩

/-! ### Stores of headers -/
theorem w_store_row (hG : LangOK C.P G) (h : Rel C γ s a w) {d : Option Tmp} {t : TypeId} {x y : Operand} {ty : TypeId} {pos : String} {af : Array Edge} {gd : Option (Nat × Bool)} {r q i : Nat} {sh : Sh} {e e2 : TypeId}
    {rc : RC} {xss : List (List sh.T)} {ys : List sh.T}
    (hrc : rc = .deep e e2 sh xss ∨ rc = .hole e e2 sh xss i) (hx : ev s x = .one (.adr r i 1)) (hy : ev s y = .one (.ref q)) (hr : s.roots r = some rc) (hq : s.roots q = some (.flat e2 sh ys))
    (ht : G.sh t = some (.sl sh)) (hi : i < xss.length) (hne : r ≠ q) (hl : C.nl ≤ q) :
    ∃ w' γ', (execOp a.eval ⟨d, .store t x y, ty, pos, af, gd⟩).run C.P w = .ok .skip w' ∧
      Rel C γ' (((s.map (killR q)).map (killRow r)).setRoot q none |>.setRoot r (some (.deep e e2 sh (xss.set i ys)))) a w' := by
  have hx' := ev_rep h x
  have hy' := ev_rep h y
  rw [hx] at hx'
  rw [hy] at hy'
  obtain ⟨g, n, cap, hh, hv⟩ := hx'
  simp only [svRep, bvRep] at hy'
  obtain ⟨i0, z, hi0, hs0, _⟩ := hG.info t _ ht
  obtain ⟨hfq, hownq, hobq⟩ := h.roots q _ hq
  have htop : sh.flat = true ∧ w.ownsRow 0 e 1 (γ.hd r) xss.length (rowsOf γ r xss.length) ∧ ownB C γ (γ.hd r) (.hd r) ∧ ∀ k xs, k ≠ i → xss[k]? = some xs → rowRep C γ w r e2 sh k xs := by
    have h1 := h.roots r _ hr
    rcases hrc with rfl | rfl
    · exact ⟨h1.1, h1.2.1, h1.2.2.1, fun k xs _ hk => h1.2.2.2 k xs hk⟩
    · exact h1
  obtain ⟨hf, hown, hob, hrows⟩ := htop
  rw [hh] at hown hob
  have hn : n = xss.length := by
    obtain ⟨ad, cp, e1, _⟩ := own_slice hown
    simp only [Value.slice.injEq] at e1
    exact e1.2.1
  subst hn
  have hle : i * 1 + [γ.hd q].length ≤ (rowsOf γ r xss.length).length := by simp [rowsOf]; omega
  obtain ⟨cur, tt, hg, hcs, hown', hgr⟩ := row_store hown [γ.hd q] hle
  have hst := run_storeAt (P := C.P) (w := w) hi0 (v := a.eval y) (o := i * 1) hg (by rw [hs0, hy']; rfl) (by rw [hy']; exact hcs) (by rw [hy']; intro u hu; simp [Gam.hd, Sl.v, Value.cells] at hu; subst hu; rfl)
  have hcell : (a.eval y).cells.toList = [γ.hd q] := by rw [hy']; rfl
  rw [hcell] at hst
  generalize w.setRow g (cur.toList.take (i * 1) ++ [γ.hd q] ++ cur.toList.drop (i * 1 + [γ.hd q].length)).toArray = W at hown' hgr hst
  have hk := hob g rfl
  have hw : Write C γ w W g (.hd r) := ⟨hk.1, hk.2, hgr, fun _ => by simp⟩
  -- the header of q becomes the header of row i of r
  let γ' : Gam := ⟨γ.hs, fun p k => if p = r ∧ k = i then γ.hs q else γ.rs p k, γ.bx, fun b => if (γ.hd q).ownBlock = some b then some (.row r i) else γ.own b⟩
  have hhd : ∀ p, γ'.hd p = γ.hd p := fun _ => rfl
  have hrow : ∀ p k, (p, k) ≠ (r, i) → γ'.rows p k = γ.rows p k := by
    intro p k hpk
    simp only [Gam.rows, γ']
    rw [if_neg (fun e => hpk (by rw [e.1, e.2]))]
  have hrowi : γ'.rows r i = γ.hd q := by simp [Gam.rows, γ', Gam.hd]
  have hqown : ∀ k, (γ.hd q).ownBlock = some k → γ.own k = some (.hd q) := fun k hk => (hobq k hk).1
  have howne : ∀ b, γ.own b ≠ some (.hd q) → γ'.own b = γ.own b := by
    intro b hb
    simp only [γ']
    rw [if_neg (fun e => hb (hqown b e))]
  have hz : ∀ b, C.zn γ b → C.zn γ' b := by
    intro b hb
    refine ⟨hb.1, ?_⟩
    rw [howne b (by rw [hb.2]; simp)]
    exact hb.2
  have hsub : Sub C γ w γ' W := ⟨hw.sub.size, fun b hb hzb => ⟨hz b hzb, (hw.sub.zn b hb hzb).2⟩, fun b d hb ho => ⟨by rw [howne b (by rw [ho]; simp)]; exact ho, (hw.sub.made b d hb ho).2⟩⟩
  have hK : Forgets (fun b => killRow r (killR q b)) γ γ' := by
    intro b
    by_cases h1 : killRow r (killR q b) = .any
    · exact .inl h1
    · right
      have h2 : killR q b ≠ .any := by
        intro e'
        rw [e'] at h1
        exact h1 rfl
      have h3 : killR q b = b := (killR_or q b).resolve_left h2
      rw [h3] at h1
      have h4 : killRow r b = b := (killRow_or r b).resolve_left h1
      refine ⟨by show killRow r (killR q b) = b; rw [h3, h4], ?_⟩
      cases b <;> simp only [killRow] at h1 <;> simp only [Agree] <;> first
        | trivial
        | rfl
        | (exact fun _ _ => rfl)
        | (refine hrow _ _ fun e => ?_; simp only [Prod.mk.injEq] at e; simp [e.1] at h1)
  refine ⟨_, γ', exec_store (by rw [hv]; exact hst), ⟨h.defers, hw.keep h.keep, fun k b hb => ?_, h.lent, fun j => ?_, fun p rc' hp => ?_, fun b sv hb => ?_⟩⟩
  · simp only [γ'] at hb
    split at hb
    · rename_i e
      exact Nat.lt_of_lt_of_le (h.ownlt k _ (hqown k e)) hw.grown.size
    · exact Nat.lt_of_lt_of_le (h.ownlt k b hb) hw.grown.size
  · rw [AS.map_map]
    exact svRep_map hsub hK (h.env j)
  · have hother : ∀ (p : Nat) (rc' : RC), p ≠ r → p ≠ q → s.roots p = some rc' → rcRep C γ' W p rc' := by
      intro p rc' h1 h2 hp
      have h3 := hw.root (h.roots p rc' hp) (by simp; exact fun e' => h1 e'.symm) (fun _ => by simp)
      have hB : ∀ (v : Value) (l : Loc), l ≠ .hd q → ownB C γ v l → ownB C γ' v l := by
        intro v l hl' ho k hk
        refine ⟨?_, (ho k hk).2⟩
        rw [howne k (by rw [(ho k hk).1]; simpa using hl')]
        exact (ho k hk).1
      have hrw : ∀ k, γ'.rows p k = γ.rows p k := fun k => hrow p k (by simp [h1])
      have hrf : ∀ m, rowsOf γ' p m = rowsOf γ p m := fun m => by simp [rowsOf, hrw]
      cases rc' with
      | flat e' s' xs => exact ⟨h3.1, h3.2.1, hB _ _ (by simp [h2]) h3.2.2⟩
      | deep e' e2' s' xs => exact ⟨h3.1, by rw [hrf]; exact h3.2.1, hB _ _ (by simp [h2]) h3.2.2.1, fun k ys hk => by
          have h4 := h3.2.2.2 k ys hk
          unfold rowRep at *
          rw [hrw]
          exact ⟨h4.1, hB _ _ (by simp) h4.2⟩⟩
      | hole e' e2' s' xs m => exact ⟨h3.1, by rw [hrf]; exact h3.2.1, hB _ _ (by simp [h2]) h3.2.2.1, fun k ys hne hk => by
          have h4 := h3.2.2.2 k ys hne hk
          unfold rowRep at *
          rw [hrw]
          exact ⟨h4.1, hB _ _ (by simp) h4.2⟩⟩
    simp only [AS.setRoot, upd] at hp
    split at hp
    · rename_i e'
      subst e'
      simp only [Option.some.injEq] at hp
      subst hp
      refine ⟨hf, ?_, ?_, fun k zs hzs => ?_⟩
      · rw [List.length_set]
        show World.ownsRow W 0 e 1 (γ.hd p) xss.length (rowsOf γ' p xss.length)
        rw [hh]
        have hrf : rowsOf γ' p xss.length = (rowsOf γ p xss.length).take (i * 1) ++ [γ.hd q] ++ (rowsOf γ p xss.length).drop (i * 1 + [γ.hd q].length) := by
          apply List.ext_getElem?
          intro j
          simp only [rowsOf, List.getElem?_map, List.getElem?_append, List.getElem?_take, List.getElem?_drop, List.length_append, List.length_take, List.length_map, List.length_range, List.length_singleton, Nat.mul_one]
          have hm : min i xss.length = i := by omega
          rw [hm]
          by_cases h1 : j < i
          · have h2 : j < i + 1 := by omega
            rw [if_pos h2, if_pos h1, if_pos h1]
            rcases Nat.lt_or_ge j xss.length with h3 | h3
            · simp [List.getElem?_range h3, hrow p j (by simp; omega)]
            · simp [h3]
          · by_cases h2 : j < i + 1
            · have : j = i := by omega
              subst this
              simp [List.getElem?_range hi, hrowi]
            · rw [if_neg h2]
              have : i + 1 + (j - (i + 1)) = j := by omega
              rw [this]
              rcases Nat.lt_or_ge j xss.length with h3 | h3
              · simp [List.getElem?_range h3, hrow p j (by simp; omega)]
              · simp [h3]
        rw [hrf]
        exact hown'
      · intro k hk
        have := hob k (by rw [← hh]; exact hk)
        refine ⟨?_, this.2⟩
        rw [howne k (by rw [this.1]; simpa using hne)]
        exact this.1
      · rw [List.getElem?_set] at hzs
        split at hzs
        · rename_i e'
          subst e'
          simp only [hi, if_true, Option.some.injEq] at hzs
          subst hzs
          unfold rowRep
          rw [hrowi]
          refine ⟨hw.row (by simpa using Ne.symm hne) hownq hobq, fun k hk => ⟨?_, (hobq k hk).2⟩⟩
          simp [γ', hk]
        · rename_i e'
          have h4 := hrows k zs (fun e => e' e.symm) hzs
          unfold rowRep at *
          rw [hrow p k (by simp; exact fun e => e' e.symm)]
          refine ⟨hw.row (by simp) h4.1 h4.2, fun m hm => ⟨?_, (h4.2 m hm).2⟩⟩
          rw [howne m (by rw [(h4.2 m hm).1]; simp)]
          exact (h4.2 m hm).1
    · rename_i e'
      split at hp
      · cases hp
      · rename_i e3
        exact hother p rc' e' e3 hp
  · rw [AS.map_map] at hb
    obtain ⟨sv', h1, rfl⟩ := boxes_map (s := s) hb
    obtain ⟨cs, t', e1, e2', e3, e4, e5⟩ := hw.box h.ownlt (h.boxes b sv' h1) (by simp)
    refine ⟨cs, t', e1, ?_, e3, ?_, e5⟩
    · obtain ⟨cs0, t0, d1, d2, d3, d4, d5⟩ := h.boxes b sv' h1
      have hge : γ.bx b ≠ g := by
        intro e6
        rw [e6, hk.1] at d4
        simp at d4
      have hsame := hw.grown.block (γ.bx b) (h.ownlt _ _ d4) (by simpa using hge)
      rw [hsame, d1] at e1
      simp only [Option.some.injEq, Obj.cells.injEq, and_true] at e1
      obtain ⟨rfl, rfl⟩ := e1
      exact boxCells_map hsub hK d2
    · rw [howne _ (by rw [e4]; simp)]
      exact e4
end
end Go.VS
