/- mass.bound: what is left of links when those alone in their row or column are taken away again and again. Condition: at most 25 links of small numbers. -/
import Derived.Test.YtloipnalmkdldaaWg
import Derived.Maps.OwnOps
import Derived.Maps.Own
import Derived.Maps.Views
import Derived.Tactics2
import Derived.Lib.Hide
namespace Go.Proofs.Ytloipnalmkdldaa
open Go.RowKit Go.VS Go.OT Go.Maps
set_option linter.unusedSimpArgs false
set_option linter.unusedVariables false

theorem lawI : Keyed Try.prog 3 := int_keyed Try.underlying3
theorem zeroI (w : World) : (zeroValue 3).run Try.prog w = .ok (.int .i64 0) w := by kernel_rfl

set_option maxRecDepth 20000 in
theorem clo_bound {H : Type} (w : World) (b1 b2 m1 m2 n1 n2 : Nat) (D1 D2 : DataW H) (x y c1 c2 : Int)
    (h1 : w.cell? ⟨b1, 0, none⟩ = some (.map (some m1))) (h2 : w.cell? ⟨b2, 0, none⟩ = some (.map (some m2)))
    (o1 : w.ownsMap Try.prog 3 (plainElem Try.prog 3) m1 n1 D1) (o2 : w.ownsMap Try.prog 3 (plainElem Try.prog 3) m2 n2 D2)
    (hx : (Lit.int .i64 x).wf = true) (hy : (Lit.int .i64 y).wf = true)
    (e1 : D1.atKey (.int .i64 x) (.lit (.int .i64 0)) = .lit (.int .i64 c1)) (e2 : D2.atKey (.int .i64 y) (.lit (.int .i64 0)) = .lit (.int .i64 c2)) :
    Calls Try.prog 51 #[.agg #[.int .i64 x, .int .i64 y], .pointer (some ⟨b1, 0, none⟩), .pointer (some ⟨b2, 0, none⟩)] w fun e w' =>
      e = .returned (.bool (decide (c1 < 2) || decide (c2 < 2))) ∧ Keep (fun _ => False) w w' := by
  have hkx : keyOf Try.prog 3 (.int .i64 x) = some (.int .i64 x) := keyOf_int_mk Try.underlying3 hx
  have hky : keyOf Try.prog 3 (.int .i64 y) = some (.int .i64 y) := keyOf_int_mk Try.underlying3 hy
  have lt1 : b1 < w.heap.size := by
    rcases Nat.lt_or_ge b1 w.heap.size with h | h
    · exact h
    · simp [World.cell?, Array.getElem?_eq_none h] at h1
  have lt2 : b2 < w.heap.size := by
    rcases Nat.lt_or_ge b2 w.heap.size with h | h
    · exact h
    · simp [World.cell?, Array.getElem?_eq_none h] at h2
  obtain ⟨W, hW⟩ : ∃ W, W = w.alloc (.cells #[.int .i64 x, .int .i64 y] 32) := ⟨_, rfl⟩
  have hWg : W.heap[w.heap.size]? = some (.cells #[.int .i64 x, .int .i64 y] 32 (0, 0)) := by rw [hW]; simp only [World.alloc, Array.getElem?_push, if_true]
  have hk : Keep (fun _ => False) w W := by
    rw [hW]
    exact ⟨rfl, rfl, rfl, by simp only [World.alloc, Array.size_push]; omega, fun k hk _ => by simp only [World.alloc, Array.getElem?_push]; rw [if_neg (by omega)]⟩
  have l1 : W.cell? ⟨b1, 0, none⟩ = some (.map (some m1)) := (World.cell?_of_block (hk.block b1 lt1 (fun h => h))).trans h1
  have l2 : W.cell? ⟨b2, 0, none⟩ = some (.map (some m2)) := (World.cell?_of_block (hk.block b2 lt2 (fun h => h))).trans h2
  have l3 : W.cell? ⟨w.heap.size, 0, none⟩ = some (.int .i64 x) := by simp [World.cell?, hWg]
  have l4 : W.cell? ⟨w.heap.size, 1, none⟩ = some (.int .i64 y) := by simp [World.cell?, hWg]
  have p1 : W.ownsMap Try.prog 3 (plainElem Try.prog 3) m1 n1 D1 := by rw [hW]; exact o1.alloc _
  have p2 : W.ownsMap Try.prog 3 (plainElem Try.prog 3) m2 n2 D2 := by rw [hW]; exact o2.alloc _
  obtain ⟨c1', r1, a1, _⟩ := p1.lookup_int lawI Try.underlying71 Try.underlying3 (zeroI W) hkx
  obtain ⟨c2', r2, a2, _⟩ := p2.lookup_int lawI Try.underlying71 Try.underlying3 (zeroI W) hky
  obtain rfl : c1' = c1 := by rw [e1] at a1; injection a1 with a1; injection a1 with _ a1; exact a1.symm
  obtain rfl : c2' = c2 := by rw [e2] at a2; injection a2 with a2; injection a2 with _ a2; exact a2.symm
  rw [hW] at hk l1 l2 l3 l4 r1 r2
  go_enter Try.func51, Try.ntmps51
  by_cases q1 : c1' < 2
  · go_wp2
    all_goals (try go_ret)
    all_goals first | (refine ⟨?_, hk⟩; simp [q1]; done) | (refine ⟨?_, hk⟩; simp [q1]; omega) | exact ⟨by simp [q1]; omega, hk⟩ | exact ⟨by rw [decide_eq_false q1]; rfl, hk⟩ | trace_state
  · go_wp2
    all_goals (try go_ret)
    all_goals first | (refine ⟨?_, hk⟩; simp [q1]; done) | (refine ⟨?_, hk⟩; simp [q1]; omega) | exact ⟨by simp [q1]; omega, hk⟩ | exact ⟨by rw [decide_eq_false q1]; rfl, hk⟩ | trace_state

theorem omap_keep {H : Type} {P : Program} {t : TypeId} {R : Value → Option (DataW H × List MemPlace)} {w w' : World} {b n : Nat} {D : DataW H} (h : w.ownsMap P t R b n D) (e : w'.heap[b]? = w.heap[b]?) : w'.ownsMap P t R b n D := by
  obtain ⟨es, clock, hb, r⟩ := h
  exact ⟨es, clock, e.trans hb, r⟩
/-- slices.Clone of pairs: a new row. -/
theorem clone_calls (w : World) (Z : Nat → Prop) (l : List Pr) (v : Value) (hv : vrep w Z (.sl (.prod .int .int)) l v) (hl : l.length ≤ 1000) :
    Calls Try.prog 50 #[v] w fun e w' => ∃ X : Sl, e = .returned X.v ∧ w'.ownsRow 0 32 2 X.v l.length (l.flatMap (Sh.cells (.prod .int .int))) ∧
      (∀ b, X.v.ownBlock = some b → w.heap.size ≤ b ∧ b < w'.heap.size) ∧ Keep (fun _ => False) w w' := by
  obtain ⟨cs, h1, h2⟩ := hv
  refine (cloneP_spec.run ⟨Try.prog, fun _ => False, w, Z, 0, fun _ => undef⟩ gam0 (l, ()) [v] hl ⟨rfl, rfl, fun r hr => absurd hr (Nat.not_lt_zero _), fun k l h => (by cases h), ⟨v, [], rfl, ⟨cs, pers_mono (Nat.le_refl _) (fun b hb hz => ⟨⟨.inl hz, rfl⟩, rfl⟩) _ _ _ h1, h2⟩, rfl⟩, fun p hp => (by cases hp)⟩).mono ?_
  rintro e w' ⟨u, γ, rfl, ⟨⟨ids, us, rfl, ⟨u1, us', i, ids', rfl, rfl, rfl, ⟨_, hr, ho⟩, _, rfl⟩, _⟩, _, hlt⟩, hk⟩
  refine ⟨γ.hs i, rfl, hr, fun b hb => ?_, hk⟩
  obtain ⟨g1, g2⟩ := ho b hb
  exact ⟨g2.resolve_right (fun h => h), hlt _ _ g1⟩

/-- slices.DeleteFunc of pairs, of a row of the caller's own. -/
theorem del_calls (w : World) (n : Nat) (X : Sl) (l : List Pr) (f : Value) (q : Pr × Unit → Prop) (d : Pr × Unit → Bool) (hX : w.ownsRow 0 32 2 X.v l.length (l.flatMap (Sh.cells (.prod .int .int)))) (hXb : ∀ b, X.v.ownBlock = some b → n ≤ b ∧ b < w.heap.size)
    (hl : l.length ≤ 1000) (hq : ∀ y ∈ l, q (y, ())) (hf : FnOK Try.prog (fun b => X.v.ownBlock = some b) w [.prod .int .int] .bool q d f) :
    Calls Try.prog 49 #[X.v, f] w fun e w' => ∃ v, e = .returned v ∧ vrep w' (fun b => n ≤ b ∨ w.heap.size ≤ b) (.sl (.prod .int .int)) (l.filter fun y => !d (y, ())) v ∧
      Keep (fun b => X.v.ownBlock = some b) w w' := by
  refine (del_spec.run ⟨Try.prog, fun b => X.v.ownBlock = some b, w, fun _ => False, 1, fun _ => X.v⟩ ⟨fun _ => X, fun _ _ => ⟨none, 0, 0⟩, fun _ => 0, fun b => if X.v.ownBlock = some b then some (.hd 0) else none⟩ (.flat 32 (.prod .int .int) l, (q, d), ()) [X.v, f] ⟨⟨rfl, hl⟩, hq⟩
    ⟨rfl, rfl, fun r hr => rfl, fun k l h => ?_, ⟨X.v, [f], rfl, rfl, f, [], rfl, hf, rfl⟩, fun p hp => ?_⟩).mono ?_
  · dsimp only at h
    split at h
    · rename_i h1; exact (hXb k h1).2
    · cases h
  · obtain rfl : p = (0, RC.flat 32 (.prod .int .int) l) := List.mem_singleton.1 hp
    refine ⟨rfl, hX, fun k hk => ?_⟩
    exact ⟨if_pos hk, .inr hk⟩
  · rintro e w' ⟨u, γ, rfl, ⟨⟨ids, us, rfl, ⟨u1, us', rfl, ⟨cs, h1, h2⟩, _, rfl⟩, _⟩, _, _⟩, hk⟩
    refine ⟨u1, rfl, ⟨cs, pers_mono (Nat.le_refl _) (fun b hb hz => ⟨?_, rfl⟩) _ _ _ h1, h2⟩, hk⟩
    rcases hz.1 with h | h | h
    · exact h.elim
    · exact .inr h
    · exact .inl (hXb b h).1

theorem wf_small {x : Int} (h : 0 ≤ x ∧ x ≤ 1000) : (Lit.int .i64 x).wf = true := by
  have h1 : IntKind.i64.min = -9223372036854775808 := rfl
  have h2 : IntKind.i64.max = 9223372036854775807 := rfl
  simp only [Lit.wf, h1, h2, Bool.and_eq_true, decide_eq_true_eq]
  omega
theorem put_cnt {H : Type} {D : DataW H} (hD : Go.Maps.IsMap D) {f g : Int → Nat} {x c : Int} (hc : c = f x + 1) (h : ∀ r : Int, D.atKey (.int .i64 r) (.lit (.int .i64 0)) = .lit (.int .i64 (f r)))
    (hg : ∀ r, (g r : Int) = f r + if x = r then 1 else 0) : ∀ r : Int, (D.put (.int .i64 x) (.lit (.int .i64 c))).atKey (.int .i64 r) (.lit (.int .i64 0)) = .lit (.int .i64 (g r)) := by
  intro r
  rw [hg]
  by_cases e : x = r
  · subst e
    rw [if_pos rfl, Go.Maps.atKey_put_same hD (show WideAt.IsKeyLit (.int .i64 x) from trivial), hc]
  · rw [if_neg e, Go.Maps.atKey_put_other (by intro he; injection he with _ he; exact e he.symm), h, Int.add_zero]
def InB (l : List Pr) : Prop := ∀ p ∈ l, (0 ≤ p.1 ∧ p.1 ≤ 1000) ∧ (0 ≤ p.2 ∧ p.2 ≤ 1000)
@[push_cast] def boundCon : Con := ⟨[.dat (.sl (.prod .int .int))], fun (x : List Pr × Unit) => x.1.length ≤ 25 ∧ InB x.1, fun (x : List Pr × Unit) => { res := [.val (.sl (.prod .int .int)) (boundV x.1)] }⟩

set_option maxRecDepth 20000 in
theorem bound_calls (w : World) (Z : Nat → Prop) (l0 : List Pr) (v0 : Value) (hZ : ∀ b, Z b → b < w.heap.size) (hv : vrep w Z (.sl (.prod .int .int)) l0 v0) (hl : l0.length ≤ 25) (hi : InB l0) :
    Calls Try.prog 30 #[v0] w fun e w' => ∃ v, e = .returned v ∧ vrep w' (fun b => Z b ∨ w.heap.size ≤ b) (.sl (.prod .int .int)) (boundV l0) v ∧ Keep (fun _ => False) w w' := by
  have hmm := @run_makeMap Try.prog
  obtain ⟨c0, ⟨ad0, cap0, rfl, _⟩, hv0⟩ := id hv
  go_enter Try.func30, Try.ntmps30
  go_wp2
  go_loopw [0] (fun v wr => ∃ l : List Pr, vrep wr (fun b => Z b ∨ w.heap.size ≤ b) (.sl (.prod .int .int)) l v ∧ boundV l = boundV l0 ∧ l.length ≤ 25 ∧ InB l ∧ Keep (fun _ => False) w wr) (fun v _ => match v with | .slice _ n _ => n | _ => 0)
  case atStart =>
    obtain ⟨cs, g1, g2⟩ := hv
    exact ⟨l0, ⟨cs, pers_mono (Nat.le_refl _) (fun b hb hz => ⟨.inl hz, rfl⟩) _ _ _ g1, g2⟩, rfl, hl, hi, Keep.refl _ _⟩
  case round =>
    obtain ⟨w1, hw1⟩ : ∃ w1, w1 = wr := ⟨_, rfl⟩
    subst hw1
    obtain ⟨l, hvl, hb, hle, hin, hk⟩ := hrel
    have hvl' := hvl
    obtain ⟨c1, ⟨ad, cap, rfl, hc1, hc2, hall⟩, he0⟩ := hvl'
    obtain rfl : u0 = .slice ad l.length cap := he0
    go_wp2
    obtain ⟨W, hW⟩ : ∃ W, W = ((((w1.alloc (Obj.map #[] 0)).alloc (Obj.map #[] 0)).alloc (Obj.cells #[Value.map (some w1.heap.size)] 71)).alloc (Obj.cells #[Value.map (some (w1.heap.size + 1))] 71)) := ⟨_, rfl⟩
    rw [← hW]
    have hWs : W.heap.size = w1.heap.size + 4 := by rw [hW]; simp only [World.alloc, Array.size_push]
    have hWo : ∀ k, k < w1.heap.size → W.heap[k]? = w1.heap[k]? := fun k hk => by
      rw [hW]; simp only [World.alloc, Array.getElem?_push, Array.size_push]
      rw [if_neg (by omega), if_neg (by omega), if_neg (by omega), if_neg (by omega)]
    have hW3 : W.cell? ⟨w1.heap.size + 1 + 1, 0, none⟩ = some (.map (some w1.heap.size)) := by
      have h : W.heap[w1.heap.size + 1 + 1]? = some (.cells #[.map (some w1.heap.size)] 71 (0, 0)) := by
        rw [hW]; simp only [World.alloc, Array.getElem?_push, Array.size_push]
        rw [if_neg (by omega), if_pos trivial]
      simp [World.cell?, h]
    have hW4 : W.cell? ⟨w1.heap.size + 1 + 1 + 1, 0, none⟩ = some (.map (some (w1.heap.size + 1))) := by
      have h : W.heap[w1.heap.size + 1 + 1 + 1]? = some (.cells #[.map (some (w1.heap.size + 1))] 71 (0, 0)) := by
        rw [hW]; simp only [World.alloc, Array.getElem?_push, Array.size_push]
        rw [if_pos trivial]
      simp [World.cell?, h]
    have hM1 : W.ownsMap Try.prog 3 (plainElem (H := Nat) Try.prog 3) w1.heap.size 0 (.map []) := by
      rw [hW]; exact (((World.ownsMap_made _ _ _ _).alloc _).alloc _).alloc _
    have hM2 : W.ownsMap Try.prog 3 (plainElem (H := Nat) Try.prog 3) (w1.heap.size + 1) 0 (.map []) := by
      have h := World.ownsMap_made (w1.alloc (.map #[] 0)) Try.prog 3 (plainElem (H := Nat) Try.prog 3)
      rw [show (w1.alloc (.map #[] 0)).heap.size = w1.heap.size + 1 from by simp only [World.alloc, Array.size_push]] at h
      rw [hW]; exact (h.alloc _).alloc _
    have hkW : Keep (fun _ => False) w1 W := ⟨by rw [hW]; rfl, by rw [hW]; rfl, by rw [hW]; rfl, by omega, fun k hk _ => hWo k hk⟩
    clear hW
    go_loopw [12] (fun i ws => ∃ (k : Nat) (D1 D2 : DataW Nat), k ≤ l.length ∧ i = .int .i64 k ∧ ws.cell? ⟨w1.heap.size + 1 + 1, 0, none⟩ = some (.map (some w1.heap.size)) ∧ ws.cell? ⟨w1.heap.size + 1 + 1 + 1, 0, none⟩ = some (.map (some (w1.heap.size + 1))) ∧
        ws.ownsMap Try.prog 3 (plainElem Try.prog 3) w1.heap.size k D1 ∧ ws.ownsMap Try.prog 3 (plainElem Try.prog 3) (w1.heap.size + 1) k D2 ∧ Go.Maps.IsMap D1 ∧ Go.Maps.IsMap D2 ∧
        (∀ r : Int, D1.atKey (.int .i64 r) (.lit (.int .i64 0)) = .lit (.int .i64 (cntR (l.take k) r))) ∧ (∀ r : Int, D2.atKey (.int .i64 r) (.lit (.int .i64 0)) = .lit (.int .i64 (cntC (l.take k) r))) ∧ Keep (fun _ => False) w1 ws)
      (fun i _ => l.length - (intOf i).toNat)
    case atStart => exact ⟨0, _, _, Nat.zero_le _, rfl, hW3, hW4, hM1, hM2, Go.Maps.isMap_empty, Go.Maps.isMap_empty, fun _ => rfl, fun _ => rfl, hkW⟩
    case round =>
      obtain ⟨k, D1, D2, hkl, rfl, hc3, hc4, hm1, hm2, hd1, hd2, ha1, ha2, hkk⟩ := hrel
      rcases Nat.lt_or_ge k l.length with hlt | hge
      · obtain ⟨b, off, c, rfl, hz, hbl, ⟨cx, cy, rfl, hx, hy⟩, hcell⟩ := hall k hlt
        obtain rfl : cx = [.int .i64 (l[k]'hlt).1] := hx
        obtain rfl : cy = [.int .i64 (l[k]'hlt).2] := hy
        obtain ⟨x, hx⟩ : ∃ x, x = (l[k]'hlt).1 := ⟨_, rfl⟩
        obtain ⟨y, hy⟩ : ∃ y, y = (l[k]'hlt).2 := ⟨_, rfl⟩
        rw [← hx, ← hy] at hcell
        have hbs : wr.heap[b]? = w1.heap[b]? := hkk.block b hbl (fun h => h)
        have hx0 : wr.cell? ⟨b, off + k * 2, none⟩ = some (.int .i64 x) := (World.cell?_of_block hbs).trans (hcell 0 _ rfl)
        have hy0 : wr.cell? ⟨b, off + k * 2 + 1, none⟩ = some (.int .i64 y) := (World.cell?_of_block hbs).trans (hcell 1 _ rfl)
        have hbx := hin _ (List.getElem_mem hlt)
        rw [← hx, ← hy] at hbx
        have hkx : keyOf Try.prog 3 (.int .i64 x) = some (.int .i64 x) := keyOf_int_mk Try.underlying3 (wf_small (by omega))
        have hky : keyOf Try.prog 3 (.int .i64 y) = some (.int .i64 y) := keyOf_int_mk Try.underlying3 (wf_small (by omega))
        obtain ⟨V, hV⟩ : ∃ V, V = wr.alloc (.cells #[.int .i64 x, .int .i64 y] 32) := ⟨_, rfl⟩
        have hVg : V.heap[wr.heap.size]? = some (.cells #[.int .i64 x, .int .i64 y] 32 (0, 0)) := by rw [hV]; simp only [World.alloc, Array.getElem?_push, if_true]
        have hVs : V.heap.size = wr.heap.size + 1 := by rw [hV]; simp only [World.alloc, Array.size_push]
        have hVo : ∀ k, k < wr.heap.size → V.heap[k]? = wr.heap[k]? := fun k hk => by rw [hV]; simp only [World.alloc, Array.getElem?_push]; rw [if_neg (by omega)]
        have hVk : Keep (fun _ => False) wr V := ⟨by rw [hV]; rfl, by rw [hV]; rfl, by rw [hV]; rfl, by omega, fun k hk _ => hVo k hk⟩
        have g1 := hm1.lt
        have g2 := hm2.lt
        have gs := hkk.size
        have lt4 : w1.heap.size + 1 + 1 + 1 < wr.heap.size := by
          rcases Nat.lt_or_ge (w1.heap.size + 1 + 1 + 1) wr.heap.size with h | h
          · exact h
          · simp [World.cell?, Array.getElem?_eq_none h] at hc4
        have v3 : V.cell? ⟨w1.heap.size + 1 + 1, 0, none⟩ = some (.map (some w1.heap.size)) := (World.cell?_of_block (hVo (w1.heap.size + 1 + 1) (by omega))).trans hc3
        have v4 : V.cell? ⟨w1.heap.size + 1 + 1 + 1, 0, none⟩ = some (.map (some (w1.heap.size + 1))) := (World.cell?_of_block (hVo (w1.heap.size + 1 + 1 + 1) (by omega))).trans hc4
        have vx : V.cell? ⟨wr.heap.size, 0, none⟩ = some (.int .i64 x) := by simp [World.cell?, hVg]
        have vy : V.cell? ⟨wr.heap.size, 1, none⟩ = some (.int .i64 y) := by simp [World.cell?, hVg]
        have vm1 : V.ownsMap Try.prog 3 (plainElem (H := Nat) Try.prog 3) w1.heap.size k D1 := by rw [hV]; exact hm1.alloc _
        have vm2 : V.ownsMap Try.prog 3 (plainElem (H := Nat) Try.prog 3) (w1.heap.size + 1) k D2 := by rw [hV]; exact hm2.alloc _
        obtain ⟨q1, r1, a1, wq1⟩ := vm1.lookup_int lawI Try.underlying71 Try.underlying3 (zeroI V) hkx
        obtain ⟨V1, r2, vm1', gr1⟩ := vm1.update lawI Try.underlying71 (by unfold maxLen; omega) hkx (plainElem_int (H := Nat) Try.underlying3 (wrap64_wf (q1 + 1)))
        have vm2' := vm2.kept gr1 (by simp)
        have u4 : V1.cell? ⟨w1.heap.size + 1 + 1 + 1, 0, none⟩ = some (.map (some (w1.heap.size + 1))) := (World.cell?_of_block (gr1.block (w1.heap.size + 1 + 1 + 1) (by omega) (by simp; omega))).trans v4
        have u3 : V1.cell? ⟨w1.heap.size + 1 + 1, 0, none⟩ = some (.map (some w1.heap.size)) := (World.cell?_of_block (gr1.block (w1.heap.size + 1 + 1) (by omega) (by simp; omega))).trans v3
        have uy : V1.cell? ⟨wr.heap.size, 1, none⟩ = some (.int .i64 y) := (World.cell?_of_block (gr1.block wr.heap.size (by omega) (by simp; omega))).trans vy
        obtain ⟨q2, r3, a2, wq2⟩ := vm2'.lookup_int lawI Try.underlying71 Try.underlying3 (zeroI V1) hky
        obtain ⟨V2, r4, vm2'', gr2⟩ := vm2'.update lawI Try.underlying71 (by unfold maxLen; omega) hky (plainElem_int (H := Nat) Try.underlying3 (wrap64_wf (q2 + 1)))
        have vm1'' := vm1'.kept gr2 (by simp)
        have z4 : V2.cell? ⟨w1.heap.size + 1 + 1 + 1, 0, none⟩ = some (.map (some (w1.heap.size + 1))) := (World.cell?_of_block (gr2.block (w1.heap.size + 1 + 1 + 1) (by have := gr1.size; omega) (by simp; omega))).trans u4
        have z3 : V2.cell? ⟨w1.heap.size + 1 + 1, 0, none⟩ = some (.map (some w1.heap.size)) := (World.cell?_of_block (gr2.block (w1.heap.size + 1 + 1) (by have := gr1.size; omega) (by simp))).trans u3
        rw [hV] at v3 vx r1 r2
        rw [hx] at r1 r2 vx v3
        rw [hy] at r1 r2 vx v3 r3 r4 uy
        go_wp2
        have b1 := cnt_le (l.take k) x
        have hxe : (l.getD k (0, 0)).1 = x := by rw [hx, List.getD_eq_getElem?_getD, List.getElem?_eq_getElem hlt]; rfl
        have hye : (l.getD k (0, 0)).2 = y := by rw [hy, List.getD_eq_getElem?_getD, List.getElem?_eq_getElem hlt]; rfl
        have e1 : q1 = cntR (l.take k) x := by rw [ha1] at a1; injection a1 with a1; injection a1 with _ a1; exact a1.symm
        have e2 : q2 = cntC (l.take k) y := by rw [ha2] at a2; injection a2 with a2; injection a2 with _ a2; exact a2.symm
        have bk : (l.take k).length ≤ 25 := by rw [List.length_take]; omega
        have bc := cnt_le (l.take k) y
        have w1' : wrap64 (q1 + 1) = cntR (l.take k) x + 1 := by unfold wrap64; omega
        have w2' : wrap64 (q2 + 1) = cntC (l.take k) y + 1 := by unfold wrap64; omega
        refine ⟨⟨k + 1, _, _, hlt, rfl, z3, z4, vm1'', vm2'', hd1.put _ _, hd2.put _ _, put_cnt hd1 w1' ha1 fun r => ?_, put_cnt hd2 w2' ha2 fun r => ?_, ?_⟩, ?_⟩
        · rw [cntR_take hlt, hxe]
        · rw [cntC_take hlt, hye]
        · have kk1 : Keep (fun b => b = w1.heap.size) V V1 := ⟨gr1.os, gr1.tape, gr1.output, gr1.size, fun b hb hne => gr1.block b hb (by simpa using hne)⟩
          have kk2 : Keep (fun b => b = w1.heap.size + 1) V1 V2 := ⟨gr2.os, gr2.tape, gr2.output, gr2.size, fun b hb hne => gr2.block b hb (by simpa using hne)⟩
          exact ((hkk.step hVk (fun _ h _ => h)).step kk1 (fun b h hb => by omega)).step kk2 (fun b h hb => by omega)
        · simp only [intOf]; omega
      · obtain rfl : k = l.length := by omega
        have hv2 : vrep wr (fun b => Z b ∨ w.heap.size ≤ b) (.sl (.prod .int .int)) l (.slice ad l.length cap) := by
          obtain ⟨cs, g1, g2⟩ := hvl
          exact ⟨cs, pers_mono hkk.size (fun b hb hz => ⟨hz, hkk.block b hb (fun h => h)⟩) _ _ _ g1, g2⟩
        have hcl := clone_calls wr _ l _ hv2 (by omega)
        go_wp2_with (first | (go_at_call 50; refine hcl.mono ?_; rintro e w2 ⟨X, rfl, hXr, hXb, hk2⟩; refine Hid.out ?_))
        refine Lib.hid ?_
        rw [List.take_length] at ha1 ha2
        have lt4 : w1.heap.size + 1 + 1 + 1 < wr.heap.size := by
          rcases Nat.lt_or_ge (w1.heap.size + 1 + 1 + 1) wr.heap.size with h | h
          · exact h
          · simp [World.cell?, Array.getElem?_eq_none h] at hc4
        have hs2 := hk2.size
        have hfn : FnOK Try.prog (fun b => X.v.ownBlock = some b) w2 [.prod .int .int] .bool (fun y => y.1 ∈ l) (fun y => decide (cntR l y.1.1 < 2) || decide (cntC l y.1.2 < 2)) (.func (.func 51) #[] #[.pointer (some ⟨w1.heap.size + 1 + 1, 0, none⟩), .pointer (some ⟨w1.heap.size + 1 + 1 + 1, 0, none⟩)]) := by
          refine ⟨_, _, _, rfl, ⟨_, Try.func51, by kernel_rfl, rfl⟩, fun w3 Z3 x vs hk3 hq3 hargs => ?_⟩
          obtain ⟨⟨(a : Int), (b : Int)⟩, _⟩ := x
          obtain ⟨va, _, rfl, ⟨cs, ⟨ca, cb, rfl, h1, h2⟩, rfl⟩, rfl⟩ := hargs
          obtain rfl : ca = [.int .i64 a] := h1
          obtain rfl : cb = [.int .i64 b] := h2
          have key : ∀ b, b < wr.heap.size → w3.heap[b]? = wr.heap[b]? := fun b hb => (hk3.block b (by omega) (fun h => by have := (hXb b h).1; omega)).trans (hk2.block b hb (fun h => h))
          have hab := hin _ hq3
          have k3 := key (w1.heap.size + 1 + 1) (by omega)
          have k4 := key (w1.heap.size + 1 + 1 + 1) (by omega)
          refine (clo_bound w3 (w1.heap.size + 1 + 1) (w1.heap.size + 1 + 1 + 1) w1.heap.size (w1.heap.size + 1) l.length l.length D1 D2 a b (cntR l a) (cntC l b) ((World.cell?_of_block k3).trans hc3) ((World.cell?_of_block k4).trans hc4)
            (omap_keep hm1 (key _ (by omega))) (omap_keep hm2 (key _ (by omega))) (wf_small hab.1) (wf_small hab.2) (ha1 a) (ha2 b)).mono ?_
          rintro e w4 ⟨rfl, hk4⟩
          refine ⟨_, rfl, ⟨_, rfl, ?_⟩, hk4⟩
          show Value.bool (decide ((cntR l a : Int) < 2) || decide ((cntC l b : Int) < 2)) = Value.bool (decide (cntR l a < 2) || decide (cntC l b < 2))
          have d1 : decide ((cntR l a : Int) < 2) = decide (cntR l a < 2) := decide_eq_decide.2 (by omega)
          have d2 : decide ((cntC l b : Int) < 2) = decide (cntC l b < 2) := decide_eq_decide.2 (by omega)
          rw [d1, d2]
        have hdel := del_calls w2 w.heap.size X l _ _ _ hXr (fun b hb => ⟨by have := (hXb b hb).1; have := hkk.size; have := hk.size; omega, (hXb b hb).2⟩) (by omega) (fun y hy => hy) hfn
        have hpl : (l.filter fun y => !(decide (cntR l y.1 < 2) || decide (cntC l y.2 < 2))) = peel l := by
          unfold peel
          congr 1
          funext y
          unfold inB
          rw [Bool.not_or, ← decide_not, ← decide_not]
          congr 1 <;> exact decide_eq_decide.2 (by omega)
        rw [hpl] at hdel
        have hpn := peel_le l
        have hbs := bound_step l
        go_wp2_with (first | (go_at_call 49; refine hdel.mono ?_; rintro e w3 ⟨v3, rfl, hv3, hk3⟩; obtain ⟨cs3, ⟨ad3, cap3, rfl, hc31, hc32, hall3⟩, hp3⟩ := id hv3; obtain rfl : v3 = .slice ad3 (peel l).length cap3 := hp3))
        all_goals
          have kk : Keep (fun _ => False) w w3 := ((hk.step hkk (fun _ h _ => h.elim)).step hk2 (fun _ h _ => h.elim)).step hk3 (fun b h hb => by have := (hXb b h).1; have := hkk.size; have := hk.size; omega)
          have hv4 : ∀ (m : List Pr) (v : Value), vrep w3 (fun b => w.heap.size ≤ b ∨ w2.heap.size ≤ b) (.sl (.prod .int .int)) m v → vrep w3 (fun b => Z b ∨ w.heap.size ≤ b) (.sl (.prod .int .int)) m v := fun m v ⟨cs, g1, g2⟩ =>
            ⟨cs, pers_mono (Nat.le_refl _) (fun b hb hz => ⟨.inr (by have := hkk.size; have := hk.size; omega), rfl⟩) _ _ _ g1, g2⟩
          have hv5 : vrep w3 (fun b => Z b ∨ w.heap.size ≤ b) (.sl (.prod .int .int)) l (.slice ad l.length cap) := by
            obtain ⟨cs, g1, g2⟩ := hv2
            refine ⟨cs, pers_mono (Nat.le_trans hk2.size hk3.size) (fun b hb hz => ⟨hz, ?_⟩) _ _ _ g1, g2⟩
            exact (hk3.block b (by omega) (fun h => by have := (hXb b h).1; omega)).trans (hk2.block b hb (fun h => h))
        · go_ret
          have hq : (peel l).length = l.length := by have hh : ((peel l).length : Int) = l.length := by (first | assumption | (apply beq_iff_eq.1; assumption) | (apply eq_of_beq; assumption) | trace_state)
                                                     omega
          rw [if_pos hq] at hbs
          refine ⟨_, rfl, ?_, kk⟩
          rw [← hb, hbs]
          exact hv5
        · have hq : ¬ (peel l).length = l.length := by intro hh; have h2 : ((peel l).length : Int) = l.length := by rw [hh]
                                                       exact ne_of_beq_false (by assumption) h2
          rw [if_neg hq] at hbs
          refine ⟨⟨peel l, hv4 _ _ hv3, by rw [← hb, hbs], by omega, fun p hp => hin p (List.mem_filter.1 hp).1, kk⟩, ?_⟩
          show (peel l).length < l.length
          omega

theorem bound_spec : FnSpec Try.prog 30 boundCon := by
  refine ⟨⟨_, Try.func30, by kernel_rfl, rfl⟩, fun C γ x vs hpre hen => ?_⟩
  have hargs := hen.args
  have hown := hen.ownlt
  obtain ⟨(l : List Pr), _⟩ := x
  obtain ⟨v, _, rfl, hv, rfl⟩ := hargs
  have hv' : vrep C.w0 (fun b => C.zn γ b ∧ b < C.w0.heap.size) (.sl (.prod .int .int)) l v := by
    obtain ⟨cs, ⟨ad, cap, g1, g2, g3, g4⟩, g5⟩ := hv
    refine ⟨cs, ⟨ad, cap, g1, g2, g3, fun i hi => ?_⟩, g5⟩
    obtain ⟨b, off, c, e1, e2, e3, ⟨ca, cb, e4, e5, e6⟩, e7⟩ := g4 i hi
    exact ⟨b, off, c, e1, ⟨e2, e3⟩, e3, ⟨ca, cb, e4, e5, e6⟩, e7⟩
  refine (bound_calls C.w0 (fun b => C.zn γ b ∧ b < C.w0.heap.size) l v (fun b hb => hb.2) hv' hpre.1 hpre.2).mono ?_
  rintro e w' ⟨u, rfl, ⟨cs, g1, g2⟩, hk⟩
  refine ⟨u, γ, rfl, ⟨⟨[], [u], rfl, ⟨u, [], rfl, ⟨cs, pers_mono (Nat.le_refl _) (fun b hb hz => ⟨?_, rfl⟩) _ _ _ g1, g2⟩, rfl, rfl⟩, List.nodup_nil⟩, fun p hp => (by cases hp), fun k l hl => Nat.lt_of_lt_of_le (hown k l hl) hk.size⟩, ⟨hk.os, hk.tape, hk.output, hk.size, fun k hk1 _ => hk.block k hk1 (fun h => h)⟩⟩
  rcases hz with ⟨h, _⟩ | h
  · exact h
  · refine ⟨.inr (.inl h), ?_⟩
    cases ho : γ.own b with
    | none => rfl
    | some l => exact absurd (hown b l ho) (by omega)
end Go.Proofs.Ytloipnalmkdldaa
