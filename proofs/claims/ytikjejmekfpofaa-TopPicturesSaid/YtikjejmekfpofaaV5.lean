/- Value semantics, fifth part: regions in any order in which some plain moves may come late. Over any program; no condition. -/
import Derived.Test.YtikjejmekfpofaaV3
namespace Go.VS
open Go.RowKit
set_option linter.unusedSimpArgs false
set_option linter.unusedVariables false

/-- An unguarded move. -/
def moveB (ops : Array Oper) (i : Nat) : Bool := match ops[i]? with
  | some ⟨_, .move _, _, _, _, none⟩ => true
  | _ => false
def takeL (listed : Array Bool) : List Nat → Array Bool
  | [] => listed
  | m :: M => takeL (listed.setIfInBounds m true) M
def takeB (ops : Array Oper) (n : Nat) : List Nat → Array Bool → Bool
  | [], _ => true
  | m :: M, listed => decide (m < n) && moveB ops m && (Region.ready .any ops listed).contains m && Region.free .any ops listed m && takeB ops n M (listed.setIfInBounds m true)
/-- What is no early move waits, one for the other, for the n-th. -/
def sinkM (ops : Array Oper) (n : Nat) (M : List Nat) : Bool :=
  (List.range n).all fun i => M.contains i || (List.range (n + 1)).any fun j => decide (i < j) && Region.waitsFor .any ops j i
def lexM (ops : Array Oper) (g : Nat) (M : List Nat) : Nat → Nat → Array Bool → Bool
  | 0, _, listed => Region.seqB .any ops g (ops.size - g) listed
  | f + 1, k, listed => if M.contains k then lexM ops g M f (k + 1) listed else
      (Region.ready .any ops listed).contains k && Region.free .any ops listed k && lexM ops g M f (k + 1) (listed.setIfInBounds k true)
def headM (M : List Nat) : Nat → List Oper → List Oper
  | _, [] => []
  | k, o :: l => if M.contains k then headM M (k + 1) l else o :: headM M (k + 1) l
def pickM (l : List Oper) (M : List Nat) : List Oper := M.filterMap fun m => l[m]?
def lateB (l : List Oper) (n : Nat) (M : List Nat) : Bool :=
  decide (M.length + (headM M 0 (l.take n)).length = n) && Region.noSelect l.toArray && decide (n < l.length) && sinkM l.toArray n M && Region.chainB .any l.toArray n && takeB l.toArray n M (Array.replicate l.length false) &&
    lexM l.toArray (l.length - n) M n 0 (takeL (Array.replicate l.length false) M)

section
variable {E : Know} {ops : Array Oper}

theorem late_waits {n : Nat} {M : List Nat} {listed : Array Bool} (hs : sinkM ops n M = true) (hc : Region.chainB .any ops n = true) (hn : n < ops.size) (inv : HeadInv .any ops n listed) (hM : ∀ m ∈ M, listed.getD m false = true) :
    ∀ (d i : Nat), n - i = d → i < n → listed.getD i true = false → ∀ t, n ≤ t → t ∉ Region.ready .any ops listed := by
  intro d
  induction d using Nat.strongRecOn with
  | _ d ih =>
    intro i hd hi hun t ht hr
    obtain ⟨_, ot, hot, hall⟩ := mem_ready.1 hr
    have htlt : t < ops.size := (Array.getElem?_eq_some_iff.1 hot).1
    rcases Nat.eq_or_lt_of_le ht with htn | htn
    · subst htn
      have h1 := List.all_eq_true.1 hs i (List.mem_range.2 hi)
      rw [Bool.or_eq_true] at h1
      rcases h1 with h1 | h1
      · have h2 := hM i (by simpa using h1)
        rw [getD_both hun] at h2
        cases h2
      · obtain ⟨j, hj, hj2⟩ := List.any_eq_true.1 h1
        rw [Bool.and_eq_true, decide_eq_true_eq] at hj2
        obtain ⟨oj, hoj, e, he, hb, hon⟩ := Region.waitsFor_spec hj2.2
        have hjle := List.mem_range.1 hj
        cases hl : listed.getD j false with
        | true =>
          have h2 := inv.closed j oj hoj hl e he hb
          rw [hon, getD_both hun] at h2
          cases h2
        | false =>
          rcases Nat.eq_or_lt_of_le (Nat.le_of_lt_succ hjle) with hjt | hjt
          · subst hjt
            obtain rfl : oj = ot := Option.some.inj (hoj.symm.trans hot)
            have h2 := hall e he hb
            rw [hon, getD_both hun] at h2
            cases h2
          · exact ih (n - j) (by omega) j rfl hjt (getD_in (by rw [inv.size]; omega) hl) n (Nat.le_refl _) hr
    · have h1 := List.all_eq_true.1 hc t (List.mem_range.2 htlt)
      rw [Bool.or_eq_true, decide_eq_true_eq] at h1
      rcases h1 with h1 | h1
      · omega
      · obtain ⟨o', ho', e, he, hb, hon⟩ := Region.waitsFor_spec h1
        obtain rfl : o' = ot := Option.some.inj (ho'.symm.trans hot)
        have h2 := hall e he hb
        rw [hon, getD_both (inv.tail (t - 1) (by omega) (by omega))] at h2
        cases h2

theorem anyL_firstM {n i : Nat} {M : List Nat} {oi : Oper} {v : SV} {L : Array Bool → AS → Prop} (hi : ops[i]? = some oi)
    (hs : sinkM ops n M = true) (hc : Region.chainB .any ops n = true) (hn : n < ops.size) (hin : i < n)
    (hdone : ∀ listed s, L listed s → ∀ j ∈ Region.ready .any ops listed, n ≤ j) :
    ∀ (f : Nat) (listed : Array Bool) (s : AS), HeadInv .any ops n listed → (∀ m ∈ M, listed.getD m false = true) →
      (∀ j oj, ops[j]? = some oj → j ≠ i → listed.getD j true = false → (∀ e ∈ oj.after, Region.binds .any e = true → e.on ≠ i) → oi.apart ops oj = true) →
      i ∈ Region.ready .any ops listed → (pStep E ops s oi).1 ∧ (pStep E ops s oi).2 = v →
      anyL E .any ops n L f (listed.setIfInBounds i true) (s.put oi.dst v) → anyL E .any ops n L (f + 1) listed s := by
  have own : ∀ (f : Nat) (listed : Array Bool) (s : AS), (pStep E ops s oi).1 ∧ (pStep E ops s oi).2 = v → anyL E .any ops n L f (listed.setIfInBounds i true) (s.put oi.dst v) → pOp E ops i (anyL E .any ops n L f (listed.setIfInBounds i true)) s := by
    intro f listed s hy H
    unfold pOp
    simp only [hi]
    exact ⟨hy.1, by rw [hy.2]; exact H⟩
  intro f
  induction f with
  | zero =>
    intro listed s inv hM _ hr hy H
    have hun := (mem_ready.1 hr).1
    refine ⟨fun h => (by rw [h] at hr; cases hr), fun j hj => ?_⟩
    have hjn : j < n := Nat.lt_of_not_le fun h => late_waits hs hc hn inv hM _ i rfl hin hun j h hj
    refine ⟨hjn, ?_⟩
    by_cases hji : j = i
    · subst hji; exact own 0 listed s hy H
    · have := hdone _ _ H j (ready_mono hj hji)
      omega
  | succ f ih =>
    intro listed s inv hM hfree hr hy H
    have hun := (mem_ready.1 hr).1
    refine ⟨fun h => (by rw [h] at hr; cases hr), fun j hj => ?_⟩
    have hjn : j < n := Nat.lt_of_not_le fun h => late_waits hs hc hn inv hM _ i rfl hin hun j h hj
    refine ⟨hjn, ?_⟩
    by_cases hji : j = i
    · subst hji; exact own (f + 1) listed s hy H
    · have h1 := (H.2 j (ready_mono hj hji)).2
      obtain ⟨hjun, oj, hoj, hall⟩ := mem_ready.1 hj
      have hnot : ∀ e ∈ oj.after, Region.binds .any e = true → e.on ≠ i := fun e he hb heq => by
        have h1 := hall e he hb
        rw [heq, getD_both hun] at h1
        cases h1
      have h2 := pOp_put hoj (hfree j oj hoj hji hjun hnot) hy h1
      have hfree' : ∀ k ok, ops[k]? = some ok → k ≠ i → (listed.setIfInBounds j true).getD k true = false →
          (∀ e ∈ ok.after, Region.binds .any e = true → e.on ≠ i) → oi.apart ops ok = true := fun k ok hk hki hun hno => by
        refine hfree k ok hk hki ?_ hno
        by_cases hjk : j = k
        · subst hjk; exact hjun
        · rw [getD_set_ne true hjk] at hun; exact hun
      refine pOp_mono (fun s' h3 => ih (listed.setIfInBounds j true) s' (inv.set hj hjn) (fun m hm => getD_set_true (hM m hm)) hfree' (ready_mono hr (Ne.symm hji)) h3.1 ?_) h2
      rw [Array.setIfInBounds_comm _ _ hji]
      exact h3.2

theorem anyL_lexM {n g : Nat} {M : List Nat} {Lq : AS → Prop} (hs : sinkM ops n M = true) (hc : Region.chainB .any ops n = true) (hn : n < ops.size) (hg : ops.size - g = n) :
    ∀ (l : List Oper) (k : Nat) (listed : Array Bool) (s : AS), (∀ j, j < l.length → l[j]? = ops[k + j]?) → k + l.length = n → HeadInv .any ops n listed → (∀ m ∈ M, listed.getD m false = true) →
    lexM ops g M l.length k listed = true → runP E ops (headM M k l) s Lq →
    anyL E .any ops n (fun listed' s' => Region.seqB .any ops g n listed' = true ∧ Lq s') (headM M k l).length listed s
  | [], k, listed, s, _, hk, _, _, hB, h => by
    refine ⟨?_, h⟩
    have hB' : Region.seqB .any ops g (ops.size - g) listed = true := hB
    rwa [hg] at hB'
  | o :: l, k, listed, s, hl, hk, inv, hM, hB, h => by
    have h0 : ops[k]? = some o := by simpa using (hl 0 (by simp)).symm
    have hl' : ∀ j, j < l.length → l[j]? = ops[k + 1 + j]? := fun j hj => by have := hl (j + 1) (by simp; omega); simpa [Nat.add_assoc, Nat.add_comm 1 j] using this
    have hk' : k + 1 + l.length = n := by simp only [List.length_cons] at hk; omega
    have hB1 : (if M.contains k then lexM ops g M l.length (k + 1) listed else (Region.ready .any ops listed).contains k && Region.free .any ops listed k && lexM ops g M l.length (k + 1) (listed.setIfInBounds k true)) = true := hB
    by_cases hm : M.contains k = true
    · have e : headM M k (o :: l) = headM M (k + 1) l := if_pos hm
      rw [e] at h ⊢
      rw [if_pos hm] at hB1
      exact anyL_lexM hs hc hn hg l (k + 1) listed s hl' hk' inv hM hB1 h
    · have e : headM M k (o :: l) = o :: headM M (k + 1) l := if_neg hm
      rw [e] at h ⊢
      rw [if_neg hm] at hB1
      rw [Bool.and_eq_true, Bool.and_eq_true] at hB1
      obtain ⟨⟨hr, hf⟩, hB'⟩ := hB1
      have hkn : k < n := by omega
      have hr' : k ∈ Region.ready .any ops listed := by simpa using hr
      simp only [runP] at h
      exact anyL_firstM h0 hs hc hn hkn (fun listed' s' hL => seqB_ready hL.1) _ listed s inv hM (Region.free_spec h0 hf) hr' ⟨h.1, rfl⟩
        (anyL_lexM hs hc hn hg l (k + 1) _ _ hl' hk' (inv.set hr' hkn) (fun m hm => getD_set_true (hM m hm)) hB' h.2)

variable {C : Ctx} {γ : Gam} {a : Act} {w : World} {s : AS}

/-- The early moves first. -/
theorem wpAny_takeM {N n g : Nat} {Q : Exit → Act → World → Prop} (hQ : ∀ c a w, ¬ Q (.panic c) a w) (hsel : Region.noSelect ops = true) (hd : ∀ (j : Nat) (o : Oper), ops[j]? = some o → dstOK N o.dst = true) {Lq : AS → Prop} :
    ∀ (M : List Nat) (listed : Array Bool) (s : AS) (a : Act), Rel C γ s a w → a.tmps.size = N → takeB ops n M listed = true → HeadInv .any ops n listed →
      runP E ops (M.filterMap fun m => ops[m]?) s Lq →
      (∀ s' a', Rel C γ s' a' w → a'.tmps.size = N → HeadInv .any ops n (takeL listed M) → Lq s' → wpAny C.P .any ops Q g (takeL listed M) a' w) →
      wpAny C.P .any ops Q (M.length + g) listed a w
  | [], listed, s, a, hr, hN, _, inv, h, hL => by
    rw [show ([] : List Nat).length + g = g by simp]
    exact hL s a hr hN inv h
  | m :: M, listed, s, a, hr, hN, hB, inv, h, hL => by
    have hB1 : (decide (m < n) && moveB ops m && (Region.ready .any ops listed).contains m && Region.free .any ops listed m && takeB ops n M (listed.setIfInBounds m true)) = true := hB
    simp only [Bool.and_eq_true, decide_eq_true_eq] at hB1
    obtain ⟨⟨⟨⟨hmn, hmv⟩, hrd⟩, hf⟩, hB'⟩ := hB1
    unfold moveB at hmv
    split at hmv
    · rename_i d x ty pos af ho
      rw [List.filterMap_cons, ho] at h
      simp only [runP] at h
      obtain ⟨h1, h2⟩ := h
      have hp : (pStep E ops s ⟨d, .move x, ty, pos, af, none⟩).2 = ev s x := by
        simp only [pStep, gate]
        exact congrArg Prod.snd (pure_move (E := E) (s := s) (d := d) x)
      rw [hp] at h2
      rw [show (m :: M).length + g = (M.length + g) + 1 by simp only [List.length_cons]; omega]
      refine wpAny_take ho hsel hf hrd (fun c a w hq => absurd hq (hQ c _ w)) (v := a.eval x) (.inl ⟨rfl, fun w => by unfold execOp; rfl⟩) ?_
      have hd' : dstOK a.tmps.size d = true := by rw [hN]; exact hd m _ ho
      have hr' := hr.put hd' (ev_rep hr x)
      refine wpAny_takeM hQ hsel hd M _ _ _ hr' ((put_size a d _).trans hN) hB' (inv.set (by simpa using hrd) hmn) h2 hL
    · cases hmv

theorem runP_append {K : AS → Prop} : ∀ (x y : List Oper) (s : AS), runP E ops (x ++ y) s K → runP E ops x s fun s' => runP E ops y s' K
  | [], _, _, h => h
  | _ :: x, y, s, h => ⟨h.1, runP_append x y _ h.2⟩

theorem takeL_has {m : Nat} : ∀ (M : List Nat) (listed : Array Bool), listed.getD m false = true → (takeL listed M).getD m false = true
  | [], _, h => h
  | _ :: M, _, h => takeL_has M _ (getD_set_true h)
theorem takeL_mem {n : Nat} : ∀ (M : List Nat) (listed : Array Bool), (∀ m ∈ M, m < listed.size) → ∀ m ∈ M, (takeL listed M).getD m false = true
  | [], _, _, m, hm => by cases hm
  | k :: M, listed, hl, m, hm => by
    rcases List.mem_cons.1 hm with rfl | hm
    · refine takeL_has M _ ?_
      have := hl m (List.mem_cons_self ..)
      simp [this]
    · exact takeL_mem (n := n) M _ (fun m hm => by simpa using hl m (List.mem_cons_of_mem _ hm)) m hm
theorem takeB_lt {n : Nat} : ∀ (M : List Nat) (listed : Array Bool), takeB ops n M listed = true → ∀ m ∈ M, m < n
  | [], _, _, m, hm => by cases hm
  | k :: M, listed, hB, m, hm => by
    have hB1 : (decide (k < n) && moveB ops k && (Region.ready .any ops listed).contains k && Region.free .any ops listed k && takeB ops n M (listed.setIfInBounds k true)) = true := hB
    simp only [Bool.and_eq_true, decide_eq_true_eq] at hB1
    rcases List.mem_cons.1 hm with rfl | hm
    · exact hB1.1.1.1.1
    · exact takeB_lt M _ hB1.2 m hm

/-- **A region in any order** in which the moves M may come late. -/
theorem wp_late (hE : KnowOK C.P E) {id n : Nat} {M : List Nat} {l : List Oper} {Q : Exit → Act → World → Prop} {K : AS → Prop} {N : Nat} (hd : ∀ (j : Nat) (o : Oper), l.toArray[j]? = some o → dstOK N o.dst = true)
    (hQ : ∀ s' γ' a' w', Rel C γ' s' a' w' → a'.tmps.size = N → K s' → Q .normal a' w') (hN : a.tmps.size = N) (h : Rel C γ s a w) (hB : lateB l n M = true)
    (hk : runP E l.toArray (pickM l M ++ headM M 0 (l.take n)) s fun s' => runK E C.nl l.toArray (l.drop n) s' K) : (Code.region id l.toArray true).wp C.P Q a w := by
  unfold lateB at hB
  simp only [Bool.and_eq_true, decide_eq_true_eq] at hB
  obtain ⟨⟨⟨⟨⟨⟨hct, hsel⟩, hn⟩, hs⟩, hc⟩, ht⟩, hlex⟩ := hB
  have hn' : n < l.toArray.size := by simpa using hn
  have htl : (l.take n).length = n := by simp; omega
  have hdl : (l.drop n).length = l.length - n := by simp
  have inv0 : HeadInv .any l.toArray n (Array.replicate l.length false) :=
    ⟨by simp, fun j oj _ hl => (by rw [getD_replicate_false] at hl; cases hl), fun t _ ht => getD_in (by simpa using ht) (getD_replicate_false _ _)⟩
  refine wp_mono (Q := fun e a w => e = .normal ∧ Q .normal a w) ?_ (fun e a w hq => by rw [hq.1]; exact hq.2)
  refine wp_region_any hE.lang.mixed ?_
  have hr : Rel C γ s a { w with drawn := w.drawn + 1 } := h.world ⟨rfl, rfl, rfl, Nat.le_refl _, fun _ _ _ => rfl⟩
  have hp : (pickM l M) = M.filterMap fun m => l.toArray[m]? := by
    unfold pickM
    congr 1
    funext m
    simp
  have hMl := takeB_lt M _ ht
  have hmem := takeL_mem (n := n) M (Array.replicate l.length false) (fun m hm => by have := hMl m hm; simp; omega)
  have key := wpAny_takeM (E := E) (C := C) (γ := γ) (N := N) (n := n) (g := (headM M 0 (l.take n)).length + (l.length - n)) (Q := fun e a w => e = .normal ∧ Q .normal a w) (ops := l.toArray) (fun c a w hq => by cases hq.1) hsel hd
    (Lq := fun s' => runP E l.toArray (headM M 0 (l.take n)) s' fun s' => runK E C.nl l.toArray (l.drop n) s' K) M _ s a hr hN ht inv0
    (by rw [← hp]; exact runP_append _ _ _ hk) (fun s' a' k1 k2 k3 k4 => by
      have H := anyL_lexM (E := E) (g := l.length - n) hs hc hn' (by simp; omega) (l.take n) 0 _ s' (fun j hj => by
        have hj' : j < n := by rw [htl] at hj; exact hj
        simp [hj']) (by simpa using htl) k3 hmem (by rw [htl]; exact hlex) k4
      exact wpAny_of_anyL (Q' := fun e a w => e = .normal ∧ Q .normal a w) (g := l.length - n) hE hd (fun listed s' γ' a' w' hL h1 h2 => by
        have h3 := runK_sound (ops := l.toArray) (Q := fun e a w => e = .normal ∧ Q .normal a w) hE hd (fun s' γ' a' w' k1 k2 k3 => ⟨rfl, hQ s' γ' a' w' k1 k2 k3⟩) (l.drop n) s' γ' a' w' (fun o ho => by
          obtain ⟨j, hj⟩ := List.mem_iff_getElem?.1 (List.mem_of_mem_drop ho)
          exact hd j o (by simpa using hj)) h2 h1 hL.2
        have := wpAny_of_seq (md := .any) (Q' := fun e a w => e = .normal ∧ Q .normal a w) (l.drop n) n listed a' w' (fun j => by simp [List.getElem?_drop]) (by rw [hdl]; exact hL.1) h3
        rwa [hdl] at this) _ _ _ _ _ _ k1 k2 H)
  have e : M.length + ((headM M 0 (l.take n)).length + (l.length - n)) = l.toArray.size := by
    rw [List.size_toArray]; omega
  rw [e] at key
  have e2 : (Array.replicate l.length false) = Array.replicate l.toArray.size false := by rw [List.size_toArray]
  rw [e2] at key
  exact key
end

/-- A region in any order: all but its last k operations write nothing, and the moves M may come late. -/
theorem tri_late {C : Ctx} {N : Nat} {Q : Exit → AS → Prop} {s : AS} {E : Know} (hE : KnowOK C.P E) (k : Nat) (M : List Nat) {id : Nat} {l : List Oper} (hd : allDst N l = true) (hB : lateB l (l.length - k) M = true)
    (h : runQ E l.toArray (pickM l M ++ headM M 0 (l.take (l.length - k))) s fun s' => runK E C.nl l.toArray (l.drop (l.length - k)) s' (Q .normal)) : tri C N (.region id l.toArray true) Q s := by
  refine ⟨fun γ a w hr hN => ?_⟩
  have hd' : ∀ (j : Nat) (o : Oper), l.toArray[j]? = some o → dstOK N o.dst = true := fun j o ho => allDst_spec (ops := l.toArray) (by simpa using hd) j o ho
  exact wp_late (K := Q .normal) (N := N) hE hd' (fun s' γ' a' w' h1 h2 h3 => ⟨s', γ', h1, h2, h3⟩) hN hr hB (runP_of_runQ _ _ h)
attribute [push_cast] pickM headM List.filterMap_cons List.filterMap_nil List.getElem?_cons_zero List.getElem?_cons_succ List.contains_cons List.contains_nil List.cons_append List.nil_append
end Go.VS
