/- Value semantics, part S: contracts of functions and of closures from the laws of code. Over any program; no condition. -/
import Derived.Test.YtaldpinkkgdklaaVsR
namespace Go.VS
open Go.RowKit
set_option linter.unusedSimpArgs false
set_option linter.unusedVariables false

theorem run_mapM_list {α β : Type} {P : Program} {w : World} {f : α → Sem β} {g : α → β} : ∀ (l : List α), (∀ x ∈ l, (f x).run P w = .ok (g x) w) → (l.mapM f).run P w = .ok (l.map g) w
  | [], _ => by simp
  | x :: l, h => by
    rw [List.mapM_cons]
    simp only [Sem.run_bind, h x (by simp), Result.andThen_ok, run_mapM_list l (fun y hy => h y (by simp [hy])), Sem.run_pure, List.map_cons]

theorem run_mapM_arr {α β : Type} {P : Program} {w : World} {f : α → Sem β} {g : α → β} (as : Array α) (h : ∀ x ∈ as.toList, (f x).run P w = .ok (g x) w) : (as.mapM f).run P w = .ok (as.map g) w := by
  rw [Array.mapM_eq_mapM_toList, map_eq_pure_bind, Sem.run_bind, run_mapM_list as.toList h]
  simp only [Result.andThen_ok, Sem.run_pure, Result.ok.injEq, and_true]
  rw [← Array.toList_map, Array.toArray_toList]

def enumE : Nat → List BV → List (Nat × SV)
  | _, [] => []
  | i, b :: bs => (i, .one b) :: enumE (i + 1) bs

/-- The state at a function's entry. -/
def entry (as : List AD) (x : TupA as) : AS := AS.of (enumE 0 (paramBVs 0 as x)) (paramRoots 0 as x) []

section
variable {C : Ctx} {E : Know} {γ : Gam} {s : AS} {a : Act} {w : World}

theorem enumE_env : ∀ (bs : List BV) (k i : Nat), lk (.one .any) (enumE k bs) i = (if k ≤ i then match bs[i - k]? with
    | some b => SV.one b
    | none => .one .any else .one .any)
  | [], k, i => by simp [enumE, lk]
  | b :: bs, k, i => by
    simp only [enumE, lk]
    by_cases h : i = k
    · subst h; simp
    · rw [if_neg h, enumE_env bs (k + 1) i]
      by_cases h2 : k ≤ i
      · rw [if_pos (by omega), if_pos h2]
        have : i - k = (i - (k + 1)) + 1 := by omega
        rw [this, List.getElem?_cons_succ]
      · rw [if_neg h2, if_neg (by omega)]

theorem entry_rel {P : Program} {as : List AD} {x : TupA as} {vs : List Value} (h : Entry C γ P as x vs) (n : Nat) : Rel C γ (entry as x) { tmps := vs.toArray ++ Array.replicate n undef, defers := [] } C.w0 := by
  refine ⟨rfl, Keep.refl _ _, h.ownlt, h.lent, fun i => ?_, fun r rc hr => ?_, fun b sv hb => ?_⟩
  · simp only [entry, AS.of, enumE_env, Nat.zero_le, if_true, Nat.sub_zero]
    split
    · rename_i b hb
      have hl := bvsRep_len _ _ h.args
      have hi := (List.getElem?_eq_some_iff.1 hb).1
      obtain ⟨v, h1, h2⟩ := bvsRep_get _ _ h.args i hi
      have hb' : (paramBVs 0 as x).getD i .any = b := by simp [List.getD_eq_getElem?_getD, hb]
      rw [hb'] at h2
      have hlt : i < vs.length := by omega
      have : (vs.toArray ++ Array.replicate n undef).getD i undef = v := by
        simp only [Array.getD_eq_getD_getElem?]
        rw [Array.getElem?_append_left (by simpa using hlt)]
        simp [h1]
      rw [this]
      exact h2
    · trivial
  · simp only [entry, AS.of] at hr
    obtain ⟨v, h1, rfl⟩ := lk_inv (g := fun x : RC => x) hr
    exact h.roots _ h1
  · simp only [entry, AS.of, List.map_nil, lk] at hb
    cases hb

theorem retMatch_rep {nl : Nat} {t : AS} {ids : List Nat} (h : Rel C γ s a w) (ht : ∀ q, q ∉ ids → t.roots q = none) (hsub : ∀ q rc, t.roots q = some rc → rcRep C (weakGam γ s t) w q rc) :
    ∀ (j : Nat) (l : List (Prop × SV)) (vs : List Value) (res : List RV), retMatch s nl ids j l res → (∀ p ∈ ownPairs j l res, t.roots p.1 = some p.2) →
    l.length = vs.length → (∀ (i : Nat) (p : Prop × SV) (v : Value), l[i]? = some p → vs[i]? = some v → svRep C γ w p.2 v) → resRep C (weakGam γ s t) w res ((ownPairs j l res).map (·.1)) vs
  | _, [], [], [], _, _, _, _ => ⟨rfl, rfl⟩
  | _, [], _ :: _, _, _, _, hl, _ => by simp at hl
  | _, _ :: _, [], _, _, _, hl, _ => by simp at hl
  | _, _ :: _, _, [], hm, _, _, _ => by simp [retMatch] at hm
  | _, [], [], _ :: _, hm, _, _, _ => by simp [retMatch] at hm
  | j, p :: l, v :: vs, .val sh x :: r, hm, hi, hl, hr => by
    obtain ⟨h1, h2, h3, h4⟩ := hm
    have hown : ownPairs j (p :: l) (.val sh x :: r) = ownPairs (j + 1) l r := by simp only [ownPairs]
    rw [hown] at hi ⊢
    refine ⟨v, vs, rfl, ?_, retMatch_rep h ht hsub (j + 1) l vs r h4 hi (by simpa using hl) (fun i p' v' e1 e2 => hr (i + 1) p' v' (by simpa using e1) (by simpa using e2))⟩
    have hv := hr 0 p v rfl rfl
    obtain ⟨c, sv⟩ := p
    unfold viewSV at h2
    split at h2
    · rename_i b hb
      simp only at hb
      subst hb
      refine conv_rep h (.inr (conv_of_view h2 fun q hq => ?_)) hv
      refine ht q ?_
      cases b <;> simp only [names, List.mem_singleton, List.not_mem_nil] at hq <;> first
        | (subst hq; exact h3)
        | (simp [viewBV] at h2)
        | exact hq.elim
    · cases h2
  | j, p :: l, v :: vs, .own rc :: r, hm, hi, hl, hr => by
    obtain ⟨h1, h2, h4⟩ := hm
    obtain ⟨c, sv⟩ := p
    simp only [ownPairs, List.map_cons] at hi ⊢
    have htail := retMatch_rep h ht hsub (j + 1) l vs r h4 (fun p' hp' => hi p' (List.mem_cons_of_mem _ hp')) (by simpa using hl) (fun i p' v' e1 e2 => hr (i + 1) p' v' (by simpa using e1) (by simpa using e2))
    have hv := hr 0 (c, sv) v rfl rfl
    have ht0 := hi _ (List.mem_cons_self ..)
    simp only at ht0 h2
    split at h2
    · rename_i q
      refine ⟨v, vs, q, _, rfl, rfl, ?_, hsub q rc ht0, htail⟩
      have hn : newR s t q = false := by simp [newR, h2]
      show v = (if newR s t q = true then (⟨none, 0, 0⟩ : Sl) else γ.hs q).v
      rw [hn]
      exact hv
    · refine ⟨v, vs, 1000000 + j, _, rfl, rfl, ?_, hsub _ rc ht0, htail⟩
      have hn : newR s t (1000000 + j) = true := by simp [newR, h2.1, ht0]
      show v = (if newR s t (1000000 + j) = true then (⟨none, 0, 0⟩ : Sl) else γ.hs (1000000 + j)).v
      rw [hn]
      exact hv
    · exact h2.elim

theorem retPairs_spec {nl : Nat} {ids : List Nat} : ∀ (j : Nat) (l : List (Prop × SV)) (res : List RV), retMatch s nl ids j l res → ∀ p ∈ ownPairs j l res, s.roots p.1 = some p.2 ∨ (s.roots p.1 = none ∧ nl ≤ p.1 ∧ emptyRC p.2)
  | _, [], _, _, p, hp => by simp [ownPairs] at hp
  | _, _ :: _, [], hm, _, _ => by simp [retMatch] at hm
  | j, q :: l, .val sh x :: r, hm, p, hp => by
    obtain ⟨_, _, _, h4⟩ := hm
    exact retPairs_spec (j + 1) l r h4 p (by simpa [ownPairs] using hp)
  | j, q :: l, .own rc :: r, hm, p, hp => by
    obtain ⟨_, h2, h4⟩ := hm
    simp only [ownPairs, List.mem_cons] at hp
    rcases hp with rfl | hp
    · obtain ⟨c, sv⟩ := q
      simp only at h2 ⊢
      split at h2
      · exact .inl h2
      · exact .inr h2
      · exact h2.elim
    · exact retPairs_spec (j + 1) l r h4 p hp

theorem retOK_sound (hE : KnowOK C.P E) (h : Rel C γ s a w) {fn : Func} {o : Out} (hok : retOK E C.nl fn.results.toList o s) :
    ∃ v γ', (results fn a.tmps).run C.P w = .ok v w ∧ OutRep C γ' w o v := by
  obtain ⟨hm, hnd, hleft⟩ := hok
  let L := fn.results.toList.map (resSV E s)
  let pairs := ownPairs 0 L o.res ++ o.left
  let ids := pairs.map (·.1)
  -- every result is read
  have hcond : ∀ (l : List ResultVar) (j : Nat) (res : List RV), retMatch s C.nl ids j (l.map (resSV E s)) res → ∀ r ∈ l, (resSV E s r).1 := by
    intro l
    induction l with
    | nil => intro _ _ _ r hr; simp at hr
    | cons r0 l ih =>
      intro j res hres r hr
      cases res with
      | nil => simp [retMatch] at hres
      | cons rv res =>
        cases rv with
        | val sh x =>
          obtain ⟨h1, _, _, h4⟩ := hres
          rcases List.mem_cons.1 hr with rfl | hr
          · exact h1
          · exact ih (j + 1) res h4 r hr
        | own rc =>
          obtain ⟨h1, _, h4⟩ := hres
          rcases List.mem_cons.1 hr with rfl | hr
          · exact h1
          · exact ih (j + 1) res h4 r hr
  have hc := hcond fn.results.toList 0 o.res hm
  let rd : ResultVar → Sem Value := fun
    | .tmp t => pure (a.tmps.getD t undef)
    | .cell x t => do loadVar t (← asAddr (a.tmps.getD x undef))
  have hrd : ∀ r ∈ fn.results.toList, ∃ v, (rd r).run C.P w = .ok v w ∧ svRep C γ w (resSV E s r).2 v := by
    intro r hr
    obtain ⟨v, h1, h2⟩ := resSV_rep hE h r (hc r hr)
    refine ⟨v, ?_, h2⟩
    cases r <;> exact h1
  let val : ResultVar → Value := fun r => match (rd r).run C.P w with
    | .ok v _ => v
    | .halt _ _ => undef
  have hval : ∀ r ∈ fn.results.toList, (rd r).run C.P w = .ok (val r) w ∧ svRep C γ w (resSV E s r).2 (val r) := by
    intro r hr
    obtain ⟨v, h1, h2⟩ := hrd r hr
    have : val r = v := by show (match (rd r).run C.P w with | .ok v _ => v | .halt _ _ => undef) = v; rw [h1]
    rw [this]
    exact ⟨h1, h2⟩
  have hmap := run_mapM_arr fn.results (f := rd) (g := val) (P := C.P) (w := w) (fun r hr => (hval r hr).1)
  have hres : (results fn a.tmps).run C.P w = .ok (packRes (fn.results.toList.map val)) w := by
    have e0 : results fn a.tmps = (do let vs ← fn.results.mapM rd; pure (if h : vs.size = 1 then vs[0] else .tuple vs) : Sem Value) := rfl
    rw [e0, Sem.run_bind, hmap]
    simp only [Result.andThen_ok, Sem.run_pure, Result.ok.injEq, and_true]
    have e1 : fn.results.map val = (fn.results.toList.map val).toArray := by rw [← Array.toList_map, Array.toArray_toList]
    rw [e1]
    generalize fn.results.toList.map val = l
    match l with
    | [] => rfl
    | [x] => rfl
    | x :: y :: l => simp [packRes]
  let t : AS := ⟨fun _ => .one .any, fun q => lk none (pairs.map fun p => (p.1, some p.2)) q, fun _ => none⟩
  have hpair : ∀ p ∈ pairs, s.roots p.1 = some p.2 ∨ (s.roots p.1 = none ∧ C.nl ≤ p.1 ∧ emptyRC p.2) := by
    intro p hp
    rcases List.mem_append.1 hp with hp | hp
    · exact retPairs_spec 0 L o.res hm p hp
    · exact .inl (hleft p hp).1
  have htp : ∀ p ∈ pairs, t.roots p.1 = some p.2 := fun p hp => lk_some pairs (fun x : RC => x) p.1 p.2 hnd hp
  have hinv : ∀ q rc, t.roots q = some rc → (q, rc) ∈ pairs := by
    intro q rc hq
    obtain ⟨v, h1, h2⟩ := lk_inv (g := fun x : RC => x) hq
    rw [h2]; exact h1
  have hweak : Weak C.nl s t := by
    refine ⟨fun i => ?_, fun b sv hb => by simp [t] at hb, fun r rc hr => hpair _ (hinv r rc hr)⟩
    simp only [t]
    unfold svConv
    split
    · rename_i e
      simp only [SV.one.injEq] at e
      exact .inl e.symm
    · exact .inl rfl
  have hrel := hweak.rel h
  refine ⟨_, weakGam γ s t, hres, ⟨(ownPairs 0 L o.res).map (·.1), _, rfl, ?_, by rw [← List.map_append]; exact hnd⟩, fun p hp => ⟨hrel.roots p.1 p.2 (htp p (List.mem_append_right _ hp)), hrel.lent p.1 (hleft p hp).2⟩, hrel.ownlt⟩
  refine retMatch_rep (ids := ids) (nl := C.nl) h (fun q hq => ?_) (fun q rc hq => hrel.roots q rc hq) 0 L _ o.res hm (fun p hp => htp p (List.mem_append_left _ hp)) (by simp [L]) (fun i p v h1 h2 => ?_)
  · cases hq' : t.roots q with
    | none => rfl
    | some rc => exact absurd (List.mem_map.2 ⟨_, hinv q rc hq', rfl⟩) hq
  · simp only [L, List.getElem?_map, Option.map_eq_some_iff] at h1 h2
    obtain ⟨r, e1, rfl⟩ := h1
    obtain ⟨r', e2, rfl⟩ := h2
    rw [e1] at e2
    simp only [Option.some.injEq] at e2
    subst e2
    exact (hval r (List.mem_of_getElem? e1)).2
end

/-- No list of a datum is longer than a slice may be. -/
def Sh.fits : (s : Sh) → s.T → Prop
  | .sl a, xs => List.length xs ≤ maxLen ∧ ∀ i, (h : i < List.length xs) → a.fits (xs[i]'h)
  | .prod a b, x => a.fits x.1 ∧ b.fits x.2
  | _, _ => True

theorem pers_fits {w : World} {Z : Nat → Prop} : ∀ (s : Sh) (x : s.T) (cs : List Value), pers w Z s x cs → s.fits x
  | .int, _, _, _ | .bool, _, _, _ | .str, _, _, _ | .byte, _, _, _ | .unit, _, _, _ => trivial
  | .prod a b, x, cs, h => by
    obtain ⟨c, d, _, h1, h2⟩ := h
    exact ⟨pers_fits a _ _ h1, pers_fits b _ _ h2⟩
  | .sl s, xs, cs, h => by
    obtain ⟨a, cap, _, hc, hm, hall⟩ := h
    refine ⟨Nat.le_trans hc hm, fun i hi => ?_⟩
    obtain ⟨b, off, c, _, _, _, hp, _⟩ := hall i hi
    exact pers_fits s _ c hp

def argsFit : (as : List AD) → TupA as → Prop
  | [], _ => True
  | .dat s :: as, x => s.fits x.1 ∧ argsFit as x.2
  | .ptr s :: as, x => s.fits x.1 ∧ argsFit as x.2
  | .fnc _ _ :: as, x => argsFit as x.2
  | .pfn _ _ :: as, x => argsFit as x.2
  | .lend :: as, x => argsFit as x.2

theorem argsFit_of {C : Ctx} {γ : Gam} {w : World} : ∀ (k : Nat) (as : List AD) (x : TupA as) (vs : List Value), bvsRep C γ w (paramBVs k as x) vs → argsFit as x
  | _, [], _, _, _ => trivial
  | k, .dat s :: as, x, vs, h => by
    obtain ⟨v, vs', _, ⟨cs, h1, _⟩, h2⟩ := h
    exact ⟨pers_fits s _ cs h1, argsFit_of k as x.2 vs' h2⟩
  | k, .ptr s :: as, x, vs, h => by
    obtain ⟨v, vs', _, ⟨b, off, cs, _, _, _, h1, _⟩, h2⟩ := h
    exact ⟨pers_fits s _ cs h1, argsFit_of k as x.2 vs' h2⟩
  | k, .fnc _ _ :: as, x, vs, h => by
    obtain ⟨v, vs', _, _, h2⟩ := h
    exact argsFit_of k as x.2 vs' h2
  | k, .pfn _ _ :: as, x, vs, h => by
    obtain ⟨v, vs', _, _, h2⟩ := h
    exact argsFit_of k as x.2 vs' h2
  | k, .lend :: as, x, vs, h => by
    obtain ⟨v, vs', _, _, h2⟩ := h
    exact argsFit_of (k + 1) as x.2 vs' h2

/-- **The contract of a function from the law of its body.** -/
theorem FnSpec.of_tri {P : Program} {E : Know} (hE : KnowOK P E) {f : FuncId} {fn : Func} {c : Con} {code : Code} (hf : P.funcs[f]? = some fn) (hname : (fn.name == "runtime.NumGoroutine") = false) (hb : fn.body = some code)
    (hn : ∀ x : TupA c.as, (paramBVs 0 c.as x).length ≤ fn.ntmps)
    (h : ∀ (C : Ctx) (x : TupA c.as), KnowOK C.P E → C.nl = lends c.as → argsFit c.as x → c.pre x → tri C fn.ntmps code (retQ E (lends c.as) fn.results.toList (c.post x)) (entry c.as x)) : FnSpec P f c := by
  refine ⟨⟨fn, hf, hname, by rw [hb]; rfl⟩, fun C γ x vs hpre hen => ?_⟩
  obtain rfl := hen.P
  refine calls_of_wp hf hb ?_
  have hlen := bvsRep_len _ _ hen.args
  have hle := hn x
  have hr := entry_rel hen (fn.ntmps - vs.length)
  refine wp_mono ((h C x hE hen.nl (argsFit_of _ _ _ _ hen.args) hpre).run γ _ _ (by simpa using hr) (by simp; omega)) ?_
  rintro e a' w' ⟨s', γ', h1, h2, h3⟩
  rw [← hen.nl] at h3
  cases e with
  | normal =>
    obtain ⟨v, γ2, k1, k2⟩ := retOK_sound hE h1 (fn := fn) h3
    exact ⟨h1.defers, v, k1, v, γ2, rfl, k2, h1.keep⟩
  | ret =>
    obtain ⟨v, γ2, k1, k2⟩ := retOK_sound hE h1 (fn := fn) h3
    exact ⟨h1.defers, v, k1, v, γ2, rfl, k2, h1.keep⟩
  | exit id => exact h3.elim
  | goto l => exact h3.elim
  | panic c => exact h3.elim
  | outgrown => exact h3.elim

/-! ### Closures -/
def joinP : (caps : List Sh) → TupT caps → TupA (caps.map AD.ptr)
  | [], _ => ()
  | _ :: cs, y => (y.1, joinP cs y.2)

def joinA (caps : List Sh) (y : TupT caps) : (as : List Sh) → TupT as → TupA (as.map AD.dat ++ caps.map AD.ptr)
  | [], _ => joinP caps y
  | _ :: as, x => (x.1, joinA caps y as x.2)

def leftA (caps : List Sh) : (as : List Sh) → TupA (as.map AD.dat ++ caps.map AD.ptr) → TupT as
  | [], _ => ()
  | _ :: as, z => (z.1, leftA caps as z.2)

def rightP : (caps : List Sh) → TupA (caps.map AD.ptr) → TupT caps
  | [], _ => ()
  | _ :: cs, z => (z.1, rightP cs z.2)

def rightA (caps : List Sh) : (as : List Sh) → TupA (as.map AD.dat ++ caps.map AD.ptr) → TupT caps
  | [], z => rightP caps z
  | _ :: as, z => rightA caps as z.2

def Clo.con (c : Clo) : Con :=
  ⟨c.as.map AD.dat ++ c.caps.map AD.ptr, fun z => c.q (rightA c.caps c.as z) (leftA c.caps c.as z), fun z => { res := [.val c.r (c.p (rightA c.caps c.as z) (leftA c.caps c.as z))] }⟩

theorem rightP_join : ∀ (caps : List Sh) (y : TupT caps), rightP caps (joinP caps y) = y
  | [], _ => rfl
  | _ :: cs, y => Prod.ext rfl (rightP_join cs y.2)

theorem leftA_join (caps : List Sh) (y : TupT caps) : ∀ (as : List Sh) (x : TupT as), leftA caps as (joinA caps y as x) = x
  | [], _ => rfl
  | _ :: as, x => Prod.ext rfl (leftA_join caps y as x.2)

theorem rightA_join (caps : List Sh) (y : TupT caps) : ∀ (as : List Sh) (x : TupT as), rightA caps as (joinA caps y as x) = y
  | [], _ => rightP_join caps y
  | _ :: as, x => rightA_join caps y as x.2

theorem lends_ptr : ∀ (caps : List Sh), lends (caps.map AD.ptr) = 0
  | [] => rfl
  | _ :: cs => lends_ptr cs

theorem lends_clo (caps : List Sh) : ∀ (as : List Sh), lends (as.map AD.dat ++ caps.map AD.ptr) = 0
  | [] => lends_ptr caps
  | _ :: as => lends_clo caps as

theorem roots_ptr : ∀ (caps : List Sh) (z : TupA (caps.map AD.ptr)), paramRoots 0 (caps.map AD.ptr) z = []
  | [], _ => rfl
  | _ :: cs, z => roots_ptr cs z.2

theorem roots_clo (caps : List Sh) : ∀ (as : List Sh) (z : TupA (as.map AD.dat ++ caps.map AD.ptr)), paramRoots 0 (as.map AD.dat ++ caps.map AD.ptr) z = []
  | [], z => roots_ptr caps z
  | _ :: as, z => roots_clo caps as z.2

theorem args_ptr {C : Ctx} {w : World} {Z : Nat → Prop} (hz : ∀ b, Z b → C.zn gam0 b) : ∀ (caps : List Sh) (y : TupT caps) (ps : List Value), ptrsRep w Z caps y ps → bvsRep C gam0 w (paramBVs 0 (caps.map AD.ptr) (joinP caps y)) ps
  | [], _, _, h => h
  | _ :: cs, y, ps, h => by
    obtain ⟨v, ps', rfl, ⟨b, off, c, e1, e2, e3, e4, e5⟩, h4⟩ := h
    exact ⟨v, ps', rfl, ⟨b, off, c, e1, hz b e2, e3, pers_mono (Nat.le_refl _) (fun b _ hb => ⟨hz b hb, rfl⟩) _ _ c e4, e5⟩, args_ptr hz cs y.2 ps' h4⟩

theorem args_clo {C : Ctx} {w : World} {Z : Nat → Prop} (hz : ∀ b, Z b → C.zn gam0 b) (caps : List Sh) (y : TupT caps) (ps : List Value) (hp : ptrsRep w Z caps y ps) : ∀ (as : List Sh) (x : TupT as) (vs : List Value), argsRep w Z as x vs →
    bvsRep C gam0 w (paramBVs 0 (as.map AD.dat ++ caps.map AD.ptr) (joinA caps y as x)) (vs ++ ps)
  | [], _, vs, h1 => by
    simp only [argsRep] at h1
    subst h1
    exact args_ptr hz caps y ps hp
  | _ :: as, x, vs, h1 => by
    obtain ⟨v, vs', rfl, h3, h4⟩ := h1
    exact ⟨v, vs' ++ ps, rfl, vrep_zone hz h3, args_clo hz caps y ps hp as x.2 vs' h4⟩

/-- The contract of a closure is that of its function, with the captured variables behind the arguments. -/
theorem CloSpec.of {P : Program} {f : FuncId} {c : Clo} (h : FnSpec P f c.con) : CloSpec P f c := by
  refine ⟨h.callable, fun w Z y x ps vs hq hp ha => ?_⟩
  let C : Ctx := ⟨P, fun _ => False, w, Z, 0, fun _ => undef⟩
  have hrun := h.run C gam0 (joinA c.caps y c.as x) (vs ++ ps) (by
    show c.q (rightA c.caps c.as (joinA c.caps y c.as x)) (leftA c.caps c.as (joinA c.caps y c.as x))
    rw [leftA_join, rightA_join]
    exact hq) ⟨rfl, (lends_clo c.caps c.as).symm, fun r hr => absurd hr (Nat.not_lt_zero r), fun k l hk => by simp [gam0] at hk, args_clo (C := C) (fun b hb => ⟨.inl hb, rfl⟩) c.caps y ps hp c.as x vs ha, fun p hp => by
      have : paramRoots 0 c.con.as (joinA c.caps y c.as x) = [] := roots_clo c.caps c.as _
      rw [this] at hp
      simp at hp⟩
  refine hrun.mono fun e w' hx => ?_
  obtain ⟨v, γ', rfl, ⟨⟨ids, us, rfl, hres, _⟩, _, _⟩, hk⟩ := hx
  have hres' : resRep C γ' w' [.val c.r (c.p (rightA c.caps c.as (joinA c.caps y c.as x)) (leftA c.caps c.as (joinA c.caps y c.as x)))] ids us := hres
  rw [leftA_join, rightA_join] at hres'
  obtain ⟨u, us', rfl, hu, _, h2⟩ := hres'
  subst h2
  refine ⟨u, rfl, vrep_zone (fun b hb => ?_) hu, hk⟩
  rcases hb.1 with h1 | h1 | h1
  · exact .inl h1
  · exact .inr h1
  · exact h1.elim

/-! ### Closures that call themselves -/
def Rec.joinQ (c : Rec) (y2 : TupT c.post) (f : (TupT c.as → Prop) × (TupT c.as → c.r.T)) : (ante : List Sh) → TupT ante → TupA (ante.map AD.ptr ++ AD.pfn c.as c.r :: c.post.map AD.ptr)
  | [], _ => (f, joinP c.post y2)
  | _ :: cs, y => (y.1, Rec.joinQ c y2 f cs y.2)

def Rec.joinA (c : Rec) (y1 : TupT c.ante) (y2 : TupT c.post) (f : (TupT c.as → Prop) × (TupT c.as → c.r.T)) : (as : List Sh) → TupT as → TupA (as.map AD.dat ++ (c.ante.map AD.ptr ++ AD.pfn c.as c.r :: c.post.map AD.ptr))
  | [], _ => Rec.joinQ c y2 f c.ante y1
  | _ :: as, x => (x.1, Rec.joinA c y1 y2 f as x.2)

def Rec.ads (c : Rec) : List AD := c.as.map AD.dat ++ (c.ante.map AD.ptr ++ AD.pfn c.as c.r :: c.post.map AD.ptr)

theorem Rec.lendsQ (c : Rec) : ∀ (ante : List Sh), lends (ante.map AD.ptr ++ AD.pfn c.as c.r :: c.post.map AD.ptr) = 0
  | [] => lends_ptr c.post
  | _ :: cs => Rec.lendsQ c cs

theorem Rec.lendsA (c : Rec) : ∀ (as : List Sh), lends (as.map AD.dat ++ (c.ante.map AD.ptr ++ AD.pfn c.as c.r :: c.post.map AD.ptr)) = 0
  | [] => Rec.lendsQ c c.ante
  | _ :: as => Rec.lendsA c as

theorem Rec.rootsQ (c : Rec) : ∀ (ante : List Sh) (z : TupA (ante.map AD.ptr ++ AD.pfn c.as c.r :: c.post.map AD.ptr)), paramRoots 0 (ante.map AD.ptr ++ AD.pfn c.as c.r :: c.post.map AD.ptr) z = []
  | [], z => roots_ptr c.post z.2
  | _ :: cs, z => Rec.rootsQ c cs z.2

theorem Rec.rootsA (c : Rec) : ∀ (as : List Sh) (z : TupA (as.map AD.dat ++ (c.ante.map AD.ptr ++ AD.pfn c.as c.r :: c.post.map AD.ptr))), paramRoots 0 (as.map AD.dat ++ (c.ante.map AD.ptr ++ AD.pfn c.as c.r :: c.post.map AD.ptr)) z = []
  | [], z => Rec.rootsQ c c.ante z
  | _ :: as, z => Rec.rootsA c as z.2

section
variable {C : Ctx} {w : World} {Z : Nat → Prop} (hz : ∀ b, Z b → C.zn gam0 b) (c : Rec) {y2 : TupT c.post} {f : (TupT c.as → Prop) × (TupT c.as → c.r.T)} {ps2 : List Value} {R : Value}
include hz
theorem Rec.argsQ (h2 : ptrsRep w Z c.post y2 ps2) (hR : bvRep C gam0 w (.pfn c.as c.r f.1 f.2) R) : ∀ (ante : List Sh) (y1 : TupT ante) (ps1 : List Value), ptrsRep w Z ante y1 ps1 →
    bvsRep C gam0 w (paramBVs 0 (ante.map AD.ptr ++ AD.pfn c.as c.r :: c.post.map AD.ptr) (Rec.joinQ c y2 f ante y1)) (ps1 ++ R :: ps2)
  | [], _, ps1, h => by
    simp only [ptrsRep] at h
    subst h
    exact ⟨R, ps2, rfl, hR, args_ptr hz c.post y2 ps2 h2⟩
  | _ :: cs, y1, ps1, h => by
    obtain ⟨v, ps', rfl, ⟨b, off, d, e1, e2, e3, e4, e5⟩, h4⟩ := h
    exact ⟨v, ps' ++ R :: ps2, rfl, ⟨b, off, d, e1, hz b e2, e3, pers_mono (Nat.le_refl _) (fun b _ hb => ⟨hz b hb, rfl⟩) _ _ d e4, e5⟩, Rec.argsQ h2 hR cs y1.2 ps' h4⟩

theorem Rec.argsA (h2 : ptrsRep w Z c.post y2 ps2) (hR : bvRep C gam0 w (.pfn c.as c.r f.1 f.2) R) {y1 : TupT c.ante} {ps1 : List Value} (h1 : ptrsRep w Z c.ante y1 ps1) : ∀ (as : List Sh) (x : TupT as) (vs : List Value), argsRep w Z as x vs →
    bvsRep C gam0 w (paramBVs 0 (as.map AD.dat ++ (c.ante.map AD.ptr ++ AD.pfn c.as c.r :: c.post.map AD.ptr)) (Rec.joinA c y1 y2 f as x)) (vs ++ (ps1 ++ R :: ps2))
  | [], _, vs, h => by
    simp only [argsRep] at h
    subst h
    exact Rec.argsQ hz c h2 hR c.ante y1 ps1 h1
  | _ :: as, x, vs, h => by
    obtain ⟨v, vs', rfl, h3, h4⟩ := h
    exact ⟨v, vs' ++ (ps1 ++ R :: ps2), rfl, vrep_zone hz h3, Rec.argsA h2 hR h1 as x.2 vs' h4⟩
end

/-- A closure that calls itself, by a number that grows smaller. -/
theorem RecSpec.of {P : Program} {f : FuncId} {c : Rec} (hflat : c.r.flat = true) (μ : TupT c.ante → TupT c.post → TupT c.as → Nat) {pre : TupA c.ads → Prop} {post : TupA c.ads → Out} (h : FnSpec P f ⟨c.ads, pre, post⟩)
    (hpre : ∀ y1 y2 x q, c.q y1 y2 x → (∀ x', c.q y1 y2 x' → μ y1 y2 x' < μ y1 y2 x → q x') → pre (Rec.joinA c y1 y2 (q, c.p y1 y2) c.as x))
    (hpost : ∀ y1 y2 x q, post (Rec.joinA c y1 y2 (q, c.p y1 y2) c.as x) = { res := [.val c.r (c.p y1 y2 x)] }) : RecSpec P f c := by
  refine ⟨h.callable, hflat, ?_⟩
  have key : ∀ (n : Nat) (w : World) (Z : Nat → Prop) (y1 : TupT c.ante) (y2 : TupT c.post) (x : TupT c.as) (ps1 ps2 vs : List Value) (b off : Nat), μ y1 y2 x = n → c.q y1 y2 x → ptrsRep w (fun _ => True) c.ante y1 ps1 → ptrsRep w (fun _ => True) c.post y2 ps2 → argsRep w Z c.as x vs →
      b < w.heap.size → w.cell? ⟨b, off, none⟩ = some (.func (.func f) #[] (ps1 ++ .pointer (some ⟨b, off, none⟩) :: ps2).toArray) →
      Calls P f (vs ++ (ps1 ++ .pointer (some ⟨b, off, none⟩) :: ps2)).toArray w (fun e w' => ∃ u, e = .returned u ∧ vrep w' (fun _ => True) c.r (c.p y1 y2 x) u ∧ Keep (fun _ => False) w w') := by
    intro n
    induction n using Nat.strongRecOn with
    | _ n ih =>
      intro w Z y1 y2 x ps1 ps2 vs b off hn hq h1 h2 ha hb hcell
      let C : Ctx := ⟨P, fun _ => False, w, fun _ => True, 0, fun _ => undef⟩
      let q : TupT c.as → Prop := fun x' => c.q y1 y2 x' ∧ μ y1 y2 x' < n
      have hz : ∀ b, (fun _ : Nat => True) b → C.zn gam0 b := fun b _ => ⟨.inl trivial, rfl⟩
      have hR : bvRep C gam0 w (.pfn c.as c.r q (c.p y1 y2)) (.pointer (some ⟨b, off, none⟩)) := by
        refine ⟨b, off, _, rfl, hz b trivial, hb, hcell, f, _, rfl, h.callable, fun w1 Z1 x' vs' hk hq' ha' => ?_⟩
        have hcell1 : w1.cell? ⟨b, off, none⟩ = some (.func (.func f) #[] (ps1 ++ .pointer (some ⟨b, off, none⟩) :: ps2).toArray) := by
          rw [World.cell?_of_block (w := w) (w' := w1) (a := ⟨b, off, none⟩) (hk.block b hb (fun h => h))]
          exact hcell
        have hk' : Keep (fun _ => False) w w1 := hk
        have hc := ih (μ y1 y2 x') hq'.2 w1 Z1 y1 y2 x' ps1 ps2 vs' b off rfl hq'.1 (ptrsRep_mono hk' _ _ _ h1) (ptrsRep_mono hk' _ _ _ h2) ha' (Nat.lt_of_lt_of_le hb hk'.size) hcell1
        have e : (vs' ++ (ps1 ++ .pointer (some ⟨b, off, none⟩) :: ps2)).toArray = vs'.toArray ++ (ps1 ++ .pointer (some ⟨b, off, none⟩) :: ps2).toArray := by simp
        rw [e] at hc
        refine hc.mono fun e w2 hx => ?_
        obtain ⟨u, k1, k2, k3⟩ := hx
        exact ⟨u, k1, vrep_flat hflat k2, k3⟩
      have hrun := h.run C gam0 (Rec.joinA c y1 y2 (q, c.p y1 y2) c.as x) (vs ++ (ps1 ++ .pointer (some ⟨b, off, none⟩) :: ps2)) (hpre y1 y2 x q hq fun x' k1 k2 => ⟨k1, by omega⟩)
        ⟨rfl, (Rec.lendsA c c.as).symm, fun r hr => absurd hr (Nat.not_lt_zero r), fun k l hk => by simp [gam0] at hk, Rec.argsA hz c h2 hR h1 c.as x vs (argsRep_zone (fun _ _ => trivial) _ _ _ ha), fun p hp => by
          have : paramRoots 0 c.ads (Rec.joinA c y1 y2 (q, c.p y1 y2) c.as x) = [] := Rec.rootsA c c.as _
          rw [this] at hp
          simp at hp⟩
      refine hrun.mono fun e w' hx => ?_
      obtain ⟨v, γ', rfl, ⟨⟨ids, us, rfl, hres, _⟩, _, _⟩, hk⟩ := hx
      have hres' : resRep C γ' w' (post (Rec.joinA c y1 y2 (q, c.p y1 y2) c.as x)).res ids us := hres
      rw [hpost] at hres'
      obtain ⟨u, us', rfl, hu, _, h2⟩ := hres'
      subst h2
      exact ⟨u, rfl, vrep_flat hflat hu, hk⟩
  intro w Z y1 y2 x ps1 ps2 vs b off hq h1 h2 ha hb hcell
  exact key _ w Z y1 y2 x ps1 ps2 vs b off rfl hq h1 h2 ha hb hcell

end Go.VS
