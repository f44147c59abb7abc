/- The builtin copy: a whole list over a row of an owned table, at the end of a region. Over any program; no condition. -/
import Derived.Test.YtikjejmekfpofaaV4
import Derived.Laws.CopyOwn
namespace Go.VS
open Go.RowKit
set_option linter.unusedSimpArgs false
set_option linter.unusedVariables false

section
variable {C : Ctx} {Q : Exit → AS → Prop} {E : Know} {ops : Array Oper}

theorem runK_then {N : Nat} (hE : KnowOK C.P E) {Q : Exit → Act → World → Prop} {K : AS → Prop} {rest : List Oper} (hd : ∀ (j : Nat) (o : Oper), ops[j]? = some o → dstOK N o.dst = true)
    (hQ : ∀ s' γ' a' w', Rel C γ' s' a' w' → a'.tmps.size = N → K s' → wpList C.P ops Q rest a' w') : ∀ (l : List Oper) (s : AS) (γ : Gam) (a : Act) (w : World), (∀ o ∈ l, dstOK N o.dst = true) → a.tmps.size = N → Rel C γ s a w →
    runK E C.nl ops l s K → wpList C.P ops Q (l ++ rest) a w
  | [], s, γ, a, w, _, hN, h, hk => hQ s γ a w h hN hk
  | o :: l, s, γ, a, w, hl, hN, h, hk => by
    refine wpList_step fun K' hK' => ?_
    subst hN
    exact stepK_sound hE h hd (hl o (by simp)) hk fun s' γ' a' w' h1 h2 h3 => hK' _ _ (runK_then hE hd hQ l s' γ' a' w' (fun o ho => hl o (by simp [ho])) h2 h1 h3)

theorem cells_map (ys : List Int) : ys.flatMap (Sh.cells .int) = ys.map fun n => Value.int .i64 n := by
  induction ys with
  | nil => rfl
  | cons y ys ih => rw [List.flatMap_cons, ih]; rfl

/-- The state behind a copy. -/
def copyS (s : AS) (d x y : Nat) (K : AS → Prop) : Prop :=
  match s.env x, s.env y with
  | .one (.refi r i), .one (.val sh ys) => match s.roots r with
    | some (.deep e e2 s2 xss) => match tryCast sh (.sl .int) ys, tryCast (.sl (.sl s2)) (.sl (.sl .int)) xss with
      | some zs, some zss => i < List.length zss ∧ zs.length = (zss.getD i []).length ∧ 0 < zs.length ∧ K ((s.setRoot r (some (.deep e e2 .int (zss.set i zs)))).put (some d) (.one (.val .int (zs.length : Int))))
      | _, _ => False
    | _ => False
  | _, _ => False

theorem copyS_open {s : AS} {d x y : Nat} {K : AS → Prop} (h : copyS s d x y K) : ∃ r i e e2 ys xss, s.env x = .one (.refi r i) ∧ s.env y = .one (.val (.sl .int) ys) ∧ s.roots r = some (.deep e e2 .int xss) ∧
    i < xss.length ∧ ys.length = (xss.getD i []).length ∧ 0 < ys.length ∧ K ((s.setRoot r (some (.deep e e2 .int (xss.set i ys)))).put (some d) (.one (.val .int (ys.length : Int)))) := by
  unfold copyS at h
  split at h
  · rename_i r i sh ys h1 h2
    split at h
    · rename_i e e2 s2 xss h3
      split at h
      · rename_i zs zss h4 h5
        unfold tryCast at h4 h5
        split at h4
        · rename_i e4
          subst e4
          split at h5
          · rename_i e5
            simp only [Sh.sl.injEq] at e5
            subst e5
            simp only [Option.some.injEq] at h4 h5
            subst h4 h5
            exact ⟨r, i, e, e2, _, _, h1, h2, h3, h⟩
          · cases h5
        · cases h4
      · exact h.elim
    · exact h.elim
  · exact h.elim

theorem tri_copy {N : Nat} {s : AS} (hE : KnowOK C.P E) {id d x y : Nat} {dT sT elem ty : TypeId} {pos : String} {af : Array Edge} {L : List Oper} (n : Nat) (hu : C.P.underlying dT = some (.slice elem)) (hs : (C.P.info? elem).map (·.size) = some 1)
    (hL : L = L.take n ++ [⟨some d, .call { callee := .builtin .copy, args := #[.tmp x, .tmp y], argTypes := #[dT, sT] }, ty, pos, af, none⟩]) (hd : allDst N L = true)
    (h : runK E C.nl L.toArray (L.take n) s fun s' => copyS s' d x y (Q .normal)) : tri C N (.region id L.toArray false) Q s := by
  refine ⟨fun γ a w hr hN => ?_⟩
  have hd' : ∀ (j : Nat) (o : Oper), L.toArray[j]? = some o → dstOK N o.dst = true := fun j o ho => allDst_spec (ops := L.toArray) (by simpa using hd) j o ho
  have hb := List.all_eq_true.1 hd
  have hdd : d < N := by
    have := hb ⟨some d, .call { callee := .builtin .copy, args := #[.tmp x, .tmp y], argTypes := #[dT, sT] }, ty, pos, af, none⟩ (by rw [hL]; simp)
    simpa [dstOK] using this
  refine wp_region_lit ?_
  have key := runK_then (N := N) (rest := [⟨some d, .call { callee := .builtin .copy, args := #[.tmp x, .tmp y], argTypes := #[dT, sT] }, ty, pos, af, none⟩]) hE (Q := fun e a' w' => ∃ s' γ', Rel C γ' s' a' w' ∧ a'.tmps.size = N ∧ Q e s') hd'
    (fun s' γ' a' w' h1 h2 h3 => ?_) (L.take n) s γ a w (fun o ho => hb o (List.mem_of_mem_take ho)) hN hr h
  · rw [← hL] at key
    exact key
  obtain ⟨r, i, e, e2, ys, xss, k1, k2, k3, k4, k5, k6, k7⟩ := copyS_open h3
  have hx := h1.env x
  rw [k1] at hx
  have hy := h1.env y
  rw [k2] at hy
  obtain ⟨c, ⟨ad, cap, rfl, hc1, hc2, hall⟩, hvy⟩ := hy
  obtain ⟨hf, htop, hobt, hrows⟩ := h1.roots r _ k3
  have hgi : xss.getD i [] = xss[i] := by simp [List.getD_eq_getElem?_getD, k4]
  rw [hgi] at k5
  obtain ⟨hown, hob⟩ := hrows i xss[i] (by simp [k4])
  have hxv : a'.tmps.getD x undef = γ'.rows r i := hx
  have hcl : ∀ zs : List Int, (zs.flatMap (Sh.cells .int)).length = zs.length := fun zs => by
    rw [flatMap_len (Sh.cells .int) 1 (fun _ => rfl)]; omega
  obtain ⟨adr, cp, hsl, _, _⟩ := own_slice hown
  have hbig := hown
  rw [hsl] at hown
  have hadr : ∃ g, adr = some ⟨g, 0, none⟩ := by
    rcases hown.2 with ⟨h', h0⟩ | ⟨g, cap', cur, h', _⟩
    · exact absurd (k5.trans h0) (by omega)
    · simp only [Value.slice.injEq] at h'
      exact ⟨g, h'.1⟩
  obtain ⟨g, rfl⟩ := hadr
  obtain ⟨cur, tt, hg, hcs, hown', hgr⟩ := row_store (o := 0) hown (ys.flatMap (Sh.cells .int)) (by rw [hcl, hcl]; omega)
  obtain ⟨b0, off0, _, had, _⟩ := hall 0 k6
  subst had
  have hsrc : ∀ j v, (ys.flatMap (Sh.cells .int))[j]? = some v → w'.cell? (Addr.add ⟨b0, off0, none⟩ j) = some v := by
    intro j v hj
    have hjl : j < ys.length := by have := (List.getElem?_eq_some_iff.1 hj).1; rwa [hcl] at this
    obtain ⟨b, off, c, e1, _, _, hp, hcell⟩ := hall j hjl
    simp only [Option.some.injEq, Addr.mk.injEq, and_true] at e1
    obtain ⟨rfl, rfl⟩ := e1
    have h8 : c = [.int .i64 ys[j]] := hp
    subst h8
    have h9 := hcell 0 _ rfl
    rw [cells_map, List.getElem?_map, List.getElem?_eq_getElem hjl] at hj
    simp only [Option.map_some, Option.some.injEq] at hj
    subst hj
    have e4 : (Addr.add ⟨b0, off0, none⟩ j) = (⟨b0, off0 + (j * Sh.int.size + 0), none⟩ : Addr) := by
      unfold Addr.add
      simp [Sh.size]
    rw [e4]
    exact h9
  refine wpList_copy_own (o := ⟨some d, .call { callee := .builtin .copy, args := #[.tmp x, .tmp y], argTypes := #[dT, sT] }, ty, pos, af, none⟩) rfl (.tmp x) (.tmp y) dT sT rfl elem hu hs g 0 xss[i].length cp ⟨b0, off0, none⟩ ys.length cap
    (by show a'.tmps.getD x undef = _; rw [hxv, hsl]) (by show a'.tmps.getD y undef = _; rw [hvy]; rfl) cur tt hg (ys.flatMap (Sh.cells .int)) (by rw [hcl, k5]; exact (Nat.min_self _).symm) hsrc hcs ?_ ?_
  · intro v hv
    simp only [List.mem_flatMap] at hv
    obtain ⟨n, _, hv⟩ := hv
    exact cells_one .int n v hv
  have hob' := hob
  rw [hsl] at hob'
  have hk := hob' g rfl
  have hw : Write C γ' w' _ g (.row r i) := ⟨hk.1, hk.2, hgr, fun _ => by simp⟩
  have hrel : Rel C γ' (s'.setRoot r (some (.deep e e2 .int (xss.set i ys)))) a' (w'.setRow g (cur.toList.take 0 ++ ys.flatMap (Sh.cells .int) ++ cur.toList.drop (0 + (ys.flatMap (Sh.cells .int)).length)).toArray) := by
    refine h1.written hw (.inr ⟨i, rfl⟩) ⟨hf, ?_, hobt, fun k zs hzs => ?_⟩
    · rw [List.length_set]
      exact hw.row (by simp) htop hobt
    · rw [List.getElem?_set] at hzs
      split at hzs
      · rename_i e'
        subst e'
        simp only [Option.some.injEq] at hzs
        subst hzs
        refine ⟨?_, hob⟩
        rw [hsl, k5]
        have e5 : (xss[i].flatMap (Sh.cells .int)).take 0 ++ ys.flatMap (Sh.cells .int) ++ (xss[i].flatMap (Sh.cells .int)).drop (0 + (ys.flatMap (Sh.cells .int)).length) = ys.flatMap (Sh.cells .int) := by
          rw [Nat.zero_add, hcl, List.drop_eq_nil_of_le (by rw [hcl]; omega)]
          simp
        rw [e5] at hown'
        exact hown'
      · rename_i e'
        exact ⟨hw.row (by simp; exact fun e'' => e' e''.symm) (hrows k zs hzs).1 (hrows k zs hzs).2, (hrows k zs hzs).2⟩
  have hput := hrel.put (d := some d) (by simp [dstOK, h2, hdd]) (sv := .one (.val .int (ys.length : Int))) (v := goInt (ys.flatMap (Sh.cells .int)).length) ⟨_, rfl, by rw [hcl]; rfl⟩
  rw [List.append_assoc] at hput
  exact wpList_nil ⟨_, γ', hput, by simp [Act.put, h2], k7⟩
/-- A contract whose walk knows the program. -/
theorem FnSpec.of_triP {P : Program} {E : Know} (hE : KnowOK P E) {f : FuncId} {fn : Func} {c : Con} {code : Code} (hf : P.funcs[f]? = some fn) (hname : (fn.name == "runtime.NumGoroutine") = false) (hb : fn.body = some code)
    (hn : Nat.ble c.as.length fn.ntmps = true)
    (h : ∀ (C : Ctx) (x : TupA c.as), C.P = P → KnowOK C.P E → C.nl = lends c.as → argsFit c.as x → c.pre x → tri C fn.ntmps code (retQ E (lends c.as) fn.results.toList (c.post x)) (entry c.as x)) : FnSpec P f c := by
  refine ⟨⟨fn, hf, hname, by rw [hb]; rfl⟩, fun C γ x vs hpre hen => ?_⟩
  obtain rfl := hen.P
  refine calls_of_wp hf hb ?_
  have hlen := bvsRep_len _ _ hen.args
  have hle : (paramBVs 0 c.as x).length ≤ fn.ntmps := by rw [bvs_length]; exact Nat.le_of_ble_eq_true hn
  have hr := entry_rel hen (fn.ntmps - vs.length)
  refine wp_mono ((h C x rfl hE hen.nl (argsFit_of _ _ _ _ hen.args) hpre).run γ _ _ (by simpa using hr) (by simp; omega)) ?_
  rintro e a' w' ⟨s', γ', h1, h2, h3⟩
  rw [← hen.nl] at h3
  cases e with
  | normal =>
    obtain ⟨v, γ2, k1, k2⟩ := retOK_sound hE h1 (fn := fn) h3
    exact ⟨h1.defers.1.trans hen.ds.1, v, k1, v, γ2, rfl, k2, h1.keep⟩
  | ret =>
    obtain ⟨v, γ2, k1, k2⟩ := retOK_sound hE h1 (fn := fn) h3
    exact ⟨h1.defers.1.trans hen.ds.1, v, k1, v, γ2, rfl, k2, h1.keep⟩
  | exit id => exact h3.elim
  | goto l => exact h3.elim
  | panic c => exact h3.elim
  | outgrown => exact h3.elim

/-! ### A variable that holds data is given away: its address reads as the address of data -/
def unbox (s : AS) (i b : Nat) (sh : Sh) (x : sh.T) : AS := ⟨upd s.env i (.one (.padr sh x)), s.roots, upd s.boxes b none⟩
def unGam (γ : Gam) (b : Nat) : Gam := ⟨γ.hs, γ.rs, γ.bx, fun k => if k = γ.bx b then none else γ.own k⟩
theorem unbox_rel {s : AS} {γ : Gam} {a : Act} {w : World} {i b : Nat} {sh : Sh} {x : sh.T} (h : Rel C γ s a w) (hi : s.env i = .one (.box b)) (hb : s.boxes b = some (.one (.val sh x))) : Rel C (unGam γ b) (unbox s i b sh x) a w := by
  obtain ⟨cs, t, h1, h2, h3, h4, h5⟩ := h.boxes b _ hb
  have hown : ∀ k l, γ.own k = some l → l ≠ .bx b → (unGam γ b).own k = some l := fun k l hk hl => by
    simp only [unGam]
    rw [if_neg]
    · exact hk
    · intro e
      rw [e, h4] at hk
      simp only [Option.some.injEq] at hk
      exact hl hk.symm
  have hsub : Sub C γ w (unGam γ b) w := ⟨Nat.le_refl _, fun k _ hz => ⟨⟨hz.1, by simp only [unGam]; split; rfl; exact hz.2⟩, rfl⟩, fun k d _ hk => ⟨hown k _ hk (by simp), rfl⟩⟩
  have hag : ∀ v : BV, Agree γ (unGam γ b) v := fun v => by cases v <;> simp [Agree, unGam, Gam.hd, Gam.rows]
  have hrow : ∀ v l, l ≠ Loc.bx b → ownB C γ v l → ownB C (unGam γ b) v l := fun v l hl ho k hk => ⟨hown k l (ho k hk).1 hl, (ho k hk).2⟩
  refine ⟨h.defers, h.keep, fun k l hk => ?_, h.lent, fun k => ?_, fun r rc hr => ?_, fun q sv hq => ?_⟩
  · simp only [unGam] at hk
    split at hk
    · cases hk
    · exact h.ownlt k l hk
  · simp only [unbox, upd]
    split
    · rename_i e
      subst e
      have hv := h.env k
      rw [hi] at hv
      obtain ⟨v, ⟨c0, hp, hv2⟩, hcs⟩ := h2
      have e2 := pack_cells sh x c0 hp
      refine ⟨γ.bx b, 0, c0, hv, ⟨.inr h5, by simp [unGam]⟩, (Array.getElem?_eq_some_iff.1 h1).1, pers_mono hsub.size hsub.zn sh x c0 hp, fun j c hj => ?_⟩
      rw [hv2, e2] at hcs
      have e3 : cs.toList[j]? = some c := by rw [hcs]; exact hj
      have e4 : cs[j]? = some c := by rw [← Array.getElem?_toList]; exact e3
      simp only [World.cell?, h1, Nat.zero_add]
      exact e4
    · exact svRep_mono hsub (fun v _ => hag v) (h.env k)
  · have hr' := h.roots r rc hr
    cases rc with
    | flat e s2 xs => exact ⟨hr'.1, hr'.2.1, hrow _ _ (by simp) hr'.2.2⟩
    | deep e e2 s2 xss => exact ⟨hr'.1, hr'.2.1, hrow _ _ (by simp) hr'.2.2.1, fun k xs hk => ⟨(hr'.2.2.2 k xs hk).1, hrow _ _ (by simp) (hr'.2.2.2 k xs hk).2⟩⟩
    | hole e e2 s2 xss k0 => exact ⟨hr'.1, hr'.2.1, hrow _ _ (by simp) hr'.2.2.1, fun k xs hk0 hk => ⟨(hr'.2.2.2 k xs hk0 hk).1, hrow _ _ (by simp) (hr'.2.2.2 k xs hk0 hk).2⟩⟩
    | rags e s2 xss =>
      obtain ⟨vs, k1, k2, k3⟩ := hr'
      exact ⟨vs, k1, hrow _ _ (by simp) k2, bvsRep_mono hsub _ _ (fun v _ => hag v) k3⟩
  · simp only [unbox, upd] at hq
    split at hq
    · cases hq
    · rename_i hne
      obtain ⟨cs2, t2, g1, g2, g3, g4, g5⟩ := h.boxes q sv hq
      refine ⟨cs2, t2, g1, ?_, g3, hown _ _ g4 (by simp only [ne_eq, Loc.bx.injEq]; exact hne), g5⟩
      cases sv with
      | one v => obtain ⟨u, k1, k2⟩ := g2; exact ⟨u, bvRep_mono hsub (hag v) k1, k2⟩
      | rcd bs => exact bvsRep_mono hsub bs _ (fun v _ => hag v) g2
      | tup bs => exact g2.elim
theorem tri_unbox {N : Nat} {s : AS} {c : Code} (i b : Nat) {sh : Sh} {x : sh.T} (hi : s.env i = .one (.box b)) (hb : s.boxes b = some (.one (.val sh x))) (h : tri C N c Q (unbox s i b sh x)) : tri C N c Q s :=
  ⟨fun _ a w hr hN => h.run _ a w (unbox_rel hr hi hb) hN⟩
@[push_cast] theorem unbox_env (s : AS) (i b : Nat) (sh : Sh) (x : sh.T) (k : Nat) : (unbox s i b sh x).env k = if k = i then SV.one (.padr sh x) else s.env k := rfl
@[push_cast] theorem unbox_roots (s : AS) (i b : Nat) (sh : Sh) (x : sh.T) : (unbox s i b sh x).roots = s.roots := rfl
@[push_cast] theorem unbox_boxes (s : AS) (i b : Nat) (sh : Sh) (x : sh.T) (k : Nat) : (unbox s i b sh x).boxes k = if k = b then none else s.boxes k := rfl
end
end Go.VS
