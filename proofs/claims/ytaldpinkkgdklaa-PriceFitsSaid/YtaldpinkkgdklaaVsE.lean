/- Value semantics, part E: the other operations that write nothing. Over any program; no condition. -/
import Derived.Test.YtaldpinkkgdklaaVsD
namespace Go.VS
open Go.RowKit
set_option linter.unusedSimpArgs false
set_option linter.unusedVariables false

section
variable {C : Ctx} {G : Lang} {γ : Gam} {s : AS} {a : Act} {w : World}

theorem y_move (h : Rel C γ s a w) (d : Option Tmp) (x : Operand) (ty : TypeId) (pos : String) (af : Array Edge) (gd : Option (Nat × Bool)) :
    Yields C γ a w ⟨d, .move x, ty, pos, af, gd⟩ (pv G s (.move x)) := fun _ => ⟨a.eval x, w, rfl, Keep.refl _ _, ev_rep h x⟩

theorem y_assign (h : Rel C γ s a w) (d : Option Tmp) (x : Operand) (ty : TypeId) (pos : String) (af : Array Edge) (gd : Option (Nat × Bool)) :
    Yields C γ a w ⟨d, .assign x, ty, pos, af, gd⟩ (pv G s (.assign x)) := fun _ => ⟨a.eval x, w, rfl, Keep.refl _ _, ev_rep h x⟩

theorem y_pick (h : Rel C γ s a w) (d : Option Tmp) (c x y : Operand) (ty : TypeId) (pos : String) (af : Array Edge) (gd : Option (Nat × Bool)) :
    Yields C γ a w ⟨d, .pick c x y, ty, pos, af, gd⟩ (pv G s (.pick c x y)) := by
  have hc := ev_rep h c
  simp only [pv]
  split
  · rename_i t he
    rw [he] at hc
    have hc := rep_bool hc
    refine fun _ => ⟨if t then a.eval x else a.eval y, w, ?_, Keep.refl _ _, ?_⟩
    · simp [execOp, hc, asBool]
    · cases t
      · exact ev_rep h y
      · exact ev_rep h x
  · exact Yields.bad

theorem y_nilCheck (h : Rel C γ s a w) (d : Option Tmp) (x : Operand) (ty : TypeId) (pos : String) (af : Array Edge) (gd : Option (Nat × Bool)) :
    Yields C γ a w ⟨d, .nilCheck x, ty, pos, af, gd⟩ (pv G s (.nilCheck x)) := by
  have hx := ev_rep h x
  simp only [pv]
  split
  · rename_i sh y he
    rw [he] at hx ⊢
    obtain ⟨b, off, cs, h1, hr⟩ := hx
    exact fun _ => ⟨.pointer (some ⟨b, off, none⟩), w, by simp [execOp, h1], Keep.refl _ _, ⟨b, off, cs, rfl, hr⟩⟩
  · rename_i b he
    rw [he] at hx ⊢
    simp only [svRep, bvRep] at hx
    exact fun _ => ⟨_, w, by simp [execOp, hx], Keep.refl _ _, rfl⟩
  · rename_i b n f off he
    rw [he] at hx ⊢
    simp only [svRep, bvRep] at hx
    exact fun _ => ⟨_, w, by simp [execOp, hx], Keep.refl _ _, rfl⟩
  · rename_i r i sz he
    rw [he] at hx ⊢
    obtain ⟨g, n, cap, h1, h2⟩ := hx
    exact fun _ => ⟨_, w, by simp [execOp, h2], Keep.refl _ _, ⟨g, n, cap, h1, rfl⟩⟩
  · exact Yields.bad

theorem y_unOp (h : Rel C γ s a w) (d : Option Tmp) (op : UnOp) (t : TypeId) (x : Operand) (ty : TypeId) (pos : String) (af : Array Edge) (gd : Option (Nat × Bool)) :
    Yields C γ a w ⟨d, .unOp op t x, ty, pos, af, gd⟩ (pv G s (.unOp op t x)) := by
  have hx := ev_rep h x
  simp only [pv]
  split
  · rename_i b he
    rw [he] at hx
    have hx := rep_bool hx
    exact fun _ => ⟨.bool (!b), w, run_v (by rw [hx]; simp [Op.unary]), Keep.refl _ _, mk_bool _⟩
  · rename_i n he
    rw [he] at hx
    have hx := rep_int hx
    refine fun hr => ⟨.int .i64 (-n), w, run_v (by rw [hx]; simp [Op.unary, Op.intArith, IntWalk.i64_in _ hr]), Keep.refl _ _, mk_int _⟩
  · exact Yields.bad

theorem byte_wrap (n : Nat) (h : n < 256) : IntKind.i64.wrap (n : Int) = n := IntWalk.i64_in _ (by omega)

theorem y_convert (hG : LangOK C.P G) (h : Rel C γ s a w) (d : Option Tmp) (src dst : TypeId) (x : Operand) (ty : TypeId) (pos : String) (af : Array Edge) (gd : Option (Nat × Bool)) :
    Yields C γ a w ⟨d, .convert src dst x, ty, pos, af, gd⟩ (pv G s (.convert src dst x)) := by
  have hx := ev_rep h x
  simp only [pv]
  split
  · rename_i n he
    rw [he] at hx
    have hx := rep_int hx
    rintro ⟨h1, h2, hr⟩
    exact ⟨.int .i64 n, w, run_v (by rw [hx]; simp [convert, run_underlying (hG.int _ h1), run_underlying (hG.int _ h2), Conv.intToInt, IntWalk.i64_in _ hr]), Keep.refl _ _, mk_int _⟩
  · rename_i n he
    rw [he] at hx
    have hx := rep_byte hx
    rintro ⟨h1, h2, hr⟩
    have hr' := byte_wrap n hr
    exact ⟨.int .i64 (n : Nat), w, run_v (by rw [hx]; simp [convert, run_underlying (hG.byte _ h1), run_underlying (hG.int _ h2), Conv.intToInt, hr']), Keep.refl _ _, mk_int _⟩
  · exact Yields.bad

theorem y_fieldAddr (hG : LangOK C.P G) (h : Rel C γ s a w) (d : Option Tmp) (t : TypeId) (x : Operand) (f : Nat) (ty : TypeId) (pos : String) (af : Array Edge) (gd : Option (Nat × Bool)) :
    Yields C γ a w ⟨d, .fieldAddr t x f, ty, pos, af, gd⟩ (pv G s (.fieldAddr t x f)) := by
  have hx := ev_rep h x
  have run : ∀ {n off : Nat} {ad : Addr}, G.fld t f = some (n, off) → a.eval x = .pointer (some ad) → (Instr.fieldAt t (a.eval x) f).run C.P w = .ok (.pointer (some (ad.add off))) w := by
    intro n off ad hf hv
    obtain ⟨fs, fld, hu, hn, hfl, rfl, i, hi, hsz⟩ := (hG.fld t f n off hf).ok
    rw [hv]
    simp [Instr.fieldAt, run_underlying hu, hfl, Instr.sureAddr, fieldPlace, run_sizeOf hi, hsz]
  simp only [pv]
  split
  · rename_i b n off he hf
    rw [he] at hx
    simp only [svRep, bvRep] at hx
    exact fun _ => ⟨_, w, run_v (run hf hx), Keep.refl _ _, by simp [svRep, bvRep, Addr.add_lit]⟩
  · rename_i sh y n off he hf
    rw [he] at hx
    obtain ⟨b, o, cs, h1, h2, h3, h4, h5⟩ := hx
    split
    · rename_i sh' z hv
      intro ht
      obtain ⟨ho, _⟩ := hG.fldO t f n off sh hf ht
      obtain ⟨pre, e, post, rfl, hl, hp'⟩ := fieldV_pers n f sh y cs sh' z off h4 hv ho
      refine ⟨_, w, run_v (run hf h1), Keep.refl _ _, b, o + off, e, by rw [Addr.add_lit], h2, h3, hp', fun j c hj => ?_⟩
      rw [Nat.add_assoc]
      refine h5 (off + j) c ?_
      rw [List.append_assoc, ← hl, List.getElem?_append_right (by omega), Nat.add_sub_cancel_left, List.getElem?_append_left (List.getElem?_eq_some_iff.1 hj).1]
      exact hj
    · exact Yields.bad
  · exact Yields.bad

theorem run_part_sh (hG : LangOK C.P G) {t : TypeId} {sh : Sh} (ht : G.sh t = some sh) {x : sh.T} {Z : Nat → Prop} {pre c post : List Value} (hp : pers w Z sh x c) :
    (part t (pre ++ c ++ post).toArray pre.length).run C.P w = .ok (pack sh c) w := by
  obtain ⟨d, hd, hagg⟩ := hG.agg t sh ht
  obtain ⟨i, z, hi, hsz, _⟩ := hG.info t sh ht
  have hlen := pers_len sh x c hp
  simp only [part, Sem.run_bind, run_isAgg hd, hagg, Result.andThen_ok]
  unfold pack
  by_cases ha : sh.agg = true
  · simp only [ha, if_true, Sem.run_bind, run_sizeOf hi, Result.andThen_ok, hsz, ← hlen]
    simp
  · have ha' : sh.agg = false := by simpa using ha
    have h1 := size_one ha'
    rw [h1] at hlen
    obtain ⟨u, rfl⟩ := List.length_eq_one_iff.1 hlen
    simp [ha']

theorem y_field (hG : LangOK C.P G) (h : Rel C γ s a w) (d : Option Tmp) (t : TypeId) (x : Operand) (f : Nat) (ty : TypeId) (pos : String) (af : Array Edge) (gd : Option (Nat × Bool)) :
    Yields C γ a w ⟨d, .field t x f, ty, pos, af, gd⟩ (pv G s (.field t x f)) := by
  have hx := ev_rep h x
  simp only [pv]
  split
  · rename_i sh y n off he hf
    rw [he] at hx
    obtain ⟨cs, hp, hv⟩ := hx
    split
    · rename_i sh' z hfv
      intro ht
      obtain ⟨ho, hagg⟩ := hG.fldO t f n off sh hf ht
      obtain ⟨fs, fld, hu, hn, hfl, rfl, _⟩ := (hG.fld t f n off hf).ok
      obtain ⟨fs', fld', hu', hfl', hsh'⟩ := hG.fldT t f n _ sh sh' hf ht y z hfv
      rw [hu] at hu'
      obtain rfl : fs = fs' := by simpa using hu'
      rw [hfl] at hfl'
      obtain rfl : fld = fld' := by simpa using hfl'
      obtain ⟨pre, e, post, rfl, hl, hp'⟩ := fieldV_pers n f sh y cs sh' z _ hp hfv ho
      refine ⟨pack sh' e, w, run_v ?_, Keep.refl _ _, e, hp', rfl⟩
      rw [hv]
      have hr := run_part_sh hG hsh' (pre := pre) (post := post) hp'
      rw [hl] at hr
      simp only [pack, hagg, if_true, Instr.field, Sem.run_bind, run_underlying hu, Result.andThen_ok, hfl, asAgg, Sem.run_pure]
      exact hr
    · exact Yields.bad
  · rename_i bs n off he hf
    rw [he] at hx
    obtain ⟨vs, hv, hbs, _⟩ := hx
    rintro ⟨hpl, ho⟩
    obtain ⟨fs, fld, d0, hu, hfl, hd, hagg⟩ := hG.fplain t f n off hpl hf
    obtain ⟨fs', fld', hu', hn, hfl', hoff, _⟩ := (hG.fld t f n off hf).ok
    rw [hu] at hu'
    obtain rfl : fs = fs' := by simpa using hu'
    rw [hfl] at hfl'
    obtain rfl : fld = fld' := by simpa using hfl'
    obtain ⟨u, hu1, hu2⟩ := bvsRep_get bs vs hbs off ho
    refine ⟨u, w, run_v ?_, Keep.refl _ _, hu2⟩
    rw [hv]
    simp [Instr.field, run_underlying hu, hfl, asAgg, part, run_isAgg hd, hagg, hoff, hu1]
  · exact Yields.bad

theorem y_indexAddr (hG : LangOK C.P G) (h : Rel C γ s a w) (d : Option Tmp) (t : TypeId) (x i : Operand) (ty : TypeId) (pos : String) (af : Array Edge) (gd : Option (Nat × Bool)) :
    Yields C γ a w ⟨d, .indexAddr t x i, ty, pos, af, gd⟩ (pv G s (.indexAddr t x i)) := by
  have hx := ev_rep h x
  have hi := ev_rep h i
  have run : ∀ {sh : Sh} {n : Int} {ad : Addr} {len cap : Nat}, G.sh t = some (.sl sh) → 0 ≤ n → n < (len : Nat) → a.eval x = .slice (some ad) len cap → a.eval i = .int .i64 n →
      (Instr.indexAt t (a.eval x) (a.eval i)).run C.P w = .ok (.pointer (some (ad.add (n.toNat * sh.size)))) w := by
    intro sh n ad len cap ht h0 h1 hv hn
    obtain ⟨hu, he, _⟩ := hG.sl t sh ht
    obtain ⟨i0, z, hi0, hsz, _⟩ := hG.info _ sh he
    rw [hv, hn]
    simp [Instr.indexAt, asIntOf, run_underlying hu, h0, h1, run_sizeOf hi0, hsz]
  simp only [pv]
  split
  · rename_i sh xs n ex en
    rw [ex] at hx; rw [en] at hi
    have hn := rep_int hi
    obtain ⟨cs, ⟨ad, cap, rfl, hc, hm, hall⟩, hv⟩ := hx
    rintro ⟨ht, h0, h1⟩
    have hlt : n.toNat < List.length xs := by omega
    obtain ⟨b, off, c, rfl, hz, hb, hp, hcell⟩ := hall n.toNat hlt
    refine ⟨_, w, run_v (run ht h0 h1 hv hn), Keep.refl _ _, ?_⟩
    have hget : List.getD xs n.toNat sh.zero = xs[n.toNat] := by simp [List.getD_eq_getElem?_getD, hlt]
    rw [hget]
    exact ⟨b, off + n.toNat * sh.size, c, by rw [Addr.add_lit], hz, hb, hp, fun j u hj => by rw [Nat.add_assoc]; exact hcell j u hj⟩
  · rename_i r n ex en
    rw [ex] at hx; rw [en] at hi
    have hn := rep_int hi
    simp only [svRep, bvRep] at hx
    split
    · rename_i e sh xs hr
      rintro ⟨ht, h0, h1⟩
      obtain ⟨hf, hown, _⟩ := h.roots r _ hr
      obtain ⟨g, cap, hg⟩ := own_head hown (by omega)
      refine ⟨_, w, run_v (run ht h0 h1 (hx.trans hg) hn), Keep.refl _ _, g, _, cap, hg, by rw [Addr.add_lit, Nat.zero_add]⟩
    · rename_i e e2 sh xss hr
      rintro ⟨ht, h0, h1⟩
      obtain ⟨hf, hown, _⟩ := h.roots r _ hr
      obtain ⟨g, cap, hg⟩ := own_head hown (by omega)
      refine ⟨_, w, run_v (run ht h0 h1 (hx.trans hg) hn), Keep.refl _ _, g, _, cap, hg, by rw [Addr.add_lit, Nat.zero_add]; rfl⟩
    · rename_i e e2 sh xss k hr
      rintro ⟨ht, h0, h1⟩
      obtain ⟨hf, hown, _⟩ := h.roots r _ hr
      obtain ⟨g, cap, hg⟩ := own_head hown (by omega)
      refine ⟨_, w, run_v (run ht h0 h1 (hx.trans hg) hn), Keep.refl _ _, g, _, cap, hg, by rw [Addr.add_lit, Nat.zero_add]; rfl⟩
    · exact Yields.bad
  · rename_i r k n ex en
    rw [ex] at hx; rw [en] at hi
    have hn := rep_int hi
    simp only [svRep, bvRep] at hx
    split
    · rename_i e e2 sh xss hr
      rintro ⟨ht, hk, h0, h1⟩
      obtain ⟨hf, _, _, hrows⟩ := h.roots r _ hr
      have hgk : xss.getD k [] = xss[k] := by simp [List.getD_eq_getElem?_getD, hk]
      rw [hgk] at h1
      obtain ⟨hown, _⟩ := hrows k xss[k] (by simp [hk])
      obtain ⟨g, cap, hg⟩ := own_head hown (by omega)
      refine ⟨_, w, run_v (run ht h0 h1 (hx.trans hg) hn), Keep.refl _ _, g, _, cap, hg, by rw [Addr.add_lit, Nat.zero_add]⟩
    · exact Yields.bad
  · exact Yields.bad

theorem y_index (hG : LangOK C.P G) (h : Rel C γ s a w) (d : Option Tmp) (t : TypeId) (x i : Operand) (ty : TypeId) (pos : String) (af : Array Edge) (gd : Option (Nat × Bool)) :
    Yields C γ a w ⟨d, .index t x i, ty, pos, af, gd⟩ (pv G s (.index t x i)) := by
  have hx := ev_rep h x
  have hi := ev_rep h i
  simp only [pv]
  split
  · rename_i b n ex en
    rw [ex] at hx; rw [en] at hi
    have hx := rep_str hx
    have hn := rep_int hi
    rintro ⟨ht, h0, h1⟩
    have hu := hG.str t ht
    have hlt : n.toNat < b.size := by omega
    have hg : b[n.toNat]? = some b[n.toNat] := by simp [hlt]
    have hd : (b.data.toList.getD n.toNat 0) = b[n.toNat] := by
      have h2 : n.toNat < b.data.toList.length := by simpa using hlt
      rw [List.getD_eq_getElem?_getD, List.getElem?_eq_getElem h2]; rfl
    refine ⟨.int .u8 (b[n.toNat].toNat : Nat), w, run_v ?_, Keep.refl _ _, ?_⟩
    · rw [hx, hn]
      simp [Instr.index, asIntOf, run_underlying hu, h0, hg]
    · rw [hd]; exact mk_byte _
  · exact Yields.bad

theorem y_extract (h : Rel C γ s a w) (d : Option Tmp) (x : Operand) (i : Nat) (ty : TypeId) (pos : String) (af : Array Edge) (gd : Option (Nat × Bool)) :
    Yields C γ a w ⟨d, .extract x i, ty, pos, af, gd⟩ (pv G s (.extract x i)) := by
  have hx := ev_rep h x
  simp only [pv]
  split
  · rename_i bs he
    rw [he] at hx
    obtain ⟨vs, hv, hbs⟩ := hx
    intro hi
    obtain ⟨u, h1, h2⟩ := bvsRep_get bs vs hbs i hi
    exact ⟨u, w, run_v (by rw [hv]; simp [Instr.extract, h1]), Keep.refl _ _, h2⟩
  · exact Yields.bad

theorem boxIds_rep : ∀ (svs : List SV) (vs : List Value) (ids : List Nat), boxIds svs = some ids → svs.length = vs.length → (∀ (i : Nat) (sv : SV) (v : Value), svs[i]? = some sv → vs[i]? = some v → svRep C γ w sv v) →
    vs = ids.map fun b => Value.pointer (some ⟨γ.bx b, 0, none⟩)
  | [], [], ids, h, _, _ => by simp [boxIds] at h; subst h; rfl
  | [], _ :: _, _, _, hl, _ => by simp at hl
  | _ :: _, [], _, _, hl, _ => by simp at hl
  | sv :: svs, v :: vs, ids, h, hl, hr => by
    have h0 := hr 0 sv v rfl rfl
    unfold boxIds at h
    split at h
    · rename_i e; cases e
    · rename_i b l e
      simp only [List.cons.injEq] at e
      obtain ⟨rfl, rfl⟩ := e
      simp only [Option.map_eq_some_iff] at h
      obtain ⟨r, hr', rfl⟩ := h
      have ih := boxIds_rep svs vs r hr' (by simpa using hl) (fun i sv v h1 h2 => hr (i + 1) sv v (by simpa using h1) (by simpa using h2))
      simp only [svRep, bvRep] at h0
      simp [h0, ← ih]
    · simp at h

theorem y_makeFunc (h : Rel C γ s a w) (d : Option Tmp) (fn : Fn) (first captured : Array Operand) (ty : TypeId) (pos : String) (af : Array Edge) (gd : Option (Nat × Bool)) :
    Yields C γ a w ⟨d, .makeFunc fn first captured, ty, pos, af, gd⟩ (pv G s (.makeFunc fn first captured)) := by
  cases fn <;> try exact Yields.bad
  rename_i f
  simp only [pv]
  split
  · rename_i ids hf hb
    intro _
    have he : first = #[] := by simpa using hf
    subst he
    have hrep := boxIds_rep (C := C) (γ := γ) (w := w) _ (captured.toList.map a.eval) ids hb (by simp) (fun i sv v h1 h2 => by
      rw [List.getElem?_map, Option.map_eq_some_iff] at h1 h2
      obtain ⟨o, h3, rfl⟩ := h1
      obtain ⟨o', h4, rfl⟩ := h2
      rw [h3] at h4
      obtain rfl : o = o' := by simpa using h4
      exact ev_rep h o)
    refine ⟨_, w, run_v (by simp [Instr.makeFunc]; rfl), Keep.refl _ _, ?_⟩
    simp only [svRep, bvRep]
    rw [← hrep]
    congr 1
    apply Array.ext'
    simp
  · exact Yields.bad

theorem y_slice (hG : LangOK C.P G) (h : Rel C γ s a w) (d : Option Tmp) (t : TypeId) (x : Operand) (lo hi mx : Option Operand) (ty : TypeId) (pos : String) (af : Array Edge) (gd : Option (Nat × Bool)) :
    Yields C γ a w ⟨d, .slice t x lo hi mx, ty, pos, af, gd⟩ (pv G s (.slice t x lo hi mx)) := by
  cases mx with
  | some m => exact Yields.bad
  | none =>
  have hx := ev_rep h x
  simp only [pv]
  split
  · rename_i sh xs ex el eh
    rw [ex] at hx
    obtain ⟨cs, ⟨ad, cap, rfl, hc, hm, hall⟩, hv⟩ := hx
    intro ht
    obtain ⟨hu, he, hpos⟩ := hG.sl t sh ht
    obtain ⟨i0, z, hi0, hsz, _⟩ := hG.info _ sh he
    have el' : lo = none := by simpa using el
    have eh' : hi = none := by simpa using eh
    subst el' eh'
    have hv' : a.eval x = .slice ad (List.length xs) cap := by rw [hv]; rfl
    refine ⟨_, w, run_v (v := .slice ad (List.length xs) cap) ?_, Keep.refl _ _, _, ⟨ad, cap, rfl, hc, hm, hall⟩, rfl⟩
    rw [hv']
    simp [Instr.sliceAt, Instr.slice, Instr.sliceBounds, run_underlying hu, run_sizeOf hi0]
    cases ad <;> simp [Addr.add]
  · rename_i sh xs l ex el eh
    rw [ex] at hx
    obtain ⟨cs, ⟨ad, cap, rfl, hc, hm, hall⟩, hv⟩ := hx
    rintro ⟨ht, h0, h1⟩
    obtain ⟨hu, he, hpos⟩ := hG.sl t sh ht
    obtain ⟨i0, z, hi0, hsz, _⟩ := hG.info _ sh he
    obtain ⟨lo', rfl, hlo⟩ : ∃ o, lo = some o ∧ ev s o = .one (.val .int l) := by
      cases lo with
      | none => simp at el
      | some o => exact ⟨o, rfl, by simpa using el⟩
    have eh' : hi = none := by simpa using eh
    subst eh'
    have hl := ev_rep h lo'
    rw [hlo] at hl
    have hl := rep_int hl
    have hv' : a.eval x = .slice ad (List.length xs) cap := by rw [hv]; rfl
    refine ⟨_, w, run_v (v := .slice (if cap = l.toNat then ad else ad.map (·.add (l.toNat * sh.size))) (List.length xs - l.toNat) (cap - l.toNat)) ?_, Keep.refl _ _, [_], ⟨_, cap - l.toNat, by rw [List.length_drop], ?_, ?_, fun i hi' => ?_⟩, rfl⟩
    · rw [hv']
      have h1' : l ≤ (List.length xs : Int) := h1
      simp [Instr.sliceAt, Instr.slice, Instr.sliceBounds, Instr.sliceBound, asIntOf, run_underlying hu, run_sizeOf hi0, hl, h0, h1', hsz]
    · rw [List.length_drop]; omega
    · omega
    · rw [List.length_drop] at hi'
      obtain ⟨b, off, c, rfl, hz, hb, hp, hcell⟩ := hall (l.toNat + i) (by omega)
      have hne : cap ≠ l.toNat := by omega
      refine ⟨b, off + l.toNat * sh.size, c, by rw [if_neg hne]; simp [Addr.add_lit], hz, hb, by rw [List.getElem_drop]; exact hp, fun j u hj => ?_⟩
      have := hcell j u hj
      rw [Nat.add_mul] at this
      rw [show off + l.toNat * sh.size + (i * sh.size + j) = off + (l.toNat * sh.size + i * sh.size + j) by omega]
      exact this
  · rename_i sh xs hh ex el eh
    rw [ex] at hx
    obtain ⟨cs, ⟨ad, cap, rfl, hc, hm, hall⟩, hv⟩ := hx
    rintro ⟨ht, h0, h1⟩
    obtain ⟨hu, he, hpos⟩ := hG.sl t sh ht
    obtain ⟨i0, z, hi0, hsz, _⟩ := hG.info _ sh he
    obtain ⟨hi', rfl, hhi⟩ : ∃ o, hi = some o ∧ ev s o = .one (.val .int hh) := by
      cases hi with
      | none => simp at eh
      | some o => exact ⟨o, rfl, by simpa using eh⟩
    have el' : lo = none := by simpa using el
    subst el'
    have hl := ev_rep h hi'
    rw [hhi] at hl
    have hl := rep_int hl
    have hv' : a.eval x = .slice ad (List.length xs) cap := by rw [hv]; rfl
    refine ⟨_, w, run_v (v := .slice ad hh.toNat cap) ?_, Keep.refl _ _, [_], ⟨ad, cap, ?_, ?_, hm, fun i hi' => ?_⟩, rfl⟩
    · rw [hv']
      have h1' := Int.le_trans h1 (Int.ofNat_le.2 hc)
      simp [Instr.sliceAt, Instr.slice, Instr.sliceBounds, Instr.sliceBound, asIntOf, run_underlying hu, run_sizeOf hi0, hl, h0, h1']
      cases ad <;> simp [Addr.add]
    · rw [List.length_take, Nat.min_eq_left (by omega)]
    · rw [List.length_take]; omega
    · rw [List.length_take] at hi'
      obtain ⟨b, off, c, rfl, hz, hb, hp, hcell⟩ := hall i (by omega)
      exact ⟨b, off, c, rfl, hz, hb, by rw [List.getElem_take]; exact hp, hcell⟩
  · exact Yields.bad

end
end Go.VS
