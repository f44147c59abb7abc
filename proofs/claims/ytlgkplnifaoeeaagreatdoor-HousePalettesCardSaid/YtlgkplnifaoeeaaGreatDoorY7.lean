import Derived.Test.YtlgkplnifaoeeaaGreatDoorQmy
import Derived.Test.YtlgkplnifaoeeaaGreatDoorY4
import Derived.Test.YtlgkplnifaoeeaaGreatDoorY6
import Derived.Test.YtlgkplnifaoeeaaGreatDoorY5
set_option linter.unusedSimpArgs false
set_option linter.unusedVariables false
namespace Go.Proofs.YtlgkplnifaoeeaaGreatDoor
open Go.RowKit Go.VS
section
variable {C : Ctx} {E : Know} {γ : Gam} {s : AS} {a : Act} {w : World} {ops : Array Oper} {N : Nat}
theorem runK_then (hE : KnowOK C.P E) {Q : Exit → Act → World → Prop} {K : AS → Prop} {N : Nat} (rest : List Oper) (hd : ∀ (j : Nat) (o : Oper), ops[j]? = some o → dstOK N o.dst = true)
    (hQ : ∀ s' γ' a' w', Rel C γ' s' a' w' → a'.tmps.size = N → K s' → wpList C.P ops Q rest a' w') : ∀ (l : List Oper) (s : AS) (γ : Gam) (a : Act) (w : World), (∀ o ∈ l, dstOK N o.dst = true) → a.tmps.size = N → Rel C γ s a w →
    runK E C.nl ops l s K → wpList C.P ops Q (l ++ rest) a w
  | [], s, γ, a, w, _, hN, h, hk => hQ s γ a w h hN hk
  | o :: l, s, γ, a, w, hl, hN, h, hk => by
    refine wpList_step fun K' hK' => ?_
    subst hN
    exact zB9 hE h hd (hl o (by simp)) hk fun s' γ' a' w' h1 h2 h3 => hK' _ _ (runK_then hE rest hd hQ l s' γ' a' w' (fun o ho => hl o (by simp [ho])) h2 h1 h3)
def lockS (s : AS) (i1 i2 i3 n : Nat) : AS := ((s.put (some i1) (.one (.box 0))).put (some i2) (.one (.box 0))).put (some i3) (.one (.boxf 0 n 0 0))
theorem zJG {nl : Nat} {ops : Array Oper} {i1 i2 i3 n : Nat} {T t1 t2 t3 : TypeId} {p1 p2 p3 : String} {e1 e2 e3 : Array Edge} (hs : s.env 0 = .one (.box 0)) (hf : E.G.fld T 0 = some (n, 0)) :
    runK E nl ops [⟨some i1, .move (.tmp 0), t1, p1, e1, none⟩, ⟨some i2, .nilCheck (.tmp i1), t2, p2, e2, none⟩, ⟨some i3, .fieldAddr T (.tmp i2) 0, t3, p3, e3, none⟩] s (fun s' => s' = lockS s i1 i2 i3 n) := by
  simp only [kP, kN, zLW, pv, zMN, zMd, hs, zFU, zC3, zEX, hf, true_and]
  rfl
theorem zMT {Q : Exit → AS → Prop} (hP : C.P = Tryz.prog) (hE : KnowOK C.P E) {id i1 i2 i3 i4 n : Nat} {T t1 t2 t3 t4 : TypeId} {p1 p2 p3 p4 : String} {e1 e2 e3 e4 : Array Edge} {ats : Array TypeId} {bs : List BV}
    (hd : zDH N [⟨some i1, .move (.tmp 0), t1, p1, e1, none⟩, ⟨some i2, .nilCheck (.tmp i1), t2, p2, e2, none⟩, ⟨some i3, .fieldAddr T (.tmp i2) 0, t3, p3, e3, none⟩, ⟨some i4, .call { callee := .value (.func 75), args := #[.tmp i3], argTypes := ats }, t4, p4, e4, none⟩] = true)
    (hs : s.env 0 = .one (.box 0)) (hb : s.boxes 0 = some (.rcd bs)) (h0 : bs[0]? = some (.raw (.int .i32 0))) (hf : E.G.fld T 0 = some (n, 0))
    (h : Q .normal (((lockS s i1 i2 i3 n).setBox 0 (.rcd (bs.set 0 (.raw (.int .i32 1))))).put (some i4) (.one .any))) :
    tri C N (.region id #[⟨some i1, .move (.tmp 0), t1, p1, e1, none⟩, ⟨some i2, .nilCheck (.tmp i1), t2, p2, e2, none⟩, ⟨some i3, .fieldAddr T (.tmp i2) 0, t3, p3, e3, none⟩, ⟨some i4, .call { callee := .value (.func 75), args := #[.tmp i3], argTypes := ats }, t4, p4, e4, none⟩] false) Q s := by
  refine ⟨fun γ a w hr hN => ?_⟩
  have hd' := fun (j : Nat) (o : Oper) (ho : (List.toArray [_, _, _, _])[j]? = some o) => zBh (ops := List.toArray [_, _, _, _]) (by simpa using hd) j o ho
  refine wp_region_lit (l := [_, _, _, _]) ?_
  refine runK_then hE [_] hd' (K := fun s' => s' = lockS s i1 i2 i3 n) ?_ [_, _, _] s γ a w ?_ hN hr (zJG hs hf)
  · rintro s' γ' a' w' h1 h2 rfl
    refine wpList_step fun K' hK' => ?_
    simp only [Region.wanted, if_true]
    unfold Oper.wp
    have hc : zA4 C.P 75 := by rw [hP]; exact ⟨_, Tryz.func75, by kernel_rfl, rfl⟩
    rw [zDR hc (caps := #[]) rfl]
    simp only [Oper.upon]
    have hv : a'.eval (.tmp i3) = .pointer (some ⟨γ'.bx 0, 0, none⟩) := by
      have := zAn h1 (.tmp i3)
      rw [zMd, show (lockS s i1 i2 i3 n).env i3 = .one (.boxf 0 n 0 0) from zC3 _ _] at this
      exact this
    have e : (#[Operand.tmp i3].map a'.eval ++ #[] : Array Value) = #[.pointer (some ⟨γ'.bx 0, 0, none⟩)] := by simp [hv]
    rw [e]
    have hb' : (lockS s i1 i2 i3 n).boxes 0 = some (.rcd bs) := hb
    obtain ⟨c1, c2⟩ := zQk h1 hb' h0
    have hlen : 0 < bs.length := (List.getElem?_eq_some_iff.1 h0).1
    rw [hP]
    refine (Go.MuLone.lock_free muLib ⟨γ'.bx 0, 0, none⟩ w' c1 c2).mono ?_
    rintro en w2 ⟨rfl, rfl⟩
    refine hK' _ _ (wpList_nil ?_)
    have hd4 : dstOK a'.tmps.size (some i4) = true := by
      rw [h2]
      have := List.all_eq_true.1 hd ⟨some i4, .call { callee := .value (.func 75), args := #[.tmp i3], argTypes := ats }, t4, p4, e4, none⟩ (by simp)
      exact this
    exact ⟨_, γ', (zMW h1 hb' hlen (.int .i32 1) rfl).put hd4 (sv := .one .any) trivial, by rw [zCf]; exact h2, h⟩
  · intro o ho
    refine List.all_eq_true.1 hd o ?_
    simp only [List.mem_cons, List.not_mem_nil, or_false] at ho ⊢
    rcases ho with rfl | rfl | rfl <;> simp
theorem zCl (D : List Deferred) : ∀ (rs : List RV) (ids bids : List Nat) (vs : List Value), zB5 (C.dsd D) γ w rs ids bids vs → zB5 C γ w rs ids bids vs
  | [], _, _, _, h => h
  | .val s x :: rs, ids, bids, vs, h => by
    obtain ⟨v, vs', h1, h2, h3⟩ := h
    exact ⟨v, vs', h1, h2, zCl D rs _ _ _ h3⟩
  | .own rc :: rs, ids, bids, vs, h => by
    obtain ⟨v, vs', i, ids', h1, h2, h3, h4, h5⟩ := h
    exact ⟨v, vs', i, ids', h1, h2, h3, ⟨by rw [← zIO D]; exact h4.1, h4.2⟩, zCl D rs _ _ _ h5⟩
  | .nil :: rs, ids, bids, vs, h => by
    obtain ⟨vs', h1, h3⟩ := h
    exact ⟨vs', h1, zCl D rs _ _ _ h3⟩
  | .raw u :: rs, ids, bids, vs, h => by
    obtain ⟨vs', h1, h3⟩ := h
    exact ⟨vs', h1, zCl D rs _ _ _ h3⟩
  | .ifc :: rs, ids, bids, vs, h => by
    obtain ⟨t, u, vs', h1, h3⟩ := h
    exact ⟨t, u, vs', h1, zCl D rs _ _ _ h3⟩
  | .any :: rs, ids, bids, vs, h => by
    obtain ⟨v, vs', h1, h3⟩ := h
    exact ⟨v, vs', h1, zCl D rs _ _ _ h3⟩
  | .obj o :: rs, ids, bids, vs, h => by
    obtain ⟨vs', i, bids', h1, h2, h3, h4⟩ := h
    exact ⟨vs', i, bids', h1, h2, by rw [← zIk D]; exact h3, zCl D rs _ _ _ h4⟩
theorem zPH {D : List Deferred} {o : Out} {v : Value} (h : OutRep (C.dsd D) γ w o v) : OutRep C γ w o v := by
  obtain ⟨⟨ids, bids, vs, h1, h2, h3, h4⟩, h5, h6, h7⟩ := h
  exact ⟨⟨ids, bids, vs, h1, zCl D _ _ _ _ h2, h3, h4⟩, fun p hp => ⟨⟨by rw [← zIO D]; exact (h5 p hp).1.1, (h5 p hp).1.2⟩, (h5 p hp).2⟩, fun p hp => ⟨by rw [← zIk D]; exact (h6 p hp).1, (h6 p hp).2⟩, h7⟩
def zBL (b : Nat) : Deferred := { target := .fn (.func 76) #[], args := #[.pointer (some ⟨b, 0, none⟩)] }
structure Held (E : Know) (nl : Nat) (rs : List ResultVar) (o : Out) (e : Exit) (s : AS) : Prop where
  e : e = .normal ∨ e = .ret
  h : ∃ bs t, s.boxes 0 = some (.rcd bs) ∧ bs[0]? = some (.raw (.int .i32 1)) ∧ Weak nl (s.setBox 0 (.rcd (bs.set 0 (.raw (.int .i32 0))))) t ∧ retOK E nl rs o t
theorem zK9 (hP : C.P = Tryz.prog) (hE : KnowOK C.P E) {b : Nat} (hb0 : C.lb 0 = b) (hnl : 0 < C.nl) {fn : Func} {o : Out} {e : Exit} (h : Rel (C.dsd [zBL b]) γ s a w) (hh : Held E C.nl fn.results.toList o e s) :
    Leaves C.P fn a.tmps (fun e w' => ∃ v γ', e = .returned v ∧ OutRep C γ' w' o v ∧ Keep C.L C.w0 w') a.defers .returning w := by
  obtain ⟨_, bs, t, h1, h2, h3, h4⟩ := hh
  have hbx : γ.bx 0 = b := (h.lent 0 hnl).2.trans hb0
  have hd : a.defers = [zBL b] := h.defers.1
  obtain ⟨c1, c2⟩ := zQk h h1 h2
  rw [hbx] at c1 c2
  have hw := zMW h h1 (List.getElem?_eq_some_iff.1 h2).1 (.int .i32 0) rfl
  rw [hbx] at hw
  rw [hd]
  rw [hP]
  refine leaves_cons (f := 76) (args := #[.pointer (some ⟨b, 0, none⟩)]) (by simp) (by simp [go_sem]) ?_
  refine (Go.MuLone.unlock_deferred muLib ⟨b, 0, none⟩ .returning w c1 c2).mono ?_
  rintro en u' w2 ⟨rfl, rfl, rfl⟩
  have hw2 := (show Weak (C.dsd [zBL b]).nl _ _ from h3).rel hw
  obtain ⟨v, γ', k1, k2⟩ := zEU (C := C.dsd [zBL b]) hE hw2 (fn := fn) h4
  have k0 : (C.dsd [zBL b]).P = Tryz.prog := hP
  rw [k0] at k1
  exact ⟨v, k1, v, γ', rfl, zPH k2, hw2.keep⟩
theorem zHt (hP : C.P = Tryz.prog) (hE : KnowOK C.P E) {id i1 i2 i3 n : Nat} {T t1 t2 t3 t4 : TypeId} {p1 p2 p3 p4 : String} {e1 e2 e3 e4 : Array Edge} {ats : Array TypeId} {rest : Code} {fn : Func} {o : Out}
    (hd : zDH N [⟨some i1, .move (.tmp 0), t1, p1, e1, none⟩, ⟨some i2, .nilCheck (.tmp i1), t2, p2, e2, none⟩, ⟨some i3, .fieldAddr T (.tmp i2) 0, t3, p3, e3, none⟩, ⟨none, .defer { callee := .value (.func 76), args := #[.tmp i3], argTypes := ats }, t4, p4, e4, none⟩] = true)
    (hs : s.env 0 = .one (.box 0)) (hf : E.G.fld T 0 = some (n, 0)) (hnl : 0 < C.nl) (hds : C.ds = []) (hr : Rel C γ s a w) (hN : a.tmps.size = N)
    (h : tri (C.dsd [zBL (C.lb 0)]) N rest (Held E C.nl fn.results.toList o) (lockS s i1 i2 i3 n)) :
    (Code.seq (.region id #[⟨some i1, .move (.tmp 0), t1, p1, e1, none⟩, ⟨some i2, .nilCheck (.tmp i1), t2, p2, e2, none⟩, ⟨some i3, .fieldAddr T (.tmp i2) 0, t3, p3, e3, none⟩, ⟨none, .defer { callee := .value (.func 76), args := #[.tmp i3], argTypes := ats }, t4, p4, e4, none⟩] false) rest).wp C.P
      (bodyPostD C.P fn (fun e w' => ∃ v γ', e = .returned v ∧ OutRep C γ' w' o v ∧ Keep C.L C.w0 w')) a w := by
  have hd' := fun (j : Nat) (o : Oper) (ho : (List.toArray [_, _, _, _])[j]? = some o) => zBh (ops := List.toArray [_, _, _, _]) (by simpa using hd) j o ho
  refine wp_seq (wp_region_lit (l := [_, _, _, _]) ?_)
  refine runK_then hE [_] hd' (K := fun s' => s' = lockS s i1 i2 i3 n) ?_ [_, _, _] s γ a w ?_ hN hr (zJG hs hf)
  · rintro s' γ' a' w' h1 h2 rfl
    refine wpList_step fun K' hK' => ?_
    simp only [Region.wanted, if_true]
    have hv : a'.eval (.tmp i3) = .pointer (some ⟨γ'.bx 0, 0, none⟩) := by
      have := zAn h1 (.tmp i3)
      rw [zMd, show (lockS s i1 i2 i3 n).env i3 = .one (.boxf 0 n 0 0) from zC3 _ _] at this
      exact this
    have hbx : γ'.bx 0 = C.lb 0 := (h1.lent 0 hnl).2
    have hrun : (execOp a'.eval ⟨none, .defer { callee := .value (.func 76), args := #[.tmp i3], argTypes := ats }, t4, p4, e4, none⟩).run C.P w' = .ok (.defer (zBL (C.lb 0))) w' := by
      have e0 : a'.eval (.func 76) = .func (.func 76) #[] #[] := rfl
      simp only [execOp, resolve, e0, Deferred.ofValue, zBL]
      simp [hv, hbx]
    unfold Oper.wp
    rw [hrun]
    simp only [Oper.upon]
    refine hK' _ _ (wpList_nil ?_)
    have hdf : a'.defers = [] := h1.defers.1.trans hds
    have h3 := zOE h1 [zBL (C.lb 0)]
    rw [hdf]
    refine wp_mono (h.run γ' _ w' h3 h2) ?_
    rintro e a2 w2 ⟨s2, γ2, k1, k2, k3⟩
    have hl := zK9 hP hE rfl hnl k1 k3
    rcases k3.e with rfl | rfl <;> exact hl
  · intro o ho
    refine List.all_eq_true.1 hd o ?_
    simp only [List.mem_cons, List.not_mem_nil, or_false] at ho ⊢
    rcases ho with rfl | rfl | rfl <;> simp
end
end Go.Proofs.YtlgkplnifaoeeaaGreatDoor
namespace Go.Proofs.YtlgkplnifaoeeaaGreatDoor
open Go.RowKit Go.VS
structure triD (C : Ctx) (N : Nat) (c : Code) (Qw : Exit → Act → World → Prop) (s : AS) : Prop where
  run : ∀ γ a w, Rel C γ s a w → a.tmps.size = N → c.wp C.P Qw a w
section
variable {C : Ctx} {N : Nat} {Qw : Exit → Act → World → Prop} {s t : AS}
theorem zFs {x y : Code} (h : ∀ K : AS → Prop, (∀ s, triD C N y Qw s → K s) → tri C N x (thenQ K (fun _ _ => False)) s) : triD C N (.seq x y) Qw s := by
  refine ⟨fun γ a w hr hN => wp_seq (wp_mono ((h (fun s => triD C N y Qw s) fun _ h => h).run γ a w hr hN) ?_)⟩
  rintro e a' w' ⟨s', γ', h1, h2, h3⟩
  cases e with
  | normal => exact h3.run γ' a' w' h1 h2
  | _ => exact h3.elim
theorem zDl {c : Code} (hw : Weak C.nl s t) (h : triD C N c Qw t) : triD C N c Qw s := ⟨fun _ a w hr hN => h.run _ a w (hw.rel hr) hN⟩
end
abbrev hFs : List Go.VS.Fd := [.raw .i32 0, .raw .u32 0, .val (.sl (.sl .int)), .val (.sl (.sl .int)), .val (.sl .int), .val (.sl .int), .val .int, .slk 9, .val .str]
abbrev HX := FdT hFs
def zTr (x : HX) : List (List Int) := x.2.2.1
def hSt (x : HX) : State := (x.2.2.2.1, x.2.2.2.2.1, x.2.2.2.2.2.1, x.2.2.2.2.2.2.1)
def hOrd (x : HX) : List ByteArray := x.2.2.2.2.2.2.2.1
def hBk (x : HX) : ByteArray := x.2.2.2.2.2.2.2.2.1
def mkH (f : List (List Int)) (s : State) (ord : List ByteArray) (bk : ByteArray) : HX := ((), (), f, s.1, s.2.1, s.2.2.1, s.2.2.2, ord, bk, ())
@[push_cast] def zMt : Con := ⟨[.obj hFs], fun (x : HX × Unit) => StateSz (hSt x.1), fun (x : HX × Unit) => { res := [.val stSh (hSt x.1), .val .str (hBk x.1)], objs := [(0, ⟨hFs, x.1⟩)] }⟩
def zTG : Know := know [(74, zDi)] []
theorem zPj : KnowOK Tryz.prog zTG := zAm (all_cons stClone_spec all_nil) all_nil all_nil
set_option maxHeartbeats 4000000 in
theorem zNv : FnSpec Tryz.prog 82 zMt := by
  refine ⟨⟨_, Tryz.func82, by kernel_rfl, rfl⟩, fun C γ x vs hpre hen => ?_⟩
  have hP := hen.P
  have hnl : C.nl = 1 := hen.nl
  have hE : KnowOK C.P (know [(74, zDi)] []) := by rw [hP]; exact zPj
  have hlen := zAQ _ _ hen.args
  have hr := zDQ hen (20 - vs.length)
  have hdsn : C.ds = [] := hen.ds.1
  obtain ⟨⟨⟨⟩, ⟨⟩, (f : List (List Int)), (c : List (List Int)), (a : List Int), (b : List Int), (w : Int), (ord : List ByteArray), (bk : ByteArray), ⟨⟩⟩, ⟨⟩⟩ := x
  have hlen' : vs.length = 1 := hlen.symm ▸ rfl
  rw [← hP]
  refine calls_of_wp_defers (by rw [hP]; exact Tryz.func82) rfl ?_
  rw [List.size_toArray]
  refine triD.run (N := 20) ?_ γ _ _ hr (by simp [hlen'])
  refine zDl (t := AS.of [(0, .one (.box 0))] [] [(0, .rcd [.raw (.int .i32 0), .raw (.int .u32 0), .val (.sl (.sl .int)) f, .val (.sl (.sl .int)) c, .val (.sl .int) a, .val (.sl .int) b, .val .int w, .mk 0 9 .str ord, .val .str bk])]) ?_ ?_
  · refine zAj ?_ ?_ ?_ <;> simp only [push_cast, seval, reduceCtorEq, Int.cast_ofNat_Int]
  clear hr hlen hlen' hen
  refine zFs fun K hK => ?_
  repeat' (first|(refine goK (by assumption) ?_; iterate 4 (try clear hK K))|(refine zAd fun K hK => ?_)|((first|refine zAb hE rfl ?_|refine zAh ?_); simp +contextual only [hnl, ↓kN, ↓kP, ↓kG, ↓qN, ↓qP, ↓qG, push_cast, seval, reduceCtorEq, Int.cast_ofNat_Int])|refine zAc ?_|((first|refine zAg ?_|refine zAf ?_); simp only [thenQ, zAk, if_true, if_false, Nat.reduceEqDiff, reduceCtorEq])|(refine zAe (by rfl) (fun hb => ?_) (fun hb => ?_) <;> (try simp only [b1, b2, b3, b4, reduceCtorEq, b5, b6] at hb) <;> (try omega))|refine zAi (by rfl) ?_ ?_|refine andS ?_|(refine ⟨fun hc => ?_, fun hc => ?_⟩)|(intro hc; try omega))
  refine hK _ ?_
  clear hK K
  refine zDl (t := AS.of [(0, .one (.box 0)), (2, .one (.box 2))] [] [(0, .rcd [.raw (.int .i32 0), .raw (.int .u32 0), .val (.sl (.sl .int)) f, .val (.sl (.sl .int)) c, .val (.sl .int) a, .val (.sl .int) b, .val .int w, .mk 0 9 .str ord, .val .str bk]), (2, .rcd [.nils, .nils, .nils, .val .int 0])]) ?_ ?_
  · refine zAj ?_ ?_ ?_ <;> simp only [push_cast, seval, reduceCtorEq, Int.cast_ofNat_Int]
  refine zFs fun K hK => ?_
  refine zMT hP hE rfl rfl rfl rfl (n := 5) rfl ?_
  refine hK _ ?_
  clear hK K
  refine zDl (t := AS.of [(0, .one (.box 0)), (2, .one (.box 2))] [] [(0, .rcd [.raw (.int .i32 1), .raw (.int .u32 0), .val (.sl (.sl .int)) f, .val (.sl (.sl .int)) c, .val (.sl .int) a, .val (.sl .int) b, .val .int w, .mk 0 9 .str ord, .val .str bk]), (2, .rcd [.nils, .nils, .nils, .val .int 0])]) ?_ ?_
  · unfold lockS
    refine zAj ?_ ?_ ?_ <;> simp only [push_cast, seval, reduceCtorEq, Int.cast_ofNat_Int]
  refine ⟨fun γ0 a0 w0 hr hN => zHt hP hE (n := 5) rfl rfl rfl (by rw [hnl]; decide) hdsn hr hN ?_⟩
  clear hr hN
  rw [hnl]
  have hE1 : KnowOK (C.dsd [zBL (C.lb 0)]).P (know [(74, zDi)] []) := hE
  have hnl1 : (C.dsd [zBL (C.lb 0)]).nl = 1 := hnl
  generalize C.dsd [zBL (C.lb 0)] = C1 at hE1 hnl1 ⊢
  clear hE hnl
  have hE := hE1
  have hnl := hnl1
  refine zAK (t := AS.of [(0, .one (.box 0)), (2, .one (.box 2))] [] [(0, .rcd [.raw (.int .i32 1), .raw (.int .u32 0), .val (.sl (.sl .int)) f, .val (.sl (.sl .int)) c, .val (.sl .int) a, .val (.sl .int) b, .val .int w, .mk 0 9 .str ord, .val .str bk]), (2, .rcd [.nils, .nils, .nils, .val .int 0])]) ?_ ?_
  · unfold lockS
    refine zAj ?_ ?_ ?_ <;> simp only [push_cast, seval, reduceCtorEq, Int.cast_ofNat_Int]
  have hsz : StateSz (c, a, b, w) := hpre
  replace hnl := And.intro hnl (eq_true hsz)
  repeat' (first|(refine goK (by assumption) ?_; iterate 4 (try clear hK K))|(refine zAd fun K hK => ?_)|((first|refine zAb hE rfl ?_|refine zAh ?_); simp +contextual only [hnl, ↓kN, ↓kP, ↓kG, ↓qN, ↓qP, ↓qG, push_cast, seval, reduceCtorEq, Int.cast_ofNat_Int])|refine zAc ?_|((first|refine zAg ?_|refine zAf ?_); simp only [thenQ, zAk, if_true, if_false, Nat.reduceEqDiff, reduceCtorEq])|(refine zAe (by rfl) (fun hb => ?_) (fun hb => ?_) <;> (try simp only [b1, b2, b3, b4, reduceCtorEq, b5, b6] at hb) <;> (try omega))|refine zAi (by rfl) ?_ ?_|refine andS ?_|(refine ⟨fun hc => ?_, fun hc => ?_⟩)|(intro hc; try omega))
  refine zEW hE (fun D s => s.env 0 = .one (.box 0) ∧
    s.env 2 = .one (.box 2) ∧
    s.boxes 0 = some (.rcd [.raw (.int .i32 1), .raw (.int .u32 0), .val (.sl (.sl .int)) f, .val (.sl (.sl .int)) c, .val (.sl .int) a, .val (.sl .int) b, .val .int w, .mk 0 9 .str ord, .val .str bk]) ∧
    (D 0 = true → s.env 11 = .one (.box 0)) ∧
    (D 1 = true → s.env 12 = .one (.box 0)) ∧
    (D 2 = true → s.env 13 = .one (.boxf 0 5 2 3)) ∧
    (D 3 = true → s.env 14 = .one (.val stSh (c, a, b, w))) ∧
    (D 4 = true → s.env 15 = .one (.val stSh (c, a, b, w))) ∧
    (D 5 = true → s.env 16 = .one (.box 0)) ∧
    (D 6 = true → s.env 17 = .one (.box 0)) ∧
    (D 7 = true → s.env 18 = .one (.boxf 0 5 4 8)) ∧
    (D 8 = true → s.env 19 = .one (.val .str bk)) ∧
    (D 9 = false → s.boxes 2 = some (.rcd [.nils, .nils, .nils, .val .int 0])) ∧
    (D 9 = true → s.boxes 2 = some (.one (.val stSh (c, a, b, w)))) ∧
    (D 10 = true → s.env 3 = .one (.val .str bk))) rfl (by kernel_rfl) ?_ ?_ ?_
  · dsimp only
    simp only [push_cast, seval, reduceCtorEq, Int.cast_ofNat_Int]
  · refine ⟨fun D s h0 hp hI => ?_, fun D s h0 hp hI => ?_, fun D s h0 hp hI => ?_, fun D s h0 hp hI => ?_, fun D s h0 hp hI => ?_, fun D s h0 hp hI => ?_, fun D s h0 hp hI => ?_, fun D s h0 hp hI => ?_, fun D s h0 hp hI => ?_, fun D s h0 hp hI => ?_, fun D s h0 hp hI => ?_, trivial⟩
    all_goals obtain ⟨e0, e2, b0, f0, f1, f2, f3, f4, f5, f6, f7, f8, g2, g9, f10⟩ := hI
    all_goals replace hp := List.all_eq_true.1 hp
    · simp +contextual only [hnl, h0, e0, e2, b0, f0, f1, f2, f3, f4, f5, f6, f7, f8, g2, g9, f10, setD, ↓kN, ↓kP, push_cast, seval, reduceCtorEq, Int.cast_ofNat_Int]
    · have d0 := hp 0 (by decide)
      simp +contextual only [d0, hnl, h0, e0, e2, b0, f0, f1, f2, f3, f4, f5, f6, f7, f8, g2, g9, f10, setD, ↓kN, ↓kP, push_cast, seval, reduceCtorEq, Int.cast_ofNat_Int]
    · have d1 := hp 1 (by decide)
      simp +contextual only [d1, hnl, h0, e0, e2, b0, f0, f1, f2, f3, f4, f5, f6, f7, f8, g2, g9, f10, setD, ↓kN, ↓kP, push_cast, seval, reduceCtorEq, Int.cast_ofNat_Int]
    · have d2 := hp 2 (by decide)
      simp +contextual only [d2, hnl, h0, e0, e2, b0, f0, f1, f2, f3, f4, f5, f6, f7, f8, g2, g9, f10, setD, ↓kN, ↓kP, push_cast, seval, reduceCtorEq, Int.cast_ofNat_Int]
    · have d3 := hp 3 (by decide)
      simp +contextual only [d3, hnl, h0, e0, e2, b0, f0, f1, f2, f3, f4, f5, f6, f7, f8, g2, g9, f10, setD, ↓kN, ↓kP, push_cast, seval, reduceCtorEq, Int.cast_ofNat_Int]
    · simp +contextual only [hnl, h0, e0, e2, b0, f0, f1, f2, f3, f4, f5, f6, f7, f8, g2, g9, f10, setD, ↓kN, ↓kP, push_cast, seval, reduceCtorEq, Int.cast_ofNat_Int]
    · have d5 := hp 5 (by decide)
      simp +contextual only [d5, hnl, h0, e0, e2, b0, f0, f1, f2, f3, f4, f5, f6, f7, f8, g2, g9, f10, setD, ↓kN, ↓kP, push_cast, seval, reduceCtorEq, Int.cast_ofNat_Int]
    · have d6 := hp 6 (by decide)
      simp +contextual only [d6, hnl, h0, e0, e2, b0, f0, f1, f2, f3, f4, f5, f6, f7, f8, g2, g9, f10, setD, ↓kN, ↓kP, push_cast, seval, reduceCtorEq, Int.cast_ofNat_Int]
    · have d7 := hp 7 (by decide)
      simp +contextual only [d7, hnl, h0, e0, e2, b0, f0, f1, f2, f3, f4, f5, f6, f7, f8, g2, g9, f10, setD, ↓kN, ↓kP, push_cast, seval, reduceCtorEq, Int.cast_ofNat_Int]
    · have d4 := hp 4 (by decide)
      simp +contextual only [d4, hnl, h0, e0, e2, b0, f0, f1, f2, f3, f4, f5, f6, f7, f8, g2, g9, f10, setD, ↓kN, ↓kP, push_cast, seval, reduceCtorEq, Int.cast_ofNat_Int]
    · have d8 := hp 8 (by decide)
      simp +contextual only [d8, hnl, h0, e0, e2, b0, f0, f1, f2, f3, f4, f5, f6, f7, f8, g2, g9, f10, setD, ↓kN, ↓kP, push_cast, seval, reduceCtorEq, Int.cast_ofNat_Int]
  intro D s hD hI
  obtain ⟨e0, e2, b0, f0, f1, f2, f3, f4, f5, f6, f7, f8, g2, g9, f10⟩ := hI
  have v2 := g9 (hD 9 (by decide))
  have v3 := f10 (hD 10 (by decide))
  refine goK hK ?_
  refine zAK (t := AS.of [(0, .one (.box 0)), (2, .one (.box 2)), (3, .one (.val .str bk))] [] [(0, .rcd [.raw (.int .i32 1), .raw (.int .u32 0), .val (.sl (.sl .int)) f, .val (.sl (.sl .int)) c, .val (.sl .int) a, .val (.sl .int) b, .val .int w, .mk 0 9 .str ord, .val .str bk]), (2, .one (.val stSh (c, a, b, w)))]) ?_ ?_
  · refine zAj ?_ ?_ ?_ <;> simp only [v2, v3, e0, e2, b0, push_cast, seval, reduceCtorEq, Int.cast_ofNat_Int]
  clear hK hD
  refine zAh ?_
  refine ⟨.inr rfl, _, AS.of [(0, .one (.box 0)), (2, .one (.box 2)), (3, .one (.val .str bk))] [] [(0, .rcd [.raw (.int .i32 0), .raw (.int .u32 0), .val (.sl (.sl .int)) f, .val (.sl (.sl .int)) c, .val (.sl .int) a, .val (.sl .int) b, .val .int w, .mk 0 9 .str ord, .val .str bk]), (2, .one (.val stSh (c, a, b, w)))], rfl, rfl, ?_, ?_⟩
  · refine zAj ?_ ?_ ?_ <;> simp only [push_cast, seval, reduceCtorEq, Int.cast_ofNat_Int]
  · simp only [hSt, hBk, hnl, Tryz.results82, push_cast, seval, reduceCtorEq, Int.cast_ofNat_Int]
end Go.Proofs.YtlgkplnifaoeeaaGreatDoor
namespace Go.Proofs.YtlgkplnifaoeeaaGreatDoor
open Go.RowKit Go.VS
section
variable {C : Ctx} {γ : Gam} {s : AS} {a : Act} {w w' : World}
theorem zJ5 {fn : Func} {x : Tmp} {t : TypeId} (h : fn.results = #[.cell x t]) {P : Program} {tmps : Array Value} {v : Value} (hr : (do loadVar t (← asAddr (tmps.getD x undef)) : Sem Value).run P w = .ok v w) : (results fn tmps).run P w = .ok v w := by
  let rd : ResultVar → Sem Value := fun
    | .tmp t => pure (tmps.getD t undef)
    | .cell x t => do loadVar t (← asAddr (tmps.getD x undef))
  have hmap := zF9 fn.results (f := rd) (g := fun _ => v) (P := P) (w := w) (fun r hm => by
    rw [h] at hm
    simp only [List.mem_singleton] at hm
    subst hm
    exact hr)
  have e0 : results fn tmps = (do let vs ← fn.results.mapM rd; pure (if h : vs.size = 1 then vs[0] else .tuple vs) : Sem Value) := rfl
  rw [e0, Sem.run_bind, hmap, h]
  simp
theorem _root_.Go.VS.Rel.know (h : Rel C γ s a w) (i : Nat) {sv : SV} (hv : svRep C γ w sv (a.tmps.getD i undef)) : Rel C γ (s.put (some i) sv) a w := by
  refine ⟨h.defers, h.keep, h.ownlt, h.lent, fun j => ?_, h.roots, h.boxes⟩
  simp only [AS.put, upd]
  split
  · rename_i e; subst e; exact hv
  · exact h.env j
theorem zO1 (vs : List Value) (n i : Nat) : (vs.toArray ++ Array.replicate n undef).getD i undef = vs.getD i undef := by
  rw [Array.getD_eq_getD_getElem?, Array.getElem?_append, List.getD_eq_getElem?_getD]
  split
  · simp
  · rename_i h
    simp at h
    rw [List.getElem?_eq_none h]
    simp only [Array.getElem?_replicate, List.size_toArray, Option.getD_none]
    split <;> rfl
theorem zPV (h : Rel C γ s a w) (d : Nat) (hnd : C.nl ≤ d) {nb : Nat} (hnb : w.heap.size ≤ nb) (hk : Keep (fun _ => False) w w') {cs : Array Value} {t : TypeId} (hcell : w'.heap[nb]? = some (.cells cs t (0, 0))) {sv : SV}
    (hsv : zAS C (zAC γ d nb) w' sv cs.toList) (h1 : ∀ u ∈ cs.toList, u.oneCell' = true) : Rel C (zAC γ d nb) ((s.map (killB d)).setBox d sv) a w' := by
  have hlt : nb < w'.heap.size := (Array.getElem?_eq_some_iff.1 hcell).1
  have hsame : ∀ b, b < w.heap.size → (zAC γ d nb).own b = γ.own b := fun b hb => by
    simp only [zAC]
    rw [if_neg (by omega)]
  have hblk : ∀ b, b < w.heap.size → w'.heap[b]? = w.heap[b]? := fun b hb => hk.block b hb (fun h => h)
  have hkeep : ∀ b l, γ.own b = some l → (zAC γ d nb).own b = some l ∧ w'.heap[b]? = w.heap[b]? := fun b l hb => ⟨by rw [hsame b (h.ownlt b l hb)]; exact hb, hblk b (h.ownlt b l hb)⟩
  have hsub : Sub C γ w (zAC γ d nb) w' := ⟨hk.size, fun b hb hz => ⟨⟨hz.1, by rw [hsame b hb]; exact hz.2⟩, hblk b hb⟩, fun b d hb ho => ⟨by rw [hsame b hb]; exact ho, hblk b hb⟩⟩
  have hK : Forgets (killB d) γ (zAC γ d nb) := by
    intro b
    by_cases h1 : killB d b = .any
    · exact .inl h1
    · exact .inr ⟨(zIA d b).resolve_left h1, zER h1 (fun _ => rfl) (fun _ _ => rfl) (fun y hy => by simp only [zAC, upd]; rw [if_neg hy])⟩
  have m : Go.VS.Move C γ w ⟨γ.hs, γ.rs, γ.bx, (zAC γ d nb).own⟩ w' (fun _ => False) :=
    ⟨⟨hk.size, hsub.zn, hsub.made⟩, h.keep.step hk (fun _ hf => hf.elim), fun k l hkl => by
      simp only [zAC] at hkl
      split at hkl
      · rename_i e; omega
      · exact Nat.lt_of_lt_of_le (h.ownlt k l hkl) hk.size, fun r hr => (h.lent r hr).1, fun _ _ => rfl, fun _ _ _ => rfl, fun _ => rfl, fun b l hb _ => hkeep b l hb⟩
  refine ⟨h.defers, m.keep, m.ownlt, fun r hr => ⟨(h.lent r hr).1, by simp only [zAC, upd]; rw [if_neg (by omega)]; exact (h.lent r hr).2⟩, fun i => zFp hsub hK (h.env i), fun p rc hp => ?_, fun b sv' hb => ?_⟩
  · have h2 := m.root (fun hf => hf) (h.roots p rc hp)
    cases rc with
    | rags e sh xss =>
      obtain ⟨vs, k1, k2, k3⟩ := h2
      exact ⟨vs, k1, k2, zAG (γ := ⟨γ.hs, γ.rs, γ.bx, (zAC γ d nb).own⟩) (γ' := zAC γ d nb) ⟨Nat.le_refl _, fun b _ hz => ⟨hz, rfl⟩, fun b d _ ho => ⟨ho, rfl⟩⟩ _ _ (fun b hb => by obtain ⟨y, _, rfl⟩ := List.mem_map.1 hb; trivial) k3⟩
    | _ => exact h2
  · simp only [AS.setBox, upd] at hb
    split at hb
    · rename_i e
      subst e
      simp only [Option.some.injEq] at hb
      subst hb
      have hbx : (zAC γ b nb).bx b = nb := by simp [zAC, upd]
      refine ⟨cs, t, ?_, hsv, h1, ?_, ?_⟩
      · rw [hbx]; exact hcell
      · rw [hbx]; simp [zAC]
      · rw [hbx]; exact .inl (Nat.le_trans h.keep.size hnb)
    · rename_i e
      obtain ⟨sv0, h2, rfl⟩ := zE0 hb
      obtain ⟨cs', t', d1, d2, d3, d4, d5⟩ := h.boxes b sv0 h2
      have hbx : (zAC γ d nb).bx b = γ.bx b := by simp only [zAC, upd]; rw [if_neg e]
      refine ⟨cs', t', ?_, zCh hsub hK d2, d3, ?_, ?_⟩ <;> rw [hbx]
      · rw [(hkeep _ _ d4).2]; exact d1
      · exact (hkeep _ _ d4).1
      · exact d5
end
noncomputable def ctx0 (w : World) (Z : Nat → Prop) : Ctx := ⟨Tryz.prog, fun _ => False, w, Z, 0, fun _ => undef, fun _ => 0, []⟩
structure Cloned (w w1 : World) (Z : Nat → Prop) (st : State) (v : Value) : Prop where
  keep : Keep (fun _ => False) w w1
  h : ∃ γ, v = .agg #[γ.hd 27, γ.hd 8, γ.hd 11, .int .i64 st.2.2.2] ∧ rcRep (ctx0 w Z) γ w1 27 (.deep 25 3 .int st.1) ∧ rcRep (ctx0 w Z) γ w1 8 (.flat 3 .int st.2.1) ∧ rcRep (ctx0 w Z) γ w1 11 (.flat 3 .int st.2.2.1) ∧ ∀ g l, γ.own g = some l → g < w1.heap.size
theorem zOw {w : World} (hg : Gd Tryz.prog w) (Z : Nat → Prop) {st : State} (hs : StateSz st) {v0 : Value} (hv : vrep w Z stSh st v0) :
    Calls Tryz.prog 74 #[v0] w (fun e w1 => ∃ v, e = .returned v ∧ Cloned w w1 Z st v) := by
  have hen : Entry (ctx0 w Z) gam0 Tryz.prog [.dat stSh] (st, ()) [v0] := ⟨rfl, rfl, ⟨rfl, hg, fun k hk => hk.elim⟩, fun r hr => absurd hr (Nat.not_lt_zero r), fun k l hk => by simp [gam0] at hk, ⟨v0, [], rfl, zAt (fun b hb => ⟨.inl hb, rfl⟩) hv, rfl⟩, fun p hp => (by cases hp), fun p hp => (by cases hp)⟩
  have hr := zDQ hen 30
  have hE : KnowOK (ctx0 w Z).P (know [(119, zE4)] []) := zJg
  obtain ⟨code, hcode⟩ : ∃ code, Tryz.f74.body = some code := ⟨_, rfl⟩
  have h0 : Rel (ctx0 w Z) gam0 (AS.of [(0, .one (.val stSh st))] [] []) { tmps := [v0].toArray ++ Array.replicate (Tryz.f74.ntmps - [v0].length) undef, defers := [] } w := hr
  refine zP4 (C := ctx0 w Z) (fn := Tryz.f74) Tryz.func74 hcode rfl (Nat.le_of_ble_eq_true rfl) h0 (zJh hE rfl st hs hcode) (fun e s h => h.e) ?_
  intro e s' γ' a' w1 hrel hq
  have hrel2 := (show Weak (ctx0 w Z).nl s' (zCc st) from hq.h).rel hrel
  obtain ⟨v, h1, h2⟩ := zJ4 hE hrel2 (.cell 2 103) (by unfold zCc; simp only [push_cast, seval, reduceCtorEq, Int.cast_ofNat_Int])
  have hres := zJ5 (fn := Tryz.f74) (x := 2) (t := 103) rfl h1
  have h3 : svRep (ctx0 w Z) (zAA γ' s' (zCc st)) w1 (.rcd [.ref 27, .ref 8, .ref 11, .val .int st.2.2.2]) v := by
    have e : (resSV (know [(119, zE4)] []) (zCc st) (.cell 2 103)).2 = .rcd [.ref 27, .ref 8, .ref 11, .val .int st.2.2.2] := by unfold zCc; simp only [push_cast, seval, reduceCtorEq, Int.cast_ofNat_Int]
    rw [← e]; exact h2
  refine ⟨v, hres, v, rfl, hrel2.keep, zAA γ' s' (zCc st), ?_, hrel2.roots 27 _ rfl, hrel2.roots 8 _ rfl, hrel2.roots 11 _ rfl, hrel2.ownlt⟩
  obtain ⟨vs, rfl, ⟨v1, _, rfl, k1, v2, _, rfl, k2, v3, _, rfl, k3, v4, _, rfl, k4, rfl⟩, _⟩ := h3
  obtain rfl : v4 = .int .i64 st.2.2.2 := zAD k4
  simp only [bvRep] at k1 k2 k3
  rw [k1, k2, k3]
def doLoc : Go.VS.Loc → Option Go.VS.Loc
  | .hd 27 => some (.hd 1)
  | .hd 8 => some (.hd 2)
  | .hd 11 => some (.hd 3)
  | .row 27 i => some (.row 1 i)
  | _ => none
noncomputable def doGam (γ : Gam) (n nb : Nat) : Gam := ⟨fun k => if k = 1 then γ.hs 27 else if k = 2 then γ.hs 8 else γ.hs 11, fun _ i => γ.rs 27 i, fun _ => nb, fun g => if g = nb then some (.bx 0) else if n ≤ g then (γ.own g).bind doLoc else none⟩
noncomputable def doCtx (γ : Gam) (n nb : Nat) (w2 : World) (Z : Nat → Prop) : Ctx := ⟨Tryz.prog, fun g => n ≤ g, w2, Z, 4, fun k => (doGam γ n nb).hd k, fun _ => nb, []⟩
structure Done (w2 w3 : World) (n nb : Nat) (Z : Nat → Prop) (st : State) : Prop where
  keep : Keep (fun g => n ≤ g) w2 w3
  h : ∃ cs t, w3.heap[nb]? = some (.cells cs t (0, 0)) ∧ (∀ u ∈ cs.toList, u.oneCell' = true) ∧ ∃ v1 v2 v3, cs.toList = [v1, v2, v3, .int .i64 st.2.2.2] ∧ vrep w3 (fun g => (Z g ∨ n ≤ g) ∧ g ≠ nb) (.sl (.sl .int)) st.1 v1 ∧ vrep w3 (fun g => (Z g ∨ n ≤ g) ∧ g ≠ nb) (.sl .int) st.2.1 v2 ∧ vrep w3 (fun g => (Z g ∨ n ≤ g) ∧ g ≠ nb) (.sl .int) st.2.2.1 v3
theorem zTe {w w1 w2 : World} {Z : Nat → Prop} {st : State} {v : Value} (hc : Cloned w w1 Z st v) (hg : Gd Tryz.prog w2) (hgo : ∀ n ∈ zCN, ∀ g, Tryz.prog.globalNamed n = some g → g < w.heap.size) {nb : Nat} {t : TypeId} (hnb : w1.heap.size ≤ nb) (hZ : ∀ g, Z g → g < w.heap.size) (hk : Keep (fun _ => False) w1 w2)
    (hcell : ∃ cs, v = .agg cs ∧ w2.heap[nb]? = some (.cells cs t (0, 0))) (k : Nat) (l : List Int) (hpre : DoPre k l st) {vl : Value} (hl : vrep w2 Z (.sl .int) l vl) :
    Calls Tryz.prog 79 #[.pointer (some ⟨nb, 0, none⟩), .int .i64 k, vl] w2 (fun e w3 => e = .returned (errV 161 (doV k l st).1) ∧ Done w2 w3 w.heap.size nb Z (doV k l st).2) := by
  obtain ⟨hkeep, γ, hv, h27, h8, h11, holt⟩ := hc
  obtain ⟨cs, hcs, hcell⟩ := hcell
  rw [hv] at hcs
  simp only [Value.agg.injEq] at hcs
  subst hcs
  have hsz : w.heap.size ≤ w1.heap.size := hkeep.size
  have hnb2 : nb < w2.heap.size := (Array.getElem?_eq_some_iff.1 hcell).1
  have hd1 : (doGam γ w.heap.size nb).hd 1 = γ.hd 27 := rfl
  have hd2 : (doGam γ w.heap.size nb).hd 2 = γ.hd 8 := rfl
  have hd3 : (doGam γ w.heap.size nb).hd 3 = γ.hd 11 := rfl
  have hown : ∀ (u : Value) (p q : Go.VS.Loc), doLoc p = some q → (∀ g, u.ownBlock = some g → g < w1.heap.size) → ownB (ctx0 w Z) γ u p → ownB (doCtx γ w.heap.size nb w2 Z) (doGam γ w.heap.size nb) u q := fun u p q hpq hlt ho g hu => by
    obtain ⟨e1, e2⟩ := ho g hu
    have e3 : w.heap.size ≤ g := by
      rcases e2 with e2 | e2
      · exact e2
      · exact e2.elim
    have e4 := hlt g hu
    refine ⟨?_, .inr e3⟩
    simp only [doGam]
    rw [if_neg (by omega), if_pos e3, e1]
    exact hpq
  have hrow : ∀ {e sz n : Nat} {u : Value} {xs : List Value}, w1.ownsRow 0 e sz u n xs → w2.ownsRow 0 e sz u n xs ∧ ∀ g, u.ownBlock = some g → g < w1.heap.size := fun {e sz n u xs} h => ⟨zGs h fun g hu => hk.block g (zJN h hu) (fun h => h), fun g hu => zJN h hu⟩
  have r1 : rcRep (doCtx γ w.heap.size nb w2 Z) (doGam γ w.heap.size nb) w2 1 (.deep 25 3 .int st.1) := by
    obtain ⟨q1, q2, q3, q4⟩ := h27
    refine ⟨q1, by rw [hd1]; exact (hrow q2).1, by rw [hd1]; exact hown _ _ _ rfl (hrow q2).2 q3, fun i xs hi => ?_⟩
    obtain ⟨k1, k2⟩ := q4 i xs hi
    exact ⟨(hrow k1).1, hown _ _ _ rfl (hrow k1).2 k2⟩
  have r2 : rcRep (doCtx γ w.heap.size nb w2 Z) (doGam γ w.heap.size nb) w2 2 (.flat 3 .int st.2.1) := by
    obtain ⟨q1, q2, q3⟩ := h8
    exact ⟨q1, by rw [hd2]; exact (hrow q2).1, by rw [hd2]; exact hown _ _ _ rfl (hrow q2).2 q3⟩
  have r3 : rcRep (doCtx γ w.heap.size nb w2 Z) (doGam γ w.heap.size nb) w2 3 (.flat 3 .int st.2.2.1) := by
    obtain ⟨q1, q2, q3⟩ := h11
    exact ⟨q1, by rw [hd3]; exact (hrow q2).1, by rw [hd3]; exact hown _ _ _ rfl (hrow q2).2 q3⟩
  have hle3 : 3 ≤ Tryz.f79.ntmps := Nat.le_of_ble_eq_true rfl
  have hrel : Rel (doCtx γ w.heap.size nb w2 Z) (doGam γ w.heap.size nb) (doIn k l st) { tmps := [Value.pointer (some ⟨nb, 0, none⟩), .int .i64 (k : Int), vl].toArray ++ Array.replicate (Tryz.f79.ntmps - [Value.pointer (some ⟨nb, 0, none⟩), .int .i64 (k : Int), vl].length) undef, defers := [] } w2 := by
    refine ⟨⟨rfl, hg, fun g hL n hn he => ?_⟩, Keep.refl _ _, fun g lo hgo' => ?_, fun r _ => ⟨rfl, rfl⟩, fun i => ?_, fun r rc hr => ?_, fun b sv hb => ?_⟩
    · have := hgo n hn g he
      have hL' : w.heap.size ≤ g := hL
      omega
    · simp only [doGam] at hgo'
      split at hgo'
      · rename_i e; rw [e]; exact hnb2
      · split at hgo'
        · cases ho : γ.own g with
          | none => rw [ho] at hgo'; simp at hgo'
          | some lo' => exact Nat.lt_of_lt_of_le (holt g lo' ho) hk.size
        · cases hgo'
    · show svRep _ _ _ _ ((List.toArray _ ++ Array.replicate _ undef).getD i undef)
      rw [zO1]
      match i with
      | 0 => exact rfl
      | 1 => exact ⟨_, rfl, rfl⟩
      | 2 =>
        refine zAt (fun b hb => ⟨.inl hb, ?_⟩) hl
        have := hZ b hb
        simp only [doGam]
        rw [if_neg (by omega), if_neg (by omega)]
      | i + 3 => trivial
    · simp only [doIn, AS.of, List.map_cons, List.map_nil] at hr
      by_cases e1 : r = 1
      · subst e1
        obtain rfl : RC.deep 25 3 .int st.1 = rc := by simpa [lk] using hr
        exact r1
      by_cases e2 : r = 2
      · subst e2
        obtain rfl : RC.flat 3 .int st.2.1 = rc := by simpa [lk] using hr
        exact r2
      by_cases e3 : r = 3
      · subst e3
        obtain rfl : RC.flat 3 .int st.2.2.1 = rc := by simpa [lk] using hr
        exact r3
      · simp [lk, e1, e2, e3] at hr
    · simp only [doIn, AS.of, List.map_cons, List.map_nil] at hb
      by_cases e1 : b = 0
      · subst e1
        obtain rfl : SV.rcd [.ref 1, .ref 2, .ref 3, .val .int st.2.2.2] = sv := by simpa [lk] using hb
        refine ⟨_, t, hcell, ⟨_, _, rfl, hd1.symm, _, _, rfl, hd2.symm, _, _, rfl, hd3.symm, _, _, rfl, ⟨_, rfl, rfl⟩, rfl⟩, ?_, ?_, .inr (show w.heap.size ≤ nb by omega)⟩
        · intro u hu
          simp only [List.mem_cons, List.not_mem_nil, or_false] at hu
          rcases hu with rfl | rfl | rfl | rfl <;> rfl
        · show (doGam γ w.heap.size nb).own nb = _
          simp only [doGam, if_true]
      · simp [lk, e1] at hb
  obtain ⟨code, hcode⟩ : ∃ code, Tryz.f79.body = some code := ⟨_, rfl⟩
  refine zP4 (vs := [Value.pointer (some ⟨nb, 0, none⟩), .int .i64 (k : Int), vl]) (C := doCtx γ w.heap.size nb w2 Z) (fn := Tryz.f79) Tryz.func79 hcode rfl hle3 hrel (zTf rfl (show KnowOK _ (know _ []) from zOG) rfl k l st hpre hcode) (fun e s h => h.e) ?_
  intro e s' γ' a' w3 hr3 hq
  have hrel2 := (show Weak (doCtx γ w.heap.size nb w2 Z).nl s' (doOut k l st) from hq.h).rel hr3
  have h6 := hrel2.env 6
  have h6' : a'.tmps.getD 6 undef = errV 161 (doV k l st).1 := zLu h6
  refine ⟨a'.tmps.getD 6 undef, results_tmp rfl _ _ _, by rw [h6'], hrel2.keep, ?_⟩
  obtain ⟨cs, tt, d1, d2, d3, d4, _⟩ := hrel2.boxes 0 _ rfl
  have hbx : (zAA γ' s' (doOut k l st)).bx 0 = nb := (hrel2.lent 0 (show 0 < 4 by decide)).2
  rw [hbx] at d1 d4
  obtain ⟨v1, _, e1, k1, v2, _, rfl, k2, v3, _, rfl, k3, v4, _, rfl, k4, rfl⟩ := d2
  obtain rfl : v4 = .int .i64 (doV k l st).2.2.2.2 := zAD k4
  have hzone : ∀ b, (doCtx γ w.heap.size nb w2 Z).zn (zAA γ' s' (doOut k l st)) b → (Z b ∨ w.heap.size ≤ b) ∧ b ≠ nb := fun b hb => by
    obtain ⟨h1, h2⟩ := hb
    refine ⟨?_, fun e => ?_⟩
    · rcases h1 with h1 | h1 | h1
      · exact .inl h1
      · have h1' : w2.heap.size ≤ b := h1
        have := hk.size
        exact .inr (by omega)
      · exact .inr h1
    · rw [e, d4] at h2; cases h2
  exact ⟨cs, tt, d1, d3, v1, v2, v3, e1, zAt hzone k1, zAt hzone k2, zAt hzone k3⟩
end Go.Proofs.YtlgkplnifaoeeaaGreatDoor
namespace Go.Proofs.YtlgkplnifaoeeaaGreatDoor
open Go.RowKit Go.VS
theorem zNy {w : World} {Z : Nat → Prop} (s : Sh) (x : s.T) (cs : List Value) (h : pers w Z s x cs) : pers w (fun b => Z b ∧ b < w.heap.size) s x cs :=
  zAs (Nat.le_refl _) (fun b hb hz => ⟨⟨hz, hb⟩, rfl⟩) s x cs h
theorem zIf {w : World} {Z : Nat → Prop} {s : Sh} {x : s.T} {v : Value} (h : vrep w Z s x v) : vrep w (fun b => Z b ∧ b < w.heap.size) s x v :=
  let ⟨cs, h1, h2⟩ := h
  ⟨cs, zNy s x cs h1, h2⟩
theorem zHT {a : Act} {d : Nat} {v : Value} (hd : d < a.tmps.size) : (a.put (some d) v).tmps.getD d undef = v := by rw [zIK hd, if_pos rfl]
theorem zCR {a : Act} {d i : Nat} {v u : Value} (hd : d < a.tmps.size) (hi : i ≠ d) (h : a.tmps.getD i undef = u) : (a.put (some d) v).tmps.getD i undef = u := by rw [zIK hd, if_neg hi]; exact h
theorem zEA {P : Program} {ops : Array Oper} {rest : List Oper} {o : Oper} {a : Act} {w w' : World} {Q : Exit → Act → World → Prop} {v : Value} (hg : o.guard = none) (hrun : (execOp a.eval o).run P w = .ok (.value v) w') (h : wpList P ops Q rest (a.put o.dst v) w') : wpList P ops Q (o :: rest) a w := by
  refine wpList_plain hg fun K' hK' => ?_
  unfold Oper.wp
  rw [hrun]
  exact hK' _ _ h
theorem zN7 {P : Program} {ops : Array Oper} {rest : List Oper} {o : Oper} {a : Act} {w w' : World} {Q : Exit → Act → World → Prop} (hg : o.guard = none) (hrun : (execOp a.eval o).run P w = .ok .skip w') (h : wpList P ops Q rest (a.put o.dst undef) w') : wpList P ops Q (o :: rest) a w := by
  refine wpList_plain hg fun K' hK' => ?_
  unfold Oper.wp
  rw [hrun]
  exact hK' _ _ h
set_option maxHeartbeats 4000000 in
theorem zSL {C : Ctx} {E : Know} {s : AS} {Q : Exit → AS → Prop} (hP : C.P = Tryz.prog) (hE : KnowOK C.P E) (hG : E.G = tab.lang) {id1 id2 : Nat} {at1 at2 : Array TypeId} {t1 t2 t3 t4 t5 t6 t7 t8 t9 t10 t11 : TypeId} {p1 p2 p3 p4 p5 p6 p7 p8 p9 p10 p11 : String} {e1 e2 e3 e4 e5 e6 e7 e8 e9 e10 e11 : Array Edge} {rest rest2 : Code}
    {k : Nat} {l : List Int} {t : ByteArray} {f c : List (List Int)} {ma mb : List Int} {wst : Int} {ord : List ByteArray} {bk : ByteArray} (hnl : C.nl ≤ 8) (h0 : s.env 0 = .one (.box 0)) (hs1 : s.env 1 = .one (.val .str t)) (h5 : s.env 5 = .one (.val .int (k : Int))) (h6 : s.env 6 = .one (.val (.sl .int) l))
    (hb : s.boxes 0 = some (.rcd [.raw (.int .i32 1), .raw (.int .u32 0), .val (.sl (.sl .int)) f, .val (.sl (.sl .int)) c, .val (.sl .int) ma, .val (.sl .int) mb, .val .int wst, .mk 0 9 .str ord, .val .str bk])) (hsz : StateSz (c, ma, mb, wst)) (hpre : DoPre k l (c, ma, mb, wst))
    (hrest : ∀ S : AS, S.env 0 = .one (.box 0) → S.env 1 = .one (.val .str t) → S.env 8 = .one (.box 8) → S.env 9 = .one (.val (.err 161) (doV k l (c, ma, mb, wst)).1) →
      S.boxes 0 = some (.rcd [.raw (.int .i32 1), .raw (.int .u32 0), .val (.sl (.sl .int)) f, .val (.sl (.sl .int)) c, .val (.sl .int) ma, .val (.sl .int) mb, .val .int wst, .mk 0 9 .str ord, .val .str bk]) →
      S.boxes 8 = some (.rcd [.val (.sl (.sl .int)) (doV k l (c, ma, mb, wst)).2.1, .val (.sl .int) (doV k l (c, ma, mb, wst)).2.2.1, .val (.sl .int) (doV k l (c, ma, mb, wst)).2.2.2.1, .val .int (doV k l (c, ma, mb, wst)).2.2.2.2]) → tri C 72 rest (thenQ (tri C 72 rest2 Q) Q) S) :
    tri C 72 (.seq (.region id1 #[⟨some 35, .move (.tmp 0), t1, p1, e1, none⟩, ⟨some 36, .nilCheck (.tmp 35), t2, p2, e2, none⟩, ⟨some 37, .fieldAddr 113 (.tmp 36) 2, t3, p3, e3, none⟩, ⟨some 38, .load 103 (.tmp 37), t4, p4, e4, none⟩, ⟨some 39, .call { callee := .value (.func 74), args := #[.tmp 38], argTypes := at1 }, t5, p5, e5, none⟩, ⟨some 8, .alloc 103, t6, p6, e6, none⟩, ⟨none, .store 103 (.tmp 8) (.tmp 39), t7, p7, e7, none⟩] false) (.seq (.seq (.region id2 #[⟨some 40, .move (.tmp 5), t8, p8, e8, none⟩, ⟨some 41, .move (.tmp 6), t9, p9, e9, none⟩, ⟨some 42, .call { callee := .value (.func 79), args := #[.tmp 8, .tmp 40, .tmp 41], argTypes := at2 }, t10, p10, e10, none⟩, ⟨some 9, .assign (.tmp 42), t11, p11, e11, none⟩] false) rest) rest2)) Q s := by
  refine ⟨fun γ a w hr hN => ?_⟩
  have hd : zDH 72 [⟨some 35, .move (.tmp 0), t1, p1, e1, none⟩, ⟨some 36, .nilCheck (.tmp 35), t2, p2, e2, none⟩, ⟨some 37, .fieldAddr 113 (.tmp 36) 2, t3, p3, e3, none⟩, ⟨some 38, .load 103 (.tmp 37), t4, p4, e4, none⟩, ⟨some 39, .call { callee := .value (.func 74), args := #[.tmp 38], argTypes := at1 }, t5, p5, e5, none⟩, ⟨some 8, .alloc 103, t6, p6, e6, none⟩, ⟨none, .store 103 (.tmp 8) (.tmp 39), t7, p7, e7, none⟩] = true := rfl
  have hd' := fun (j : Nat) (o : Oper) (ho : (List.toArray [_, _, _, _, _, _, _])[j]? = some o) => zBh (ops := List.toArray [_, _, _, _, _, _, _]) (by simpa using hd) j o ho
  refine wp_seq (wp_region_lit (l := [_, _, _, _, _, _, _]) ?_)
  refine runK_then hE [_, _, _] hd' (K := fun s' => s' = (((s.put (some 35) (.one (.box 0))).put (some 36) (.one (.box 0))).put (some 37) (.one (.boxf 0 5 2 3))).put (some 38) (.one (.val stSh (c, ma, mb, wst)))) ?_ [_, _, _, _] s γ a w ?_ hN hr ?_
  rotate_left
  · intro o ho
    refine List.all_eq_true.1 hd o ?_
    simp only [List.mem_cons, List.not_mem_nil, or_false] at ho ⊢
    rcases ho with rfl | rfl | rfl | rfl <;> simp
  · simp only [↓kP, ↓kN, hG, h0, hb, push_cast, seval, reduceCtorEq, Int.cast_ofNat_Int]
  rintro s' γ1 a1 W r1 hN1 rfl
  refine wpList_step fun K' hK' => ?_
  simp only [Region.wanted, if_true]
  have hgW : Gd Tryz.prog W := by
    have := r1.defers.2.at r1.keep
    rwa [hP] at this
  have hv38 : vrep W (C.zn γ1) stSh (c, ma, mb, wst) (a1.eval (.tmp 38)) := zAn r1 (.tmp 38)
  have hv5 : a1.tmps.getD 5 undef = .int .i64 (k : Int) := by
    have := r1.env 5
    rw [zBC _ (by decide), zBC _ (by decide), zBC _ (by decide), zBC _ (by decide), h5] at this
    exact zAD this
  have hv6 : vrep W (C.zn γ1) (.sl .int) l (a1.tmps.getD 6 undef) := by
    have := r1.env 6
    rw [zBC _ (by decide), zBC _ (by decide), zBC _ (by decide), zBC _ (by decide), h6] at this
    exact this
  unfold Oper.wp
  have hcc : zA4 C.P 74 := by rw [hP]; exact stClone_spec.callable
  rw [zDR hcc (caps := #[]) rfl]
  simp only [Oper.upon]
  rw [hP]
  have ea : (#[Operand.tmp 38].map a1.eval ++ #[] : Array Value) = #[a1.eval (.tmp 38)] := by simp
  rw [ea]
  refine (zOw hgW (fun b => C.zn γ1 b ∧ b < W.heap.size) hsz (zIf hv38)).mono ?_
  rintro en w1 ⟨v, rfl, hcl⟩
  refine hK' _ _ ?_
  have hkc := hcl.keep
  have r2 : Rel C γ1 _ (a1.put (some 39) v) W := r1.put (d := some 39) (by rw [hN1]; rfl) (sv := .one .any) trivial
  have hN2 : (a1.put (some 39) v).tmps.size = 72 := by rw [zCf]; exact hN1
  have g39 : (a1.put (some 39) v).tmps.getD 39 undef = v := zHT (by omega)
  have g5 : (a1.put (some 39) v).tmps.getD 5 undef = .int .i64 (k : Int) := zCR (by omega) (by decide) hv5
  obtain ⟨v6, hv6e⟩ : ∃ v6, a1.tmps.getD 6 undef = v6 := ⟨_, rfl⟩
  have g6 : (a1.put (some 39) v).tmps.getD 6 undef = v6 := zCR (by omega) (by decide) hv6e
  rw [hv6e] at hv6
  generalize a1.put (some 39) v = a2 at r2 hN2 g39 g5 g6 ⊢
  obtain ⟨i0, z, hi0, hs0, _, hz, hzc⟩ := hE.lang.info 103 stSh (by rw [hG]; rfl)
  refine zEA rfl (v := .pointer (some ⟨w1.heap.size, 0, none⟩)) (w' := w1.alloc (.cells z.cells 103)) ?_ ?_
  · refine run_v ?_
    simp only [Instr.alloc, Sem.run_bind, zeroValue, typeInfo]
    simp [hi0, hz, newVar, newRow, newObj, Sem.run]
  have hzl : z.cells.toList.length = 4 := by rw [hzc, zAq]; rfl
  have r3 : Rel C γ1 _ (a2.put (some 8) (.pointer (some ⟨w1.heap.size, 0, none⟩))) W := r2.put (d := some 8) (by rw [hN2]; rfl) (sv := .one .any) trivial
  have hN3 : (a2.put (some 8) (.pointer (some ⟨w1.heap.size, 0, none⟩))).tmps.size = 72 := by rw [zCf]; exact hN2
  have q8 : (a2.put (some 8) (.pointer (some ⟨w1.heap.size, 0, none⟩))).tmps.getD 8 undef = .pointer (some ⟨w1.heap.size, 0, none⟩) := zHT (by omega)
  have q39 : (a2.put (some 8) (.pointer (some ⟨w1.heap.size, 0, none⟩))).tmps.getD 39 undef = v := zCR (by omega) (by decide) g39
  have q5 : (a2.put (some 8) (.pointer (some ⟨w1.heap.size, 0, none⟩))).tmps.getD 5 undef = .int .i64 (k : Int) := zCR (by omega) (by decide) g5
  have q6 : (a2.put (some 8) (.pointer (some ⟨w1.heap.size, 0, none⟩))).tmps.getD 6 undef = v6 := zCR (by omega) (by decide) g6
  generalize a2.put (some 8) (.pointer (some ⟨w1.heap.size, 0, none⟩)) = a3 at r3 hN3 q8 q39 q5 q6 ⊢
  have hcell1 : (w1.alloc (.cells z.cells 103)).heap[w1.heap.size]? = some (.cells z.cells 103 (0, 0)) := heap_alloc_new w1 _
  have hkA : Keep (fun _ => False) w1 (w1.alloc (.cells z.cells 103)) := ⟨rfl, rfl, rfl, by simp, fun k hk _ => Below.heap_alloc w1 _ k hk⟩
  obtain ⟨γc, hvv, hc27, hc8, hc11, hcl4⟩ := hcl.h
  have hvc : v.cells.toList = [γc.hd 27, γc.hd 8, γc.hd 11, .int .i64 wst] := by rw [hvv]; rfl
  obtain ⟨w2, hst, hgr, hcur⟩ := zDy (C := C) (w := w1.alloc (.cells z.cells 103)) (t := 103) (i := i0) hi0 (g := w1.heap.size) (o := 0) (v := v) hcell1 (by rw [hs0, ← Array.length_toList, hvc]; rfl) (by rw [hvc, ← Array.length_toList, hzl]; simp) (by rw [hvc]; intro u hu; simp only [List.mem_cons, List.not_mem_nil, or_false] at hu; rcases hu with rfl | rfl | rfl | rfl <;> rfl)
  have hcur2 : w2.heap[w1.heap.size]? = some (.cells #[γc.hd 27, γc.hd 8, γc.hd 11, .int .i64 wst] 103 (0, 0)) := by
    rw [hcur, hvc]
    have hdz : z.cells.toList.drop (0 + [γc.hd 27, γc.hd 8, γc.hd 11, Value.int .i64 wst].length) = [] := List.drop_of_length_le (by rw [hzl]; simp)
    rw [hdz]
    simp
  have hk12 : Keep (fun _ => False) w1 w2 := hkA.step (M := fun g => g = w1.heap.size) ⟨hgr.os, hgr.tape, hgr.output, hgr.size, fun g hg hne => hgr.block g hg (fun e => hne (by simpa using e))⟩ (fun g hg hlt => by omega)
  have e8 : a3.eval (.tmp 8) = .pointer (some ⟨w1.heap.size, 0, none⟩) := q8
  have e39 : a3.eval (.tmp 39) = v := q39
  refine zN7 rfl (w' := w2) (zBS (by rw [e8, e39]; exact hst)) (wpList_nil ?_)
  show (Code.seq _ _).wp C.P _ a3 w2
  refine wp_seq (wp_seq (wp_region_lit (l := [_, _, _, _]) ?_))
  refine zEA rfl (v := .int .i64 (k : Int)) (w' := w2) (by show Result.ok (Next.value (a3.tmps.getD 5 undef)) w2 = _; rw [q5]) ?_
  have r4 : Rel C γ1 _ (a3.put (some 40) (.int .i64 (k : Int))) W := r3.put (d := some 40) (by rw [hN3]; rfl) (sv := .one .any) trivial
  have hN4 : (a3.put (some 40) (.int .i64 (k : Int))).tmps.size = 72 := by rw [zCf]; exact hN3
  have m40 : (a3.put (some 40) (.int .i64 (k : Int))).tmps.getD 40 undef = .int .i64 (k : Int) := zHT (by omega)
  have m8 : (a3.put (some 40) (.int .i64 (k : Int))).tmps.getD 8 undef = .pointer (some ⟨w1.heap.size, 0, none⟩) := zCR (by omega) (by decide) q8
  have m6 : (a3.put (some 40) (.int .i64 (k : Int))).tmps.getD 6 undef = v6 := zCR (by omega) (by decide) q6
  show wpList C.P _ _ _ (a3.put (some 40) (.int .i64 (k : Int))) w2
  generalize a3.put (some 40) (.int .i64 (k : Int)) = a4 at r4 hN4 m40 m8 m6 ⊢
  refine zEA rfl (v := v6) (w' := w2) (by show Result.ok (Next.value (a4.tmps.getD 6 undef)) w2 = _; rw [m6]) ?_
  have r5 : Rel C γ1 _ (a4.put (some 41) v6) W := r4.put (d := some 41) (by rw [hN4]; rfl) (sv := .one .any) trivial
  have hN5 : (a4.put (some 41) v6).tmps.size = 72 := by rw [zCf]; exact hN4
  have x41 : (a4.put (some 41) v6).tmps.getD 41 undef = v6 := zHT (by omega)
  have x40 : (a4.put (some 41) v6).tmps.getD 40 undef = .int .i64 (k : Int) := zCR (by omega) (by decide) m40
  have x8 : (a4.put (some 41) v6).tmps.getD 8 undef = .pointer (some ⟨w1.heap.size, 0, none⟩) := zCR (by omega) (by decide) m8
  show wpList C.P _ _ _ (a4.put (some 41) v6) w2
  generalize a4.put (some 41) v6 = a5 at r5 hN5 x41 x40 x8 ⊢
  refine wpList_step fun K5 hK5 => ?_
  simp only [Region.wanted, if_true]
  unfold Oper.wp
  have hcd : zA4 C.P 79 := by rw [hP]; exact ⟨_, Tryz.func79, by kernel_rfl, rfl⟩
  rw [zDR hcd (caps := #[]) rfl]
  simp only [Oper.upon]
  rw [hP]
  have ea : (#[Operand.tmp 8, .tmp 40, .tmp 41].map a5.eval ++ #[] : Array Value) = #[.pointer (some ⟨w1.heap.size, 0, none⟩), .int .i64 (k : Int), v6] := by
    simp [Act.eval, x8, x40, x41]
  rw [ea]
  have hkW2 : Keep (fun _ => False) W w2 := hkc.step hk12 (fun _ hf => hf.elim)
  have hg2 : Gd Tryz.prog w2 := hgW.later hkW2
  have hl2 : vrep w2 (fun b => C.zn γ1 b ∧ b < W.heap.size) (.sl .int) l v6 := by
    obtain ⟨cs, h1, h2⟩ := zIf hv6
    exact ⟨cs, zAs hkW2.size (fun b hb hz => ⟨hz, hkW2.block b hb (fun h => h)⟩) _ _ _ h1, h2⟩
  refine (zTe hcl hg2 hgW.size (nb := w1.heap.size) (t := 103) (Nat.le_refl _) (fun g hg => hg.2) hk12 ⟨_, hvv, hcur2⟩ k l hpre hl2).mono ?_
  rintro en w3 ⟨rfl, hdn⟩
  refine hK5 _ _ ?_
  have r6 : Rel C γ1 _ (a5.put (some 42) (errV 161 (doV k l (c, ma, mb, wst)).1)) W := r5.put (d := some 42) (by rw [hN5]; rfl) (sv := .one .any) trivial
  have hN6 : (a5.put (some 42) (errV 161 (doV k l (c, ma, mb, wst)).1)).tmps.size = 72 := by rw [zCf]; exact hN5
  have y42 : (a5.put (some 42) (errV 161 (doV k l (c, ma, mb, wst)).1)).tmps.getD 42 undef = errV 161 (doV k l (c, ma, mb, wst)).1 := zHT (by omega)
  have y8 : (a5.put (some 42) (errV 161 (doV k l (c, ma, mb, wst)).1)).tmps.getD 8 undef = .pointer (some ⟨w1.heap.size, 0, none⟩) := zCR (by omega) (by decide) x8
  generalize a5.put (some 42) (errV 161 (doV k l (c, ma, mb, wst)).1) = a6 at r6 hN6 y42 y8 ⊢
  refine zEA rfl (v := errV 161 (doV k l (c, ma, mb, wst)).1) (w' := w3) (by show Result.ok (Next.value (a6.tmps.getD 42 undef)) w3 = _; rw [y42]) (wpList_nil ?_)
  have r7 : Rel C γ1 _ (a6.put (some 9) (errV 161 (doV k l (c, ma, mb, wst)).1)) W := r6.put (d := some 9) (by rw [hN6]; rfl) (sv := .one .any) trivial
  have hN7 : (a6.put (some 9) (errV 161 (doV k l (c, ma, mb, wst)).1)).tmps.size = 72 := by rw [zCf]; exact hN6
  have z9 : (a6.put (some 9) (errV 161 (doV k l (c, ma, mb, wst)).1)).tmps.getD 9 undef = errV 161 (doV k l (c, ma, mb, wst)).1 := zHT (by omega)
  have z8 : (a6.put (some 9) (errV 161 (doV k l (c, ma, mb, wst)).1)).tmps.getD 8 undef = .pointer (some ⟨w1.heap.size, 0, none⟩) := zCR (by omega) (by decide) y8
  show rest.wp C.P _ (a6.put (some 9) (errV 161 (doV k l (c, ma, mb, wst)).1)) w3
  generalize a6.put (some 9) (errV 161 (doV k l (c, ma, mb, wst)).1) = a7 at r7 hN7 z9 z8 ⊢
  obtain ⟨hkD, cs, tt, c1, c2, v1, v2, v3, c3, k1, k2, k3⟩ := hdn
  have hkW3 : Keep (fun _ => False) W w3 := hkW2.step hkD (fun g hg hlt => absurd hlt (by have hg' : W.heap.size ≤ g := hg; omega))
  have hzone : ∀ b, ((C.zn γ1 b ∧ b < W.heap.size) ∨ W.heap.size ≤ b) ∧ b ≠ w1.heap.size → C.zn (zAC γ1 8 w1.heap.size) b := fun b hb => by
    obtain ⟨h1, h2⟩ := hb
    have hown : (zAC γ1 8 w1.heap.size).own b = γ1.own b := by simp only [zAC]; rw [if_neg h2]
    rcases h1 with ⟨h1, _⟩ | h1
    · exact ⟨h1.1, by rw [hown]; exact h1.2⟩
    · refine ⟨.inr (.inl (Nat.le_trans r7.keep.size h1)), ?_⟩
      rw [hown]
      cases ho : γ1.own b with
      | none => rfl
      | some lo => have := r7.ownlt b lo ho; omega
  have hbox := zPV r7 8 hnl (nb := w1.heap.size) hkc.size hkW3 c1 (sv := .rcd [.val (.sl (.sl .int)) (doV k l (c, ma, mb, wst)).2.1, .val (.sl .int) (doV k l (c, ma, mb, wst)).2.2.1, .val (.sl .int) (doV k l (c, ma, mb, wst)).2.2.2.1, .val .int (doV k l (c, ma, mb, wst)).2.2.2.2])
    (by show zAo _ _ _ _ cs.toList; rw [c3]; exact ⟨v1, _, rfl, zAt hzone k1, v2, _, rfl, zAt hzone k2, v3, _, rfl, zAt hzone k3, _, _, rfl, ⟨_, rfl, rfl⟩, rfl⟩) c2
  have hk8 := hbox.know 8 (sv := .one (.box 8)) (by rw [z8]; simp [svRep, bvRep, zAC, upd])
  have hk9 := hk8.know 9 (sv := .one (.val (.err 161) (doV k l (c, ma, mb, wst)).1)) (by rw [z9]; exact ⟨_, rfl, rfl⟩)
  refine wp_mono ((hrest _ ?_ ?_ ?_ ?_ ?_ ?_).run _ _ _ hk9 hN7) ?_
  rotate_right
  · rintro e a' w' ⟨s', γ', h1, h2, h3⟩
    cases e with
    | normal => exact h3.run γ' a' w' h1 h2
    | _ => exact ⟨s', γ', h1, h2, h3⟩
  · simp only [h0, push_cast, seval, reduceCtorEq, Int.cast_ofNat_Int]
  · simp only [hs1, push_cast, seval, reduceCtorEq, Int.cast_ofNat_Int]
  · simp only [push_cast, seval, reduceCtorEq, Int.cast_ofNat_Int]
  · simp only [push_cast, seval, reduceCtorEq, Int.cast_ofNat_Int]
  · simp only [hb, push_cast, seval, reduceCtorEq, Int.cast_ofNat_Int]
  · simp only [push_cast, seval, reduceCtorEq, Int.cast_ofNat_Int]
end Go.Proofs.YtlgkplnifaoeeaaGreatDoor
namespace Go.Proofs.YtlgkplnifaoeeaaGreatDoor
open Go.RowKit Go.VS Go.OT
structure HOK (s : State) : Prop where
  tab : InTab 0 99 s.1
  la : s.2.1.length = s.1.length
  lb : s.2.2.1.length = wid s.1
  a : ∀ i, i < s.2.1.length → 0 ≤ s.2.1.getD i 0 ∧ s.2.1.getD i 0 ≤ 30
  b : ∀ i, i < s.2.2.1.length → 0 ≤ s.2.2.1.getD i 0 ∧ s.2.2.1.getD i 0 ≤ 30
theorem HOK.sz {s : State} (h : HOK s) : StateSz s := by
  obtain ⟨h1, h2, h3, _, _⟩ := h
  have hr := h1.rows
  have hc := h1.cols
  exact ⟨by omega, fun k hk => by rw [h1.len hk]; omega, by omega, by omega⟩
theorem zQN {k : ByteArray} (h : smHas formsL k = true) : (smGet formsL k).2 = if (smGet formsL k).1 = 4 then 3 else if (smGet formsL k).1 ≤ 3 then 2 else 1 := by
  unfold smHas at h
  unfold smGet
  cases hf : formsL.find? (fun p => decide (p.1 = k)) with
  | none => rw [hf] at h; cases h
  | some p =>
    have hm := List.mem_of_find?_eq_some hf
    simp only [formsL, List.mem_cons, List.not_mem_nil, or_false] at hm
    rcases hm with rfl | rfl | rfl | rfl | rfl | rfl | rfl <;> rfl
def hkind (t : ByteArray) : Nat := (hform t).1.toNat
theorem zMl (t : ByteArray) : (hkind t : Int) = (hform t).1 := by
  have := zIZ (hw t 0)
  have e : hform t = smGet formsL (hw t 0) := rfl
  rw [← e] at this
  unfold hkind
  omega
theorem zRN {t : ByteArray} {s : State} (h : hpOK t = true) (hs : HOK s) : DoPre (hkind t) (hargs t) s := by
  obtain ⟨⟨h1, h2, h3⟩, h4⟩ := zCZ.1 h
  have hin := zIZ (hw t 0)
  have hl := zQN h2
  have e : hform t = smGet formsL (hw t 0) := rfl
  rw [← e] at hin hl
  have hk := zMl t
  have hpos : 1 ≤ (zAP t spS).length := by rw [zEu t spS (Nat.le_refl _)]; omega
  have hal : (hargs t).length = (zAP t spS).length - 1 := zBK _ _
  refine ⟨by omega, ?_, fun i hi => ?_, hs.tab, hs.la, hs.lb, hs.a, hs.b⟩
  · rw [hal]
    by_cases e4 : hkind t = 4
    · rw [if_pos e4]; rw [if_pos (by omega)] at hl; omega
    · rw [if_neg e4]; rw [if_neg (by omega)] at hl
      by_cases e3 : hkind t ≤ 3
      · rw [if_pos e3]; rw [if_pos (by omega)] at hl; omega
      · rw [if_neg e3]; rw [if_neg (by omega)] at hl; omega
  · rw [hal] at hi
    have hg : (hargs t).getD i 0 = atoiV (hw t (i + 1)) := zCa _ _ hi
    obtain ⟨_, q2, q3, _⟩ := zFA.1 (h4 i hi)
    rw [hg]
    exact ⟨q2, q3⟩
theorem zJH (a b : List Int) (c : List (List Int)) (w : Int) : 0 ≤ zDf a b c w ∧ zDf a b c w ≤ 999999 := by
  unfold zDf
  split
  · rename_i he
    obtain ⟨h1, h2, h3⟩ := zMc he
    obtain ⟨_, _, h4, h5⟩ := MC.sums h1
    rw [zDV] at h4 h5
    have z := zNw h1.mc w
    have n := zQY h1.mc h2
    have : w * (sumL a + sumL b) ≤ 99 * (sumL a + sumL b) := Int.mul_le_mul_of_nonneg_right h3 (by omega)
    omega
  · omega
structure HInv (x : HX) : Prop where
  st : HOK (hSt x)
  ord : (hOrd x).length ≤ 60
  bk : (hBk x).size ≤ 100 * (hOrd x).length
def doE (x : HX) (t : ByteArray) : Int := if hpOK t = true then (if (hOrd x).length = 60 then 3 else (doV (hkind t) (hargs t) (hSt x)).1) else 2
def doS (x : HX) (t : ByteArray) : State := (doV (hkind t) (hargs t) (hSt x)).2
def lst (s : State) : Int := zDf s.2.1 s.2.2.1 s.1 s.2.2.2
def doX (x : HX) (t : ByteArray) : HX := if doE x t = 0 then mkH (zTr x) (doS x t) (hOrd x ++ [t]) (zC9 (hBk x) (lst (doS x t)) t) else x
@[push_cast] def zRM : Con := ⟨[.obj hFs, .dat .str], fun (x : HX × ByteArray × Unit) => HInv x.1, fun (x : HX × ByteArray × Unit) => { res := [.val .int (doE x.1 x.2.1)], objs := [(0, ⟨hFs, doX x.1 x.2.1⟩)] }⟩
structure Stop (p : Prop) : Prop where
  h : p
theorem zQd {C : Ctx} {N : Nat} {Q : Exit → AS → Prop} {s : AS} {x y : Code} (h : ∀ K : AS → Prop, (∀ s, tri C N y Q s → K s) → tri C N x (thenQ K Q) s) : tri C N x (thenQ (tri C N y Q) Q) s := h _ fun _ h => h
def doK9 : Know := know [(77, zE7), (78, zIm), (81, zCO), (80, zEB)] []
theorem zSc : KnowOK Tryz.prog doK9 := zAm (all_cons zLa (all_cons zOx (all_cons zEP (all_cons zKB all_nil)))) all_nil all_nil
set_option maxHeartbeats 8000000 in
theorem zQB : FnSpec Tryz.prog 31 zRM := by
  refine ⟨⟨_, Tryz.func31, by kernel_rfl, rfl⟩, fun C γ x vs hpre hen => ?_⟩
  have hP := hen.P
  have hnl : C.nl = 1 := hen.nl
  have hE : KnowOK C.P (know [(77, zE7), (78, zIm), (81, zCO), (80, zEB)] []) := by rw [hP]; exact zSc
  have hlen := zAQ _ _ hen.args
  have hr := zDQ hen (72 - vs.length)
  have hdsn : C.ds = [] := hen.ds.1
  obtain ⟨⟨⟨⟩, ⟨⟩, (f : List (List Int)), (c : List (List Int)), (ma : List Int), (mb : List Int), (wst : Int), (ord : List ByteArray), (bk : ByteArray), ⟨⟩⟩, (t : ByteArray), ⟨⟩⟩ := x
  have hlen' : vs.length = 2 := hlen.symm ▸ rfl
  rw [← hP]
  refine calls_of_wp_defers (by rw [hP]; exact Tryz.func31) rfl ?_
  rw [List.size_toArray]
  refine triD.run (N := 72) ?_ γ _ _ hr (by simp [hlen'])
  obtain ⟨hst, hord, hbk⟩ := hpre
  refine zDl (t := AS.of [(0, .one (.box 0)), (1, .one (.val .str t))] [] [(0, .rcd [.raw (.int .i32 0), .raw (.int .u32 0), .val (.sl (.sl .int)) f, .val (.sl (.sl .int)) c, .val (.sl .int) ma, .val (.sl .int) mb, .val .int wst, .mk 0 9 .str ord, .val .str bk])]) ?_ ?_
  · refine zAj ?_ ?_ ?_ <;> simp only [push_cast, seval, reduceCtorEq, Int.cast_ofNat_Int]
  clear hr hlen hlen' hen
  refine zFs fun K hK => ?_
  repeat' (first|(refine goK (by assumption) ?_; iterate 4 (try clear hK K))|(refine zAd fun K hK => ?_)|((first|refine zAb hE rfl ?_|refine zAh ?_); simp +contextual only [hnl, ↓kN, ↓kP, ↓kG, ↓qN, ↓qP, ↓qG, push_cast, seval, reduceCtorEq, Int.cast_ofNat_Int])|refine zAc ?_|((first|refine zAg ?_|refine zAf ?_); simp only [thenQ, zAk, if_true, if_false, Nat.reduceEqDiff, reduceCtorEq])|(refine zAe (by rfl) (fun hb => ?_) (fun hb => ?_) <;> (try simp only [b1, b2, b3, b4, reduceCtorEq, b5, b6] at hb) <;> (try omega))|refine zAi (by rfl) ?_ ?_|refine andS ?_|(refine ⟨fun hc => ?_, fun hc => ?_⟩)|(intro hc; try omega))
  refine hK _ ?_
  clear hK K
  refine zFs fun K hK => ?_
  repeat' (first|(refine goK (by assumption) ?_; iterate 4 (try clear hK K))|(refine zAd fun K hK => ?_)|((first|refine zAb hE rfl ?_|refine zAh ?_); simp +contextual only [hnl, ↓kN, ↓kP, ↓kG, ↓qN, ↓qP, ↓qG, push_cast, seval, reduceCtorEq, Int.cast_ofNat_Int])|refine zAc ?_|((first|refine zAg ?_|refine zAf ?_); simp only [thenQ, zAk, if_true, if_false, Nat.reduceEqDiff, reduceCtorEq])|(refine zAe (by rfl) (fun hb => ?_) (fun hb => ?_) <;> (try simp only [b1, b2, b3, b4, reduceCtorEq, b5, b6] at hb) <;> (try omega))|refine zAi (by rfl) ?_ ?_|refine andS ?_|(refine ⟨fun hc => ?_, fun hc => ?_⟩)|(intro hc; try omega))
  refine hK _ ?_
  clear hK K
  refine zDl (t := AS.of [(0, .one (.box 0)), (1, .one (.val .str t))] [] [(0, .rcd [.raw (.int .i32 0), .raw (.int .u32 0), .val (.sl (.sl .int)) f, .val (.sl (.sl .int)) c, .val (.sl .int) ma, .val (.sl .int) mb, .val .int wst, .mk 0 9 .str ord, .val .str bk])]) ?_ ?_
  · refine zAj ?_ ?_ ?_ <;> simp only [push_cast, seval, reduceCtorEq, Int.cast_ofNat_Int]
  refine zFs fun K hK => ?_
  refine zMT hP hE rfl rfl rfl rfl (n := 5) rfl ?_
  refine hK _ ?_
  clear hK K
  refine zDl (t := AS.of [(0, .one (.box 0)), (1, .one (.val .str t))] [] [(0, .rcd [.raw (.int .i32 1), .raw (.int .u32 0), .val (.sl (.sl .int)) f, .val (.sl (.sl .int)) c, .val (.sl .int) ma, .val (.sl .int) mb, .val .int wst, .mk 0 9 .str ord, .val .str bk])]) ?_ ?_
  · unfold lockS
    refine zAj ?_ ?_ ?_ <;> simp only [push_cast, seval, reduceCtorEq, Int.cast_ofNat_Int]
  refine ⟨fun γ0 a0 w0 hr hN => zHt hP hE (n := 5) rfl rfl rfl (by rw [hnl]; decide) hdsn hr hN ?_⟩
  clear hr hN
  rw [hnl]
  have hE1 : KnowOK (C.dsd [zBL (C.lb 0)]).P (know [(77, zE7), (78, zIm), (81, zCO), (80, zEB)] []) := hE
  have hP1 : (C.dsd [zBL (C.lb 0)]).P = Tryz.prog := hP
  have hnl1 : (C.dsd [zBL (C.lb 0)]).nl = 1 := hnl
  generalize C.dsd [zBL (C.lb 0)] = C1 at hE1 hnl1 hP1 ⊢
  clear hE hnl hP
  have hE := hE1
  have hP := hP1
  have hnl := hnl1
  refine zAK (t := AS.of [(0, .one (.box 0)), (1, .one (.val .str t))] [] [(0, .rcd [.raw (.int .i32 1), .raw (.int .u32 0), .val (.sl (.sl .int)) f, .val (.sl (.sl .int)) c, .val (.sl .int) ma, .val (.sl .int) mb, .val .int wst, .mk 0 9 .str ord, .val .str bk])]) ?_ ?_
  · unfold lockS
    refine zAj ?_ ?_ ?_ <;> simp only [push_cast, seval, reduceCtorEq, Int.cast_ofNat_Int]
  by_cases hok : hpOK t = true
  rotate_left
  · have eE : doE ((), (), f, c, ma, mb, wst, ord, bk, ()) t = 2 := if_neg hok
    have eX : doX ((), (), f, c, ma, mb, wst, ord, bk, ()) t = ((), (), f, c, ma, mb, wst, ord, bk, ()) := by rw [doX, eE]; rfl
    rw [Bool.not_eq_true] at hok
    have hnl0 := hnl
    replace hnl := And.intro hnl hok
    repeat' (first|(refine goK (by assumption) ?_; iterate 4 (try clear hK K))|(refine zAd fun K hK => ?_)|((first|refine zAb hE rfl ?_|refine zAh ?_); simp +contextual only [hnl, ↓kN, ↓kP, ↓kG, ↓qN, ↓qP, ↓qG, push_cast, seval, reduceCtorEq, Int.cast_ofNat_Int])|refine zAc ?_|((first|refine zAg ?_|refine zAf ?_); simp only [thenQ, zAk, if_true, if_false, Nat.reduceEqDiff, reduceCtorEq])|(refine zAe (by rfl) (fun hb => ?_) (fun hb => ?_) <;> (try simp only [b1, b2, b3, b4, reduceCtorEq, b5, b6] at hb) <;> (try omega))|refine zAi (by rfl) ?_ ?_|refine andS ?_|(refine ⟨fun hc => ?_, fun hc => ?_⟩)|(intro hc; try omega))
    all_goals exact ⟨.inr rfl, _, AS.of [(0, .one (.box 0)), (4, .one (.val .int (doE ((), (), f, c, ma, mb, wst, ord, bk, ()) t)))] [] [(0, .rcd [.raw (.int .i32 0), .raw (.int .u32 0), .val (.sl (.sl .int)) f, .val (.sl (.sl .int)) c, .val (.sl .int) ma, .val (.sl .int) mb, .val .int wst, .mk 0 9 .str ord, .val .str bk])], rfl, rfl, (by rw [eE]; (refine zAj ?_ ?_ ?_ <;> simp only [push_cast, seval, reduceCtorEq, Int.cast_ofNat_Int])), (by simp only [hnl, eX, Tryz.results31, push_cast, seval, reduceCtorEq, Int.cast_ofNat_Int])⟩
  have hkd := zMl t
  have hdp := zRN hok hst
  have hnl0 := hnl
  replace hnl := And.intro hnl (And.intro hok hkd.symm)
  refine zAd fun K hK0 => ?_
  have hS := Stop.mk hK0
  clear hK0
  repeat' (first|(refine goK (by assumption) ?_; iterate 4 (try clear hK K))|(refine zAd fun K hK => ?_)|((first|refine zAb hE rfl ?_|refine zAh ?_); simp +contextual only [hnl, ↓kN, ↓kP, ↓kG, ↓qN, ↓qP, ↓qG, push_cast, seval, reduceCtorEq, Int.cast_ofNat_Int])|refine zAc ?_|((first|refine zAg ?_|refine zAf ?_); simp only [thenQ, zAk, if_true, if_false, Nat.reduceEqDiff, reduceCtorEq])|(refine zAe (by rfl) (fun hb => ?_) (fun hb => ?_) <;> (try simp only [b1, b2, b3, b4, reduceCtorEq, b5, b6] at hb) <;> (try omega))|refine zAi (by rfl) ?_ ?_|refine andS ?_|(refine ⟨fun hc => ?_, fun hc => ?_⟩)|(intro hc; try omega))
  refine hS.h _ ?_
  clear hS K
  refine zAK (t := AS.of [(0, .one (.box 0)), (1, .one (.val .str t)), (5, .one (.val .int (hkind t : Int))), (6, .one (.val (.sl .int) (hargs t))), (7, .one (.val (.err 161) 0))] [] [(0, .rcd [.raw (.int .i32 1), .raw (.int .u32 0), .val (.sl (.sl .int)) f, .val (.sl (.sl .int)) c, .val (.sl .int) ma, .val (.sl .int) mb, .val .int wst, .mk 0 9 .str ord, .val .str bk])]) ?_ ?_
  · refine zAj ?_ ?_ ?_ <;> simp only [push_cast, seval, reduceCtorEq, Int.cast_ofNat_Int]
    all_goals first | rfl | exact ⟨_, rfl⟩ | skip
  refine zAd fun K hK0 => ?_
  have hS := Stop.mk hK0
  clear hK0
  repeat' (first|(refine goK (by assumption) ?_; iterate 4 (try clear hK K))|(refine zAd fun K hK => ?_)|((first|refine zAb hE rfl ?_|refine zAh ?_); simp +contextual only [hnl, ↓kN, ↓kP, ↓kG, ↓qN, ↓qP, ↓qG, push_cast, seval, reduceCtorEq, Int.cast_ofNat_Int])|refine zAc ?_|((first|refine zAg ?_|refine zAf ?_); simp only [thenQ, zAk, if_true, if_false, Nat.reduceEqDiff, reduceCtorEq])|(refine zAe (by rfl) (fun hb => ?_) (fun hb => ?_) <;> (try simp only [b1, b2, b3, b4, reduceCtorEq, b5, b6] at hb) <;> (try omega))|refine zAi (by rfl) ?_ ?_|refine andS ?_|(refine ⟨fun hc => ?_, fun hc => ?_⟩)|(intro hc; try omega))
  refine hS.h _ ?_
  clear hS K
  refine zAK (t := AS.of [(0, .one (.box 0)), (1, .one (.val .str t)), (5, .one (.val .int (hkind t : Int))), (6, .one (.val (.sl .int) (hargs t)))] [] [(0, .rcd [.raw (.int .i32 1), .raw (.int .u32 0), .val (.sl (.sl .int)) f, .val (.sl (.sl .int)) c, .val (.sl .int) ma, .val (.sl .int) mb, .val .int wst, .mk 0 9 .str ord, .val .str bk])]) ?_ ?_
  · refine zAj ?_ ?_ ?_ <;> simp only [push_cast, seval, reduceCtorEq, Int.cast_ofNat_Int]
  refine zAd fun K hK0 => ?_
  have hS := Stop.mk hK0
  clear hK0
  refine zKo 0 7 1 rfl rfl (by rw [hnl0]; decide) ?_
  refine zAK (t := AS.of [(0, .one (.box 0)), (1, .one (.val .str t)), (5, .one (.val .int (hkind t : Int))), (6, .one (.val (.sl .int) (hargs t)))] [(1, .flat 9 .str ord)] [(0, .rcd [.raw (.int .i32 1), .raw (.int .u32 0), .val (.sl (.sl .int)) f, .val (.sl (.sl .int)) c, .val (.sl .int) ma, .val (.sl .int) mb, .val .int wst, .ref 1, .val .str bk])]) ?_ ?_
  · unfold AS.reB
    refine zAj ?_ ?_ ?_ <;> simp only [push_cast, seval, reduceCtorEq, Int.cast_ofNat_Int]
  refine zAd fun K2 hK0 => ?_
  have hS2 := Stop.mk hK0
  clear hK0
  repeat' (first|(refine goK (by assumption) ?_; iterate 4 (try clear hK K))|(refine zAd fun K hK => ?_)|((first|refine zAb hE rfl ?_|refine zAh ?_); simp +contextual only [hnl, ↓kN, ↓kP, ↓kG, ↓qN, ↓qP, ↓qG, push_cast, seval, reduceCtorEq, Int.cast_ofNat_Int])|refine zAc ?_|((first|refine zAg ?_|refine zAf ?_); simp only [thenQ, zAk, if_true, if_false, Nat.reduceEqDiff, reduceCtorEq])|(refine zAe (by rfl) (fun hb => ?_) (fun hb => ?_) <;> (try simp only [b1, b2, b3, b4, reduceCtorEq, b5, b6] at hb) <;> (try omega))|refine zAi (by rfl) ?_ ?_|refine andS ?_|(refine ⟨fun hc => ?_, fun hc => ?_⟩)|(intro hc; try omega))
  refine hS2.h _ ?_
  clear hS2 K2
  refine zAK (t := AS.of [(0, .one (.box 0)), (1, .one (.val .str t)), (5, .one (.val .int (hkind t : Int))), (6, .one (.val (.sl .int) (hargs t))), (34, .one (.val .bool (decide ((ord.length : Int) = 60))))] [(1, .flat 9 .str ord)] [(0, .rcd [.raw (.int .i32 1), .raw (.int .u32 0), .val (.sl (.sl .int)) f, .val (.sl (.sl .int)) c, .val (.sl .int) ma, .val (.sl .int) mb, .val .int wst, .ref 1, .val .str bk])]) ?_ ?_
  · refine zAj ?_ ?_ ?_ <;> simp only [push_cast, seval, reduceCtorEq, Int.cast_ofNat_Int]
  refine zMS 0 0 7 1 rfl rfl rfl (by rw [hnl0]; decide) ?_
  refine zAK (t := AS.of [(0, .one (.box 0)), (1, .one (.val .str t)), (5, .one (.val .int (hkind t : Int))), (6, .one (.val (.sl .int) (hargs t))), (34, .one (.val .bool (decide ((ord.length : Int) = 60))))] [] [(0, .rcd [.raw (.int .i32 1), .raw (.int .u32 0), .val (.sl (.sl .int)) f, .val (.sl (.sl .int)) c, .val (.sl .int) ma, .val (.sl .int) mb, .val .int wst, .mk 0 9 .str ord, .val .str bk])]) ?_ ?_
  · unfold AS.reB
    refine zAj ?_ ?_ ?_ <;> simp only [push_cast, seval, reduceCtorEq, Int.cast_ofNat_Int]
  by_cases h60 : ord.length = 60
  · have eE : doE ((), (), f, c, ma, mb, wst, ord, bk, ()) t = 3 := by unfold doE; rw [if_pos hok]; exact if_pos h60
    have eX : doX ((), (), f, c, ma, mb, wst, ord, bk, ()) t = ((), (), f, c, ma, mb, wst, ord, bk, ()) := by rw [doX, eE]; rfl
    have h60' : ((ord.length : Int) = 60) := by omega
    replace hnl := And.intro hnl h60
    repeat' (first|(refine goK (by assumption) ?_; iterate 4 (try clear hK K))|(refine zAd fun K hK => ?_)|((first|refine zAb hE rfl ?_|refine zAh ?_); simp +contextual only [hnl, ↓kN, ↓kP, ↓kG, ↓qN, ↓qP, ↓qG, push_cast, seval, reduceCtorEq, Int.cast_ofNat_Int])|refine zAc ?_|((first|refine zAg ?_|refine zAf ?_); simp only [thenQ, zAk, if_true, if_false, Nat.reduceEqDiff, reduceCtorEq])|(refine zAe (by rfl) (fun hb => ?_) (fun hb => ?_) <;> (try simp only [b1, b2, b3, b4, reduceCtorEq, b5, b6] at hb) <;> (try omega))|refine zAi (by rfl) ?_ ?_|refine andS ?_|(refine ⟨fun hc => ?_, fun hc => ?_⟩)|(intro hc; try omega))
    all_goals exact ⟨.inr rfl, _, AS.of [(0, .one (.box 0)), (4, .one (.val .int (doE ((), (), f, c, ma, mb, wst, ord, bk, ()) t)))] [] [(0, .rcd [.raw (.int .i32 0), .raw (.int .u32 0), .val (.sl (.sl .int)) f, .val (.sl (.sl .int)) c, .val (.sl .int) ma, .val (.sl .int) mb, .val .int wst, .mk 0 9 .str ord, .val .str bk])], rfl, rfl, (by rw [eE]; (refine zAj ?_ ?_ ?_ <;> simp only [push_cast, seval, reduceCtorEq, Int.cast_ofNat_Int])), (by simp only [hnl, eX, Tryz.results31, push_cast, seval, reduceCtorEq, Int.cast_ofNat_Int])⟩
  have eE : doE ((), (), f, c, ma, mb, wst, ord, bk, ()) t = (doV (hkind t) (hargs t) (c, ma, mb, wst)).1 := by unfold doE; rw [if_pos hok]; exact if_neg h60
  have h60' : ¬ ((ord.length : Int) = 60) := by omega
  replace hnl := And.intro hnl (eq_false h60')
  repeat' (first|(refine goK (by assumption) ?_; iterate 4 (try clear hK K))|(refine zAd fun K hK => ?_)|((first|refine zAb hE rfl ?_|refine zAh ?_); simp +contextual only [hnl, ↓kN, ↓kP, ↓kG, ↓qN, ↓qP, ↓qG, push_cast, seval, reduceCtorEq, Int.cast_ofNat_Int])|refine zAc ?_|((first|refine zAg ?_|refine zAf ?_); simp only [thenQ, zAk, if_true, if_false, Nat.reduceEqDiff, reduceCtorEq])|(refine zAe (by rfl) (fun hb => ?_) (fun hb => ?_) <;> (try simp only [b1, b2, b3, b4, reduceCtorEq, b5, b6] at hb) <;> (try omega))|refine zAi (by rfl) ?_ ?_|refine andS ?_|(refine ⟨fun hc => ?_, fun hc => ?_⟩)|(intro hc; try omega))
  refine hS.h _ ?_
  clear hS K
  refine zAK (t := AS.of [(0, .one (.box 0)), (1, .one (.val .str t)), (5, .one (.val .int (hkind t : Int))), (6, .one (.val (.sl .int) (hargs t)))] [] [(0, .rcd [.raw (.int .i32 1), .raw (.int .u32 0), .val (.sl (.sl .int)) f, .val (.sl (.sl .int)) c, .val (.sl .int) ma, .val (.sl .int) mb, .val .int wst, .mk 0 9 .str ord, .val .str bk])]) ?_ ?_
  · refine zAj ?_ ?_ ?_ <;> simp only [push_cast, seval, reduceCtorEq, Int.cast_ofNat_Int]
  have hsz : StateSz (c, ma, mb, wst) := HOK.sz hst
  refine zSL hP hE rfl (by rw [hnl0]; decide) rfl rfl rfl rfl rfl hsz hdp fun S g0 g1 g8 g9 gb0 gb8 => ?_
  refine zAK (t := AS.of [(0, .one (.box 0)), (1, .one (.val .str t)), (8, .one (.box 8)), (9, .one (.val (.err 161) (doV (hkind t) (hargs t) (c, ma, mb, wst)).1))] [] [(0, .rcd [.raw (.int .i32 1), .raw (.int .u32 0), .val (.sl (.sl .int)) f, .val (.sl (.sl .int)) c, .val (.sl .int) ma, .val (.sl .int) mb, .val .int wst, .mk 0 9 .str ord, .val .str bk]), (8, .rcd [.val (.sl (.sl .int)) (doV (hkind t) (hargs t) (c, ma, mb, wst)).2.1, .val (.sl .int) (doV (hkind t) (hargs t) (c, ma, mb, wst)).2.2.1, .val (.sl .int) (doV (hkind t) (hargs t) (c, ma, mb, wst)).2.2.2.1, .val .int (doV (hkind t) (hargs t) (c, ma, mb, wst)).2.2.2.2])]) ?_ ?_
  · refine zAj ?_ ?_ ?_ <;> simp only [g0, g1, g8, g9, gb0, gb8, push_cast, seval, reduceCtorEq, Int.cast_ofNat_Int]
    all_goals first | exact ⟨_, rfl⟩ | skip
  clear g0 g1 g8 g9 gb0 gb8 S
  by_cases h0 : (doV (hkind t) (hargs t) (c, ma, mb, wst)).1 = 0
  rotate_left
  · have eX : doX ((), (), f, c, ma, mb, wst, ord, bk, ()) t = ((), (), f, c, ma, mb, wst, ord, bk, ()) := by unfold doX; rw [eE, if_neg h0]
    replace hnl := And.intro hnl (eq_false h0)
    repeat' (first|(refine goK (by assumption) ?_; iterate 4 (try clear hK K))|(refine zAd fun K hK => ?_)|((first|refine zAb hE rfl ?_|refine zAh ?_); simp +contextual only [hnl, ↓kN, ↓kP, ↓kG, ↓qN, ↓qP, ↓qG, push_cast, seval, reduceCtorEq, Int.cast_ofNat_Int])|refine zAc ?_|((first|refine zAg ?_|refine zAf ?_); simp only [thenQ, zAk, if_true, if_false, Nat.reduceEqDiff, reduceCtorEq])|(refine zAe (by rfl) (fun hb => ?_) (fun hb => ?_) <;> (try simp only [b1, b2, b3, b4, reduceCtorEq, b5, b6] at hb) <;> (try omega))|refine zAi (by rfl) ?_ ?_|refine andS ?_|(refine ⟨fun hc => ?_, fun hc => ?_⟩)|(intro hc; try omega))
    all_goals exact ⟨.inr rfl, _, AS.of [(0, .one (.box 0)), (4, .one (.val .int (doE ((), (), f, c, ma, mb, wst, ord, bk, ()) t)))] [] [(0, .rcd [.raw (.int .i32 0), .raw (.int .u32 0), .val (.sl (.sl .int)) f, .val (.sl (.sl .int)) c, .val (.sl .int) ma, .val (.sl .int) mb, .val .int wst, .mk 0 9 .str ord, .val .str bk])], rfl, rfl, (by rw [eE]; (refine zAj ?_ ?_ ?_ <;> simp only [push_cast, seval, reduceCtorEq, Int.cast_ofNat_Int])), (by simp only [hnl, eX, Tryz.results31, push_cast, seval, reduceCtorEq, Int.cast_ofNat_Int])⟩
  have eX : doX ((), (), f, c, ma, mb, wst, ord, bk, ()) t = mkH f (doV (hkind t) (hargs t) (c, ma, mb, wst)).2 (ord ++ [t]) (zC9 bk (lst (doV (hkind t) (hargs t) (c, ma, mb, wst)).2) t) := by unfold doX; rw [eE, if_pos h0]; rfl
  generalize (doV (hkind t) (hargs t) (c, ma, mb, wst)).2 = st' at eX ⊢
  rw [h0] at eE ⊢
  obtain ⟨c', ma', mb', wst'⟩ := st'
  dsimp only
  refine zQd fun K hK0 => ?_
  have hS := Stop.mk hK0
  clear hK0
  repeat' (first|(refine goK (by assumption) ?_; iterate 4 (try clear hK K))|(refine zAd fun K hK => ?_)|((first|refine zAb hE rfl ?_|refine zAh ?_); simp +contextual only [hnl, ↓kN, ↓kP, ↓kG, ↓qN, ↓qP, ↓qG, push_cast, seval, reduceCtorEq, Int.cast_ofNat_Int])|refine zAc ?_|((first|refine zAg ?_|refine zAf ?_); simp only [thenQ, zAk, if_true, if_false, Nat.reduceEqDiff, reduceCtorEq])|(refine zAe (by rfl) (fun hb => ?_) (fun hb => ?_) <;> (try simp only [b1, b2, b3, b4, reduceCtorEq, b5, b6] at hb) <;> (try omega))|refine zAi (by rfl) ?_ ?_|refine andS ?_|(refine ⟨fun hc => ?_, fun hc => ?_⟩)|(intro hc; try omega))
  refine hS.h _ ?_; clear hS K
  refine zAK (t := AS.of [(0, .one (.box 0)), (1, .one (.val .str t)), (8, .one (.box 8))] [] [(0, .rcd [.raw (.int .i32 1), .raw (.int .u32 0), .val (.sl (.sl .int)) f, .val (.sl (.sl .int)) c, .val (.sl .int) ma, .val (.sl .int) mb, .val .int wst, .mk 0 9 .str ord, .val .str bk]), (8, .rcd [.val (.sl (.sl .int)) c', .val (.sl .int) ma', .val (.sl .int) mb', .val .int wst'])]) ?_ ?_
  · refine zAj ?_ ?_ ?_ <;> simp only [push_cast, seval, reduceCtorEq, Int.cast_ofNat_Int]
  refine zAd fun K hK0 => ?_; have hS := Stop.mk hK0; clear hK0
  repeat' (first|(refine goK (by assumption) ?_; iterate 4 (try clear hK K))|(refine zAd fun K hK => ?_)|((first|refine zAb hE rfl ?_|refine zAh ?_); simp +contextual only [hnl, ↓kN, ↓kP, ↓kG, ↓qN, ↓qP, ↓qG, push_cast, seval, reduceCtorEq, Int.cast_ofNat_Int])|refine zAc ?_|((first|refine zAg ?_|refine zAf ?_); simp only [thenQ, zAk, if_true, if_false, Nat.reduceEqDiff, reduceCtorEq])|(refine zAe (by rfl) (fun hb => ?_) (fun hb => ?_) <;> (try simp only [b1, b2, b3, b4, reduceCtorEq, b5, b6] at hb) <;> (try omega))|refine zAi (by rfl) ?_ ?_|refine andS ?_|(refine ⟨fun hc => ?_, fun hc => ?_⟩)|(intro hc; try omega))
  refine hS.h _ ?_; clear hS K
  refine zAK (t := AS.of [(0, .one (.box 0)), (1, .one (.val .str t)), (8, .one (.box 8))] [] [(0, .rcd [.raw (.int .i32 1), .raw (.int .u32 0), .val (.sl (.sl .int)) f, .val (.sl (.sl .int)) c', .val (.sl .int) ma', .val (.sl .int) mb', .val .int wst', .mk 0 9 .str ord, .val .str bk]), (8, .rcd [.val (.sl (.sl .int)) c', .val (.sl .int) ma', .val (.sl .int) mb', .val .int wst'])]) ?_ ?_
  · refine zAj ?_ ?_ ?_ <;> simp only [push_cast, seval, reduceCtorEq, Int.cast_ofNat_Int]
  refine zKo 0 7 1 rfl rfl (by rw [hnl0]; decide) ?_
  refine zAK (t := AS.of [(0, .one (.box 0)), (1, .one (.val .str t)), (8, .one (.box 8))] [(1, .flat 9 .str ord)] [(0, .rcd [.raw (.int .i32 1), .raw (.int .u32 0), .val (.sl (.sl .int)) f, .val (.sl (.sl .int)) c', .val (.sl .int) ma', .val (.sl .int) mb', .val .int wst', .ref 1, .val .str bk]), (8, .rcd [.val (.sl (.sl .int)) c', .val (.sl .int) ma', .val (.sl .int) mb', .val .int wst'])]) ?_ ?_
  · unfold AS.reB
    refine zAj ?_ ?_ ?_ <;> simp only [push_cast, seval, reduceCtorEq, Int.cast_ofNat_Int]
  have hol : ord.length ≤ 1000000 := by
    have : ord.length ≤ 60 := hord
    omega
  replace hnl := And.intro hnl hol
  refine zAd fun K hK0 => ?_; have hS := Stop.mk hK0; clear hK0
  repeat' (first|(refine goK (by assumption) ?_; iterate 4 (try clear hK K))|(refine zAd fun K hK => ?_)|((first|refine zAb hE rfl ?_|refine zAh ?_); simp +contextual only [hnl, ↓kN, ↓kP, ↓kG, ↓qN, ↓qP, ↓qG, push_cast, seval, reduceCtorEq, Int.cast_ofNat_Int])|refine zAc ?_|((first|refine zAg ?_|refine zAf ?_); simp only [thenQ, zAk, if_true, if_false, Nat.reduceEqDiff, reduceCtorEq])|(refine zAe (by rfl) (fun hb => ?_) (fun hb => ?_) <;> (try simp only [b1, b2, b3, b4, reduceCtorEq, b5, b6] at hb) <;> (try omega))|refine zAi (by rfl) ?_ ?_|refine andS ?_|(refine ⟨fun hc => ?_, fun hc => ?_⟩)|(intro hc; try omega))
  refine hS.h _ ?_; clear hS K
  refine zAK (t := AS.of [(0, .one (.box 0)), (1, .one (.val .str t)), (8, .one (.box 8))] [(1, .flat 9 .str (ord ++ [t]))] [(0, .rcd [.raw (.int .i32 1), .raw (.int .u32 0), .val (.sl (.sl .int)) f, .val (.sl (.sl .int)) c', .val (.sl .int) ma', .val (.sl .int) mb', .val .int wst', .ref 1, .val .str bk]), (8, .rcd [.val (.sl (.sl .int)) c', .val (.sl .int) ma', .val (.sl .int) mb', .val .int wst'])]) ?_ ?_
  · refine zAj ?_ ?_ ?_ <;> simp only [push_cast, seval, reduceCtorEq, Int.cast_ofNat_Int]
  refine zMS 0 0 7 1 rfl rfl rfl (by rw [hnl0]; decide) ?_
  refine zAK (t := AS.of [(0, .one (.box 0)), (1, .one (.val .str t)), (8, .one (.box 8))] [] [(0, .rcd [.raw (.int .i32 1), .raw (.int .u32 0), .val (.sl (.sl .int)) f, .val (.sl (.sl .int)) c', .val (.sl .int) ma', .val (.sl .int) mb', .val .int wst', .mk 0 9 .str (ord ++ [t]), .val .str bk]), (8, .rcd [.val (.sl (.sl .int)) c', .val (.sl .int) ma', .val (.sl .int) mb', .val .int wst'])]) ?_ ?_
  · unfold AS.reB
    refine zAj ?_ ?_ ?_ <;> simp only [push_cast, seval, reduceCtorEq, Int.cast_ofNat_Int]
  have hwr : WrPre bk (zDf ma' mb' c' wst') t := by
    have h1 := zJH ma' mb' c' wst'
    have h2 := (zCZ.1 hok).1.1
    have h3 : bk.size ≤ 100 * ord.length := hbk
    have h4 : ord.length ≤ 60 := hord
    exact ⟨by omega, by unfold InR; omega, by omega⟩
  replace hnl := And.intro hnl (eq_true hwr)
  refine zAd fun K hK0 => ?_; have hS := Stop.mk hK0; clear hK0
  repeat' (first|(refine zAa hE 1 rfl rfl (by decide +kernel) ?_; simp only [List.length_cons, List.length_nil, Nat.reduceAdd, Nat.reduceSub, List.take_succ_cons, List.take_zero, List.drop_succ_cons, List.drop_zero]; simp +contextual only [hnl, ↓kN, ↓kP, ↓kG, ↓qN, ↓qP, ↓qG, push_cast, seval, reduceCtorEq, Int.cast_ofNat_Int])|(first|(refine goK (by assumption) ?_; iterate 4 (try clear hK K))|(refine zAd fun K hK => ?_)|((first|refine zAb hE rfl ?_|refine zAh ?_); simp +contextual only [hnl, ↓kN, ↓kP, ↓kG, ↓qN, ↓qP, ↓qG, push_cast, seval, reduceCtorEq, Int.cast_ofNat_Int])|refine zAc ?_|((first|refine zAg ?_|refine zAf ?_); simp only [thenQ, zAk, if_true, if_false, Nat.reduceEqDiff, reduceCtorEq])|(refine zAe (by rfl) (fun hb => ?_) (fun hb => ?_) <;> (try simp only [b1, b2, b3, b4, reduceCtorEq, b5, b6] at hb) <;> (try omega))|refine zAi (by rfl) ?_ ?_|refine andS ?_|(refine ⟨fun hc => ?_, fun hc => ?_⟩)|(intro hc; try omega)))
  refine hS.h _ ?_; clear hS K
  repeat' (first|(refine goK (by assumption) ?_; iterate 4 (try clear hK K))|(refine zAd fun K hK => ?_)|((first|refine zAb hE rfl ?_|refine zAh ?_); simp +contextual only [hnl, ↓kN, ↓kP, ↓kG, ↓qN, ↓qP, ↓qG, push_cast, seval, reduceCtorEq, Int.cast_ofNat_Int])|refine zAc ?_|((first|refine zAg ?_|refine zAf ?_); simp only [thenQ, zAk, if_true, if_false, Nat.reduceEqDiff, reduceCtorEq])|(refine zAe (by rfl) (fun hb => ?_) (fun hb => ?_) <;> (try simp only [b1, b2, b3, b4, reduceCtorEq, b5, b6] at hb) <;> (try omega))|refine zAi (by rfl) ?_ ?_|refine andS ?_|(refine ⟨fun hc => ?_, fun hc => ?_⟩)|(intro hc; try omega))
  all_goals exact ⟨.inr rfl, _, AS.of [(0, .one (.box 0)), (4, .one (.val .int (doE ((), (), f, c, ma, mb, wst, ord, bk, ()) t)))] [] [(0, .rcd [.raw (.int .i32 0), .raw (.int .u32 0), .val (.sl (.sl .int)) f, .val (.sl (.sl .int)) c', .val (.sl .int) ma', .val (.sl .int) mb', .val .int wst', .mk 0 9 .str (ord ++ [t]), .val .str (zC9 bk (zDf ma' mb' c' wst') t)])], rfl, rfl, (by rw [eE]; (refine zAj ?_ ?_ ?_ <;> simp only [push_cast, seval, reduceCtorEq, Int.cast_ofNat_Int])), (by simp only [hnl, eX, mkH, lst, Tryz.results31, push_cast, seval, reduceCtorEq, Int.cast_ofNat_Int])⟩
end Go.Proofs.YtlgkplnifaoeeaaGreatDoor
namespace Go.Proofs.YtlgkplnifaoeeaaGreatDoor
open Go.RowKit Go.VS
def langZ (fz : List Nat) : Lang := { tab.lang with frz := fun d => fz.elem d }
def knowZ (fz : List Nat) (l : List (Nat × Con)) : Know := { know l [] [] fz with G := langZ fz }
theorem zQU (fz : List Nat) : LangOK Tryz.prog (langZ fz) := by
  have h := tabOK.lang
  exact ⟨h.info, h.agg, h.int, h.byte, h.bool, h.str, h.sl, h.plain, fun t f n off e => ⟨(h.fld t f n off e).ok⟩, h.fldO, h.fldT, h.pair, h.ones, h.fplain, h.mixed, h.fnT, h.ptrT, h.ifT, h.conc, h.uint, h.ob, h.mp, h.line⟩
theorem zQS {fz : List Nat} {l : List (Nat × Con)} (h1 : ∀ p ∈ l, FnSpec Tryz.prog p.1 p.2) : KnowOK Tryz.prog (knowZ fz l) := by
  have h := zAm (l := l) (k := []) (r := []) (own := fz) h1 all_nil all_nil
  exact ⟨zQU fz, h.con, h.clo, h.self⟩
section
variable (fz : List Nat) (l : List (Nat × Con)) (t f : Nat)
@[push_cast] theorem zTZ : (knowZ fz l).G = langZ fz := rfl
@[push_cast] theorem zT2 : (knowZ fz l).T f = lk none (l.map fun p => (p.1, some p.2)) f := rfl
@[push_cast] theorem zT0 : (knowZ fz l).K f = none := rfl
@[push_cast] theorem zT1 : (knowZ fz l).R f = none := rfl
@[push_cast] theorem zTy : (knowZ fz l).own = fz := rfl
@[push_cast] theorem zTY : (langZ fz).sh t = tab.lang.sh t := rfl
@[push_cast] theorem zTW : (langZ fz).el t = tab.lang.el t := rfl
@[push_cast] theorem zSp : (langZ fz).plain t = tab.lang.plain t := rfl
@[push_cast] theorem zTD : (langZ fz).fld t f = tab.lang.fld t f := rfl
@[push_cast] theorem zS0 : (langZ fz).ones t = tab.lang.ones t := rfl
@[push_cast] theorem zRS : (langZ fz).fplain t f = tab.lang.fplain t f := rfl
@[push_cast] theorem zTE : (langZ fz).fnT t = tab.lang.fnT t := rfl
@[push_cast] theorem zS1 : (langZ fz).ptrT t = tab.lang.ptrT t := rfl
@[push_cast] theorem zTX : (langZ fz).ob t = tab.lang.ob t := rfl
@[push_cast] theorem zTF : (langZ fz).frz t = fz.elem t := rfl
end
section
variable {C : Ctx} {γ : Gam} {s : AS} {a : Act} {w : World}
theorem zQ6 (h : Rel C γ s a w) {b off : Nat} {bs : List BV} (d : Nat) (e : TypeId) {sh : Sh} (hf : sh.flat = true) (hb : s.boxes b = some (.rcd bs)) (hi : bs[off]? = some .nils) : Rel C γ (s.setBox b (.rcd (bs.set off (.mk d e sh [])))) a w := by
  obtain ⟨cs, t, d1, d2, d3, d4, d5⟩ := h.boxes b _ hb
  obtain ⟨v, hv, hvr⟩ := zDL bs cs.toList off _ d2 hi
  simp only [bvRep] at hvr
  subst hvr
  refine h.rebox ⟨cs, t, d1, ?_, d3, d4, d5⟩
  have := zB6 _ _ off (.mk d e sh []) _ d2 ⟨hf, World.ownsRow_nil _ _ _ _, fun k hk => by simp [Value.ownBlock] at hk⟩
  rw [zGv _ _ _ hv] at this
  exact this
theorem zRD {N : Nat} {Q : Exit → AS → Prop} {c : Code} (d b off : Nat) (e : TypeId) {sh : Sh} {bs : List BV} (hf : sh.flat = true) (hb : s.boxes b = some (.rcd bs)) (hi : bs[off]? = some .nils) (h : tri C N c Q (s.setBox b (.rcd (bs.set off (.mk d e sh []))))) : tri C N c Q s :=
  ⟨fun γ a w hR hN => h.run γ a w (zQ6 hR d e hf hb hi) hN⟩
end
def newS (c : List (List Int)) : State := (c, List.replicate c.length (0 : Int), List.replicate (c.getD 0 []).length (0 : Int), (0 : Int))
def newH (c : List (List Int)) : HX := mkH c (newS c) [] ByteArray.empty
@[push_cast] def zRV : Con := ⟨[.sdat (.sl (.sl .int))], fun _ => True, fun (x : List (List Int) × Unit) => if zBj x.1 = 0 then { res := [.obj ⟨hFs, newH x.1⟩, .val .int 0] } else { res := [.raw (.pointer none), .val .int (zBj x.1)] }⟩
theorem zLh {c : List (List Int)} (h : InTab 0 99 c) : HOK (newS c) := by
  refine ⟨h, List.length_replicate .., List.length_replicate .., fun i hi => ?_, fun i hi => ?_⟩
  · rw [show (newS c).2.1.getD i 0 = 0 from ?_]; · omega
    simp only [newS, List.getD_eq_getElem?_getD, List.getElem?_replicate]
    split <;> rfl
  · rw [show (newS c).2.2.1.getD i 0 = 0 from ?_]; · omega
    simp only [newS, List.getD_eq_getElem?_getD, List.getElem?_replicate]
    split <;> rfl
theorem zQ4 {c : List (List Int)} (h : InTab 0 99 c) : HInv (newH c) := ⟨zLh h, Nat.zero_le _, Nat.zero_le _⟩
set_option maxHeartbeats 8000000 in
theorem zQ5 : FnSpec Tryz.prog 30 zRV := by
  refine FnSpec.of_tri' (E := knowZ [14, 19] [(73, zDP), (74, zDi)]) (zQS (all_cons zEm (all_cons stClone_spec all_nil))) Tryz.func30 rfl rfl (by kernel_rfl) ?_
  intro C x hE hnl hfit hpre
  simp only [Tryz.ntmps30, Tryz.results30, maxLen, Nat.reduceSub, Nat.reducePow, Nat.reduceAdd, Int.cast_ofNat_Int, push_cast] at hnl hfit hpre ⊢
  obtain ⟨(c : List (List Int)), _⟩ := x
  dsimp only at hfit hpre ⊢
  by_cases he : zBj c = 0
  rotate_left
  · replace hnl := And.intro hnl (eq_false he)
    exact auA
  have hin := zFx he
  have hr := hin.rows
  have hcl : 1 ≤ (c.getD 0 []).length ∧ (c.getD 0 []).length ≤ 5 := hin.cols
  have hnl0 := hnl
  replace hnl := And.intro hnl he
  refine zAd fun K hK0 => ?_
  have hS := Stop.mk hK0
  clear hK0
  repeat' (first|(refine goK (by assumption) ?_; iterate 4 (try clear hK K))|(refine zAd fun K hK => ?_)|((first|refine zAb hE rfl ?_|refine zAh ?_); simp +contextual only [hnl, ↓kN, ↓kP, ↓kG, ↓qN, ↓qP, ↓qG, push_cast, seval, reduceCtorEq, Int.cast_ofNat_Int])|refine zAc ?_|((first|refine zAg ?_|refine zAf ?_); simp only [thenQ, zAk, if_true, if_false, Nat.reduceEqDiff, reduceCtorEq])|(refine zAe (by rfl) (fun hb => ?_) (fun hb => ?_) <;> (try simp only [b1, b2, b3, b4, reduceCtorEq, b5, b6] at hb) <;> (try omega))|refine zAi (by rfl) ?_ ?_|refine andS ?_|(refine ⟨fun hc => ?_, fun hc => ?_⟩)|(intro hc; try omega))
  refine hS.h _ ?_
  clear hS K
  refine zAd fun K hK0 => ?_
  have hS := Stop.mk hK0
  clear hK0
  repeat' (first|(refine goK (by assumption) ?_; iterate 4 (try clear hK K))|(refine zAd fun K hK => ?_)|((first|refine zAb hE rfl ?_|refine zAh ?_); simp +contextual only [hnl, ↓kN, ↓kP, ↓kG, ↓qN, ↓qP, ↓qG, push_cast, seval, reduceCtorEq, Int.cast_ofNat_Int])|refine zAc ?_|((first|refine zAg ?_|refine zAf ?_); simp only [thenQ, zAk, if_true, if_false, Nat.reduceEqDiff, reduceCtorEq])|(refine zAe (by rfl) (fun hb => ?_) (fun hb => ?_) <;> (try simp only [b1, b2, b3, b4, reduceCtorEq, b5, b6] at hb) <;> (try omega))|refine zAi (by rfl) ?_ ?_|refine andS ?_|(refine ⟨fun hc => ?_, fun hc => ?_⟩)|(intro hc; try omega))
  refine hS.h _ ?_
  clear hS K
  refine zAK (t := AS.of [(0, .one (.val (.sl (.sl .int)) c))] [] []) ?_ ?_
  · refine zAj ?_ ?_ ?_ <;> simp only [push_cast, seval, reduceCtorEq, Int.cast_ofNat_Int]
  have hszA : StateSz (c, List.replicate c.length (0 : Int), List.replicate (c.getD 0 []).length (0 : Int), (0 : Int)) := (zLh hin).sz
  replace hnl := And.intro hnl (eq_true hszA)
  refine zAd fun K hK => ?_
  refine zEW hE (fun D s => (D 12 = true → D 11 = true) ∧
    s.env 0 = .one (.val (.sl (.sl .int)) c) ∧
    (D 0 = true → s.env 11 = .one (.val (.sl (.sl .int)) c)) ∧
    (D 1 = true → s.env 12 = .one (.val (.sl (.sl .int)) c)) ∧
    (D 2 = true → s.env 13 = .I (c.length : Nat)) ∧
    (D 3 = true → s.env 14 = .one (.val (.sl .int) (List.replicate c.length (0 : Int)))) ∧
    (D 4 = true → s.env 15 = .one (.val (.sl (.sl .int)) c)) ∧
    (D 5 = true → s.env 16 = .one (.padr (.sl .int) (c.getD 0 []))) ∧
    (D 6 = true → s.env 17 = .one (.val (.sl .int) (c.getD 0 []))) ∧
    (D 7 = true → s.env 18 = .I ((c.getD 0 []).length : Nat)) ∧
    (D 8 = true → s.env 19 = .one (.val (.sl .int) (List.replicate (c.getD 0 []).length (0 : Int)))) ∧
    (D 9 = true → s.env 20 = .one (.val stSh (c, List.replicate c.length (0 : Int), List.replicate (c.getD 0 []).length (0 : Int), (0 : Int)))) ∧
    (D 10 = true → s.env 21 = .one (.val stSh (c, List.replicate c.length (0 : Int), List.replicate (c.getD 0 []).length (0 : Int), (0 : Int)))) ∧
    (D 11 = true → s.env 5 = .one (.box 5)) ∧
    (D 11 = true → D 12 = false → s.boxes 5 = some (.rcd [.nils, .nils, .nils, .val .int 0])) ∧
    (D 12 = true → s.boxes 5 = some (.one (.val stSh (c, List.replicate c.length (0 : Int), List.replicate (c.getD 0 []).length (0 : Int), (0 : Int)))))) rfl (by kernel_rfl) ?_ ?_ ?_
  · dsimp only
    simp only [push_cast, seval, reduceCtorEq, Int.cast_ofNat_Int]
  · refine ⟨fun D s h0 hp hI => ?_, fun D s h0 hp hI => ?_, fun D s h0 hp hI => ?_, fun D s h0 hp hI => ?_, fun D s h0 hp hI => ?_, fun D s h0 hp hI => ?_, fun D s h0 hp hI => ?_, fun D s h0 hp hI => ?_, fun D s h0 hp hI => ?_, fun D s h0 hp hI => ?_, fun D s h0 hp hI => ?_, fun D s h0 hp hI => ?_, fun D s h0 hp hI => ?_, trivial⟩
    all_goals obtain ⟨o1, e0, f0, f1, f2, f3, f4, f5, f6, f7, f8, f9, f10, f11, g11, f12⟩ := hI
    all_goals replace hp := List.all_eq_true.1 hp
    · simp +contextual only [hnl, h0, o1, e0, f0, f1, f2, f3, f4, f5, f6, f7, f8, f9, f10, f11, g11, f12, setD, ↓kN, ↓kP, push_cast, seval, reduceCtorEq, Int.cast_ofNat_Int]
    · simp +contextual only [hnl, h0, o1, e0, f0, f1, f2, f3, f4, f5, f6, f7, f8, f9, f10, f11, g11, f12, setD, ↓kN, ↓kP, push_cast, seval, reduceCtorEq, Int.cast_ofNat_Int]
    · have d1 := hp 1 (by decide)
      simp +contextual only [d1, hnl, h0, o1, e0, f0, f1, f2, f3, f4, f5, f6, f7, f8, f9, f10, f11, g11, f12, setD, ↓kN, ↓kP, push_cast, seval, reduceCtorEq, Int.cast_ofNat_Int]
    · have d2 := hp 2 (by decide)
      simp +contextual only [d2, hnl, h0, o1, e0, f0, f1, f2, f3, f4, f5, f6, f7, f8, f9, f10, f11, g11, f12, setD, ↓kN, ↓kP, push_cast, seval, reduceCtorEq, Int.cast_ofNat_Int]
      omega
    · simp +contextual only [hnl, h0, o1, e0, f0, f1, f2, f3, f4, f5, f6, f7, f8, f9, f10, f11, g11, f12, setD, ↓kN, ↓kP, push_cast, seval, reduceCtorEq, Int.cast_ofNat_Int]
    · have d4 := hp 4 (by decide)
      simp +contextual only [d4, hnl, h0, o1, e0, f0, f1, f2, f3, f4, f5, f6, f7, f8, f9, f10, f11, g11, f12, setD, ↓kN, ↓kP, push_cast, seval, reduceCtorEq, Int.cast_ofNat_Int]
      omega
    · have d5 := hp 5 (by decide)
      simp +contextual only [d5, hnl, h0, o1, e0, f0, f1, f2, f3, f4, f5, f6, f7, f8, f9, f10, f11, g11, f12, setD, ↓kN, ↓kP, push_cast, seval, reduceCtorEq, Int.cast_ofNat_Int]
    · have d6 := hp 6 (by decide)
      simp +contextual only [d6, hnl, h0, o1, e0, f0, f1, f2, f3, f4, f5, f6, f7, f8, f9, f10, f11, g11, f12, setD, ↓kN, ↓kP, push_cast, seval, reduceCtorEq, Int.cast_ofNat_Int]
    · have d7 := hp 7 (by decide)
      simp +contextual only [d7, hnl, h0, o1, e0, f0, f1, f2, f3, f4, f5, f6, f7, f8, f9, f10, f11, g11, f12, setD, ↓kN, ↓kP, push_cast, seval, reduceCtorEq, Int.cast_ofNat_Int]
      omega
    · have d0 := hp 0 (by decide)
      have d3 := hp 3 (by decide)
      have d8 := hp 8 (by decide)
      simp +contextual only [d0, d3, d8, hnl, h0, o1, e0, f0, f1, f2, f3, f4, f5, f6, f7, f8, f9, f10, f11, g11, f12, setD, ↓kN, ↓kP, push_cast, seval, reduceCtorEq, Int.cast_ofNat_Int]
    · have d9 := hp 9 (by decide)
      simp +contextual only [d9, hnl, h0, o1, e0, f0, f1, f2, f3, f4, f5, f6, f7, f8, f9, f10, f11, g11, f12, setD, ↓kN, ↓kP, push_cast, seval, reduceCtorEq, Int.cast_ofNat_Int]
    · have n12 := zBw o1 h0
      simp +contextual only [n12, hnl, h0, o1, e0, f0, f1, f2, f3, f4, f5, f6, f7, f8, f9, f10, f11, g11, f12, setD, ↓kN, ↓kP, push_cast, seval, reduceCtorEq, Int.cast_ofNat_Int]
    · have d10 := hp 10 (by decide)
      have d11 := hp 11 (by decide)
      simp +contextual only [d10, d11, hnl, h0, o1, e0, f0, f1, f2, f3, f4, f5, f6, f7, f8, f9, f10, f11, g11, f12, setD, ↓kN, ↓kP, push_cast, seval, reduceCtorEq, Int.cast_ofNat_Int]
  intro D s hD hI
  obtain ⟨o1, e0, f0, f1, f2, f3, f4, f5, f6, f7, f8, f9, f10, f11, g11, f12⟩ := hI
  have v1 := f11 (hD 11 (by decide))
  have v2 := f12 (hD 12 (by decide))
  refine hK _ ?_
  refine zAK (t := AS.of [(5, .one (.box 5))] [] [(5, .one (.val stSh (c, List.replicate c.length (0 : Int), List.replicate (c.getD 0 []).length (0 : Int), (0 : Int))))]) ?_ ?_
  · refine zAj ?_ ?_ ?_ <;> simp only [v1, v2, push_cast, seval, reduceCtorEq, Int.cast_ofNat_Int]
    all_goals first | exact ⟨_, rfl⟩ | skip
  clear hK hD f0 f1 f2 f3 f4 f5 f6 f7 f8 f9 f10 f11 g11 f12 v1 v2 e0 o1 s D
  have hsz : StateSz (newS c) := (zLh hin).sz
  have hsz2 : StateSz (c, List.replicate c.length (0 : Int), List.replicate (c.getD 0 []).length (0 : Int), (0 : Int)) := hsz
  have eN : newH c = ((), (), c, c, List.replicate c.length (0 : Int), List.replicate (c.getD 0 []).length (0 : Int), (0 : Int), [], ByteArray.empty, ()) := rfl
  generalize List.replicate c.length (0 : Int) = a at hsz2 eN ⊢
  generalize List.replicate (c.getD 0 []).length (0 : Int) = b at hsz2 eN ⊢
  replace hnl := And.intro hnl0 (And.intro he (eq_true hsz2))
  refine zAd fun K hK => ?_
  refine zEW hE (fun D s => (D 6 = true → D 5 = true) ∧
    s.env 5 = .one (.box 5) ∧
    s.boxes 5 = some (.one (.val stSh (c, a, b, (0 : Int)))) ∧
    (D 0 = true → s.env 22 = .one (.val stSh (c, a, b, (0 : Int)))) ∧
    (D 1 = true → s.env 23 = .one (.val stSh (c, a, b, (0 : Int)))) ∧
    (D 2 = true → s.env 24 = .one (.val (.sl (.sl .int)) c)) ∧
    (D 3 = true → s.env 25 = .one (.val stSh (c, a, b, (0 : Int)))) ∧
    (D 4 = true → s.env 26 = .rcd [.raw (.int .i32 0), .raw (.int .u32 0), .val (.sl (.sl .int)) c, .val (.sl (.sl .int)) c, .val (.sl .int) a, .val (.sl .int) b, .val .int (0 : Int), .nils, .val .str ByteArray.empty]) ∧
    (D 5 = true → s.env 27 = .one (.box 27)) ∧
    (D 5 = true → s.boxes 27 = some (.rcd [.raw (.int .i32 0), .raw (.int .u32 0), .val (.sl (.sl .int)) c, .val (.sl (.sl .int)) c, .val (.sl .int) a, .val (.sl .int) b, .val .int (0 : Int), .nils, .val .str ByteArray.empty])) ∧
    (D 6 = true → s.env 2 = .one (.box 27)) ∧
    (D 7 = true → s.env 3 = .one (.val .int 0))) rfl (by kernel_rfl) ?_ ?_ ?_
  · dsimp only
    simp only [push_cast, seval, reduceCtorEq, Int.cast_ofNat_Int]
  · refine ⟨fun D s h0 hp hI => ?_, fun D s h0 hp hI => ?_, fun D s h0 hp hI => ?_, fun D s h0 hp hI => ?_, fun D s h0 hp hI => ?_, fun D s h0 hp hI => ?_, fun D s h0 hp hI => ?_, fun D s h0 hp hI => ?_, trivial⟩
    all_goals obtain ⟨o1, e5, b5, f0, f1, f2, f3, f4, f5, g5, f6, f7⟩ := hI
    all_goals replace hp := List.all_eq_true.1 hp
    · simp +contextual only [hnl, h0, o1, e5, b5, f0, f1, f2, f3, f4, f5, g5, f6, f7, setD, ↓kN, ↓kP, push_cast, seval, reduceCtorEq, Int.cast_ofNat_Int]
    · have d0 := hp 0 (by decide)
      simp +contextual only [d0, hnl, h0, o1, e5, b5, f0, f1, f2, f3, f4, f5, g5, f6, f7, setD, ↓kN, ↓kP, push_cast, seval, reduceCtorEq, Int.cast_ofNat_Int]
    · have d1 := hp 1 (by decide)
      simp +contextual only [d1, hnl, h0, o1, e5, b5, f0, f1, f2, f3, f4, f5, g5, f6, f7, setD, ↓kN, ↓kP, push_cast, seval, reduceCtorEq, Int.cast_ofNat_Int]
    · simp +contextual only [hnl, h0, o1, e5, b5, f0, f1, f2, f3, f4, f5, g5, f6, f7, setD, ↓kN, ↓kP, push_cast, seval, reduceCtorEq, Int.cast_ofNat_Int]
    · have d2 := hp 2 (by decide)
      have d3 := hp 3 (by decide)
      simp +contextual only [d2, d3, hnl, h0, o1, e5, b5, f0, f1, f2, f3, f4, f5, g5, f6, f7, setD, ↓kN, ↓kP, push_cast, seval, reduceCtorEq, Int.cast_ofNat_Int]
    · have d4 := hp 4 (by decide)
      have n6 := zBw o1 h0
      simp +contextual only [d4, n6, hnl, h0, o1, e5, b5, f0, f1, f2, f3, f4, f5, g5, f6, f7, setD, ↓kN, ↓kP, push_cast, seval, reduceCtorEq, Int.cast_ofNat_Int]
    · have d5 := hp 5 (by decide)
      simp +contextual only [d5, hnl, h0, o1, e5, b5, f0, f1, f2, f3, f4, f5, g5, f6, f7, setD, ↓kN, ↓kP, push_cast, seval, reduceCtorEq, Int.cast_ofNat_Int]
    · simp +contextual only [hnl, h0, o1, e5, b5, f0, f1, f2, f3, f4, f5, g5, f6, f7, setD, ↓kN, ↓kP, push_cast, seval, reduceCtorEq, Int.cast_ofNat_Int]
  intro D s hD hI
  obtain ⟨o1, e5, b5, f0, f1, f2, f3, f4, f5, g5, f6, f7⟩ := hI
  have v1 := g5 (hD 5 (by decide))
  have v2 := f6 (hD 6 (by decide))
  have v3 := f7 (hD 7 (by decide))
  refine hK _ ?_
  refine zAK (t := AS.of [(2, .one (.box 27)), (3, .one (.val .int 0))] [] [(27, .rcd [.raw (.int .i32 0), .raw (.int .u32 0), .val (.sl (.sl .int)) c, .val (.sl (.sl .int)) c, .val (.sl .int) a, .val (.sl .int) b, .val .int (0 : Int), .nils, .val .str ByteArray.empty])]) ?_ ?_
  · refine zAj ?_ ?_ ?_ <;> simp only [v1, v2, v3, push_cast, seval, reduceCtorEq, Int.cast_ofNat_Int]
    all_goals first | exact ⟨_, rfl⟩ | skip
  refine zRD 27 27 7 9 (sh := .str) rfl rfl rfl ?_
  refine zAK (t := AS.of [(2, .one (.box 27)), (3, .one (.val .int 0))] [] [(27, .rcd [.raw (.int .i32 0), .raw (.int .u32 0), .val (.sl (.sl .int)) c, .val (.sl (.sl .int)) c, .val (.sl .int) a, .val (.sl .int) b, .val .int (0 : Int), .mk 27 9 .str [], .val .str ByteArray.empty])]) ?_ ?_
  · refine zAj ?_ ?_ ?_ <;> simp only [push_cast, seval, reduceCtorEq, Int.cast_ofNat_Int]
  refine zAh ?_
  simp only [hnl, eN, push_cast, seval, reduceCtorEq, Int.cast_ofNat_Int]
end Go.Proofs.YtlgkplnifaoeeaaGreatDoor
namespace Go.Proofs.YtlgkplnifaoeeaaGreatDoor
open Go.RowKit Go.VS
@[push_cast] def zJD : Con := ⟨[.obj hFs], fun (x : HX × Unit) => StateSz (hSt x.1), fun (x : HX × Unit) => { res := [.val .int (lst (hSt x.1))], objs := [(0, ⟨hFs, x.1⟩)] }⟩
theorem zLe : FnSpec Tryz.prog 45 zJD := by
  refine FnSpec.of_tri' (E := know [(82, zMt), (81, zCO)] [] [] []) (zAm (all_cons zNv (all_cons zEP all_nil)) all_nil all_nil) Tryz.func45 rfl rfl (by kernel_rfl) ?_
  intro C x hE hnl hfit hpre
  simp only [Tryz.ntmps45, Tryz.results45, maxLen, Nat.reduceSub, Nat.reducePow, Nat.reduceAdd, Int.cast_ofNat_Int, push_cast] at hnl hfit hpre ⊢
  obtain ⟨⟨⟨⟩, ⟨⟩, (f : List (List Int)), (c : List (List Int)), (a : List Int), (b : List Int), (w : Int), (ord : List ByteArray), (bk : ByteArray), ⟨⟩⟩, _⟩ := x
  dsimp only at hfit hpre ⊢
  have hsz : StateSz (c, a, b, w) := hpre
  replace hnl := And.intro hnl (eq_true hsz)
  simp only [hSt, hBk, lst, push_cast] at hnl ⊢
  repeat' (first|(refine goK (by assumption) ?_; iterate 4 (try clear hK K))|(refine zAd fun K hK => ?_)|((first|refine zAb hE rfl ?_|refine zAh ?_); simp +contextual only [hnl, ↓kN, ↓kP, ↓kG, ↓qN, ↓qP, ↓qG, push_cast, seval, reduceCtorEq, Int.cast_ofNat_Int])|refine zAc ?_|((first|refine zAg ?_|refine zAf ?_); simp only [thenQ, zAk, if_true, if_false, Nat.reduceEqDiff, reduceCtorEq])|(refine zAe (by rfl) (fun hb => ?_) (fun hb => ?_) <;> (try simp only [b1, b2, b3, b4, reduceCtorEq, b5, b6] at hb) <;> (try omega))|refine zAi (by rfl) ?_ ?_|refine andS ?_|(refine ⟨fun hc => ?_, fun hc => ?_⟩)|(intro hc; try omega))
  all_goals rfl
end Go.Proofs.YtlgkplnifaoeeaaGreatDoor
namespace Go.Proofs.YtlgkplnifaoeeaaGreatDoor
open Go.RowKit Go.VS
theorem zL1 {l : List Int} {i n y : Int} (h : chgE l i n y = 0) (hi : 0 ≤ i) (hl : ∀ k, k < l.length → 0 ≤ l.getD k 0 ∧ l.getD k 0 ≤ 30) :
    (chgL l i n y).length = l.length ∧ ∀ k, k < (chgL l i n y).length → 0 ≤ (chgL l i n y).getD k 0 ∧ (chgL l i n y).getD k 0 ≤ 30 := by
  have e : chgL l i n y = l.set i.toNat (l.getD i.toNat 0 + y) := if_pos h
  rw [e]
  unfold chgE at h
  split at h
  · omega
  split at h
  · omega
  split at h
  · omega
  split at h
  · omega
  rename_i h1 h2 h3 h4
  refine ⟨List.length_set .., fun k hk => ?_⟩
  rw [List.length_set] at hk
  rw [List.getD_eq_getElem?_getD, List.getElem?_set]
  by_cases hik : i.toNat = k
  · rw [if_pos hik, if_pos (by omega), Option.getD_some]; omega
  · rw [if_neg hik, ← List.getD_eq_getElem?_getD]; exact hl k hk
theorem zSR {c : List (List Int)} {i : Nat} {r : List Int} (hr : r.length = (c.getD i []).length) : wid (c.set i r) = wid c := by
  unfold wid
  rw [List.getD_eq_getElem?_getD, List.getElem?_set]
  by_cases h0 : i = 0
  · subst h0
    rw [if_pos rfl]
    by_cases hc : 0 < c.length
    · rw [if_pos hc, Option.getD_some, hr]
    · have : c = [] := by cases c with | nil => rfl | cons x l => simp at hc
      subst this
      rfl
  · rw [if_neg h0, ← List.getD_eq_getElem?_getD]
theorem zTg {k : Nat} {l : List Int} {s : State} (h : DoPre k l s) (h0 : (doV k l s).1 = 0) : HOK (doV k l s).2 := by
  obtain ⟨c, a, b, w⟩ := s
  obtain ⟨hk, hl, hn, ht, hla, hlb, ha, hb⟩ := h
  dsimp only at *
  have hl1 : 1 ≤ l.length := by
    rw [hl]
    repeat' split
    all_goals omega
  have n0 := hn 0 (by omega)
  obtain rfl | rfl | rfl | rfl | rfl | rfl | rfl : k = 0 ∨ k = 1 ∨ k = 2 ∨ k = 3 ∨ k = 4 ∨ k = 5 ∨ k = 6 := by omega
  · obtain ⟨q1, q2⟩ := zL1 (show chgE a (l.getD 0 0) (l.getD 1 0) (l.getD 1 0) = 0 from h0) n0.1 ha
    exact ⟨ht, q1.trans hla, hlb, q2, hb⟩
  · obtain ⟨q1, q2⟩ := zL1 (show chgE a (l.getD 0 0) (l.getD 1 0) (-(l.getD 1 0)) = 0 from h0) n0.1 ha
    exact ⟨ht, q1.trans hla, hlb, q2, hb⟩
  · obtain ⟨q1, q2⟩ := zL1 (show chgE b (l.getD 0 0) (l.getD 1 0) (l.getD 1 0) = 0 from h0) n0.1 hb
    exact ⟨ht, hla, q1.trans hlb, ha, q2⟩
  · obtain ⟨q1, q2⟩ := zL1 (show chgE b (l.getD 0 0) (l.getD 1 0) (-(l.getD 1 0)) = 0 from h0) n0.1 hb
    exact ⟨ht, hla, q1.trans hlb, ha, q2⟩
  · have hl' : l.length = 3 := hl
    have n1 := hn 1 (by omega)
    have n2 := hn 2 (by omega)
    rw [doV4] at h0 ⊢
    split at h0
    · simp at h0
    rename_i h1
    split at h0
    · simp at h0
    rename_i h2
    rw [if_neg h1, if_neg h2]
    have hi : (l.getD 0 0).toNat < c.length := by omega
    have hlr := ht.len hi
    have hsl : ((c.getD (l.getD 0 0).toNat []).set (l.getD 1 0).toNat (l.getD 2 0)).length = (c.getD (l.getD 0 0).toNat []).length := List.length_set ..
    have hw := zSR (c := c) (i := (l.getD 0 0).toNat) hsl
    refine ⟨zIz (by rw [List.length_set]; exact ht.rows) (by rw [hw]; exact ht.cols) fun i hi' => ?_, by dsimp only; rw [List.length_set]; exact hla, by dsimp only; rw [hw]; exact hlb, ha, hb⟩
    dsimp only at hi' ⊢
    rw [List.length_set] at hi'
    rw [hw, List.getD_eq_getElem?_getD, List.getElem?_set]
    by_cases hii : (l.getD 0 0).toNat = i
    · rw [if_pos hii, if_pos hi, Option.getD_some]
      refine ⟨by rw [hsl, hlr], fun j hj => ?_⟩
      rw [List.getD_eq_getElem?_getD, List.getElem?_set]
      by_cases hjj : (l.getD 1 0).toNat = j
      · rw [if_pos hjj, if_pos (by omega), Option.getD_some]; omega
      · rw [if_neg hjj, ← List.getD_eq_getElem?_getD]; exact ht.at hi hj
    · rw [if_neg hii, ← List.getD_eq_getElem?_getD]
      exact ⟨ht.len hi', fun j hj => ht.at hi' hj⟩
  · rw [doV5] at h0 ⊢
    split at h0
    · simp at h0
    rename_i h1
    rw [if_neg h1]
    exact ⟨ht, hla, hlb, ha, hb⟩
  · rw [doV6] at h0 ⊢
    split at h0
    · rename_i h1
      rw [if_pos h1]
      exact ⟨ht, hla, hlb, ha, hb⟩
    · simp at h0
theorem zKA {bk : ByteArray} {least : Int} {t : ByteArray} (h1 : 0 ≤ least ∧ least ≤ 999999) (h2 : t.size ≤ 30) : (zC9 bk least t).size ≤ bk.size + 100 := by
  have hb1 : InR least := by unfold InR; omega
  have q1 := zEg hb1
  have q4 : (textV least t).size = (itoaV least).size + 1 + t.size := by unfold textV; rw [zBt, zBt]; rfl
  have q5 := zCG (lastV bk) (textV least t) (textV least t).size
  have q6 : InR (sumV (lastV bk) (textV least t)) := by unfold InR sumV; omega
  have q7 := zEg q6
  have q8 : (zC9 bk least t).size = bk.size + (itoaV (sumV (lastV bk) (textV least t))).size + 1 + (textV least t).size + 1 := by
    unfold zC9
    rw [zBt, zBt, zBt, zBt]
    rfl
  omega
theorem zSd {x : HX} (h : HInv x) (t : ByteArray) : HInv (doX x t) := by
  unfold doX
  split
  · rename_i h0
    unfold doE at h0
    split at h0
    · rename_i hok
      split at h0
      · omega
      rename_i h60
      have hdp := zRN hok h.st
      have ho := h.ord
      have hb := h.bk
      have hsz : t.size ≤ 30 := (zCZ.1 hok).1.1.2
      refine ⟨zTg hdp h0, ?_, ?_⟩
      · show (hOrd x ++ [t]).length ≤ 60
        rw [List.length_append]; simp; omega
      · show (zC9 (hBk x) (lst (doS x t)) t).size ≤ 100 * (hOrd x ++ [t]).length
        have := zKA (bk := hBk x) (least := lst (doS x t)) (t := t) (zJH _ _ _ _) hsz
        rw [List.length_append]; simp; omega
    · omega
  · exact h
end Go.Proofs.YtlgkplnifaoeeaaGreatDoor
namespace Go.Proofs.YtlgkplnifaoeeaaGreatDoor
open Go.RowKit Go.VS
def knL : List ByteArray := [⟨#[112, 117, 116, 32, 48, 32, 50]⟩, ⟨#[119, 97, 110, 116, 32, 48, 32, 49]⟩, ⟨#[119, 97, 115, 116, 101, 32, 50]⟩, ⟨#[119, 97, 115, 116, 101, 32, 51]⟩, ⟨#[99, 108, 97, 105, 109, 32, 56]⟩, ⟨#[116, 97, 107, 101, 32, 48, 32, 51]⟩]
def knW : List Int := [0, 0, 0, 0, 0, 9]
def knX : Nat → HX
  | 0 => newH [[5]]
  | i + 1 => doX (knX i) (knL.getD i ByteArray.empty)
theorem zO9 : ∀ i, HInv (knX i)
  | 0 => zQ4 (by decide)
  | i + 1 => zSd (zO9 i) _
theorem zTw : ∀ i, i < 6 → doE (knX i) (knL.getD i ByteArray.empty) = knW.getD i 0 := by decide +kernel
theorem zPa : lst (hSt (knX 6)) = 8 := by decide +kernel
theorem zMq : zBk [0, 1, 1, 0] [[1, 1], [0, 2]] = 0 ∧ zCQ [0, 1, 1, 0] [[1, 1], [0, 2]] = [0, 1, 1, 1] := by decide +kernel
theorem zTx : sumV 0 ⟨#[97]⟩ = 98 := by decide +kernel
@[push_cast] def zDU : Con := ⟨[], fun _ => True, fun _ => { res := [.val .bool true] }⟩
set_option maxHeartbeats 8000000 in
theorem zDw : FnSpec Tryz.prog 18 zDU := by
  refine FnSpec.of_tri' (E := know [(30, zRV), (31, zRM), (25, zFg), (45, zJD), (23, zIX), (19, zFO)] [] [] []) (zAm (all_cons zQ5 (all_cons zQB (all_cons zHQ (all_cons zLe (all_cons zFH (all_cons zFB all_nil)))))) all_nil all_nil) Tryz.func18 rfl rfl (by kernel_rfl) ?_
  intro C x hE hnl hfit hpre
  simp only [Tryz.ntmps18, Tryz.results18, maxLen, Nat.reduceSub, Nat.reducePow, Nat.reduceAdd, Int.cast_ofNat_Int, push_cast] at hnl hfit hpre ⊢
  have he : zBj [[5]] = 0 := by decide
  have hnl0 := hnl
  replace hnl := And.intro hnl he
  repeat' (first|(refine goK (by assumption) ?_; iterate 4 (try clear hK K))|(refine zAd fun K hK => ?_)|((first|refine zAb hE rfl ?_|refine zAh ?_); simp +contextual only [hnl, ↓kN, ↓kP, ↓kG, ↓qN, ↓qP, ↓qG, push_cast, seval, reduceCtorEq, Int.cast_ofNat_Int])|refine zAc ?_|((first|refine zAg ?_|refine zAf ?_); simp only [thenQ, zAk, if_true, if_false, Nat.reduceEqDiff, reduceCtorEq])|(refine zAe (by rfl) (fun hb => ?_) (fun hb => ?_) <;> (try simp only [b1, b2, b3, b4, reduceCtorEq, b5, b6] at hb) <;> (try omega))|refine zAi (by rfl) ?_ ?_|refine andS ?_|(refine ⟨fun hc => ?_, fun hc => ?_⟩)|(intro hc; try omega))
  have hp1 := zMq.1
  have hp2 := zMq.2
  have hp3 := zTx
  refine zAl (fun (x : Nat × HX) => AS.of [(1, .one (.box 11)), (3, .one (.val (.sl .str) knL)), (4, .one (.val (.sl .int) knW)), (5, .I x.1)] [] [(11, (.rcd [.raw (.int .i32 0), .raw (.int .u32 0), .val (.sl (.sl .int)) x.2.2.2.1, .val (.sl (.sl .int)) x.2.2.2.2.1, .val (.sl .int) x.2.2.2.2.2.1, .val (.sl .int) x.2.2.2.2.2.2.1, .val .int x.2.2.2.2.2.2.2.1, .mk 11 9 .str x.2.2.2.2.2.2.2.2.1, .val .str x.2.2.2.2.2.2.2.2.2.1]))]) (fun x => x.1 ≤ 6 ∧ x.2 = knX x.1) (fun x => 6 - x.1) (0, newH [[5]]) ⟨by omega, rfl⟩ ?_ ?_
  · refine zAj ?_ ?_ ?_ <;> simp only [push_cast, seval, reduceCtorEq, Int.cast_ofNat_Int]
    exact ⟨rfl, rfl⟩
  rintro ⟨i, x⟩ ⟨h6, hx⟩ K' hL
  replace hx : x = knX i := hx
  replace h6 : i ≤ 6 := h6
  have hI : HInv x := by rw [hx]; exact zO9 _
  have hl1 : knL.length = 6 := rfl
  have hl2 : knW.length = 6 := rfl
  by_cases hi : i < 6
  · have hdo : doE x (knL.getD i ByteArray.empty) = knW.getD i 0 := by rw [hx]; exact zTw i hi
    have hnx : doX x (knL.getD i ByteArray.empty) = knX (i + 1) := by rw [hx]; rfl
    replace hnl := And.intro hnl0 (And.intro (eq_true hI) (And.intro hdo hl1))
    obtain ⟨⟨⟩, ⟨⟩, (f : List (List Int)), (c : List (List Int)), (a : List Int), (b : List Int), (w : Int), (ord : List ByteArray), (bk : ByteArray), ⟨⟩⟩ := x
    dsimp only
    repeat' (first|(refine goK (by assumption) ?_; iterate 4 (try clear hK K))|(refine zAd fun K hK => ?_)|((first|refine zAb hE rfl ?_|refine zAh ?_); simp +contextual only [hnl, ↓kN, ↓kP, ↓kG, ↓qN, ↓qP, ↓qG, push_cast, seval, reduceCtorEq, Int.cast_ofNat_Int])|refine zAc ?_|((first|refine zAg ?_|refine zAf ?_); simp only [thenQ, zAk, if_true, if_false, Nat.reduceEqDiff, reduceCtorEq])|(refine zAe (by rfl) (fun hb => ?_) (fun hb => ?_) <;> (try simp only [b1, b2, b3, b4, reduceCtorEq, b5, b6] at hb) <;> (try omega))|refine zAi (by rfl) ?_ ?_|refine andS ?_|(refine ⟨fun hc => ?_, fun hc => ?_⟩)|(intro hc; try omega))
    refine zEW hE (fun D s => s.env 1 = .one (.box 11) ∧
      s.env 3 = .one (.val (.sl .str) knL) ∧
      s.env 4 = .one (.val (.sl .int) knW) ∧
      s.env 5 = .I i ∧
      (D 5 = false → s.boxes 11 = some (.rcd [.raw (.int .i32 0), .raw (.int .u32 0), .val (.sl (.sl .int)) f, .val (.sl (.sl .int)) c, .val (.sl .int) a, .val (.sl .int) b, .val .int w, .mk 11 9 .str ord, .val .str bk])) ∧
      (D 5 = true → s.boxes 11 = some (.rcd [.raw (.int .i32 0), .raw (.int .u32 0), .val (.sl (.sl .int)) (doX ((), (), f, c, a, b, w, ord, bk, ()) (knL.getD i ByteArray.empty)).2.2.1, .val (.sl (.sl .int)) (doX ((), (), f, c, a, b, w, ord, bk, ()) (knL.getD i ByteArray.empty)).2.2.2.1, .val (.sl .int) (doX ((), (), f, c, a, b, w, ord, bk, ()) (knL.getD i ByteArray.empty)).2.2.2.2.1, .val (.sl .int) (doX ((), (), f, c, a, b, w, ord, bk, ()) (knL.getD i ByteArray.empty)).2.2.2.2.2.1, .val .int (doX ((), (), f, c, a, b, w, ord, bk, ()) (knL.getD i ByteArray.empty)).2.2.2.2.2.2.1, .mk 11 9 .str (doX ((), (), f, c, a, b, w, ord, bk, ()) (knL.getD i ByteArray.empty)).2.2.2.2.2.2.2.1, .val .str (doX ((), (), f, c, a, b, w, ord, bk, ()) (knL.getD i ByteArray.empty)).2.2.2.2.2.2.2.2.1])) ∧
      (D 0 = true → s.env 28 = .one (.box 11)) ∧
      (D 1 = true → s.env 29 = .one (.val (.sl .str) knL)) ∧
      (D 2 = true → s.env 30 = .I i) ∧
      (D 3 = true → s.env 31 = .one (.padr .str (knL.getD i ByteArray.empty))) ∧
      (D 4 = true → s.env 32 = .one (.val .str (knL.getD i ByteArray.empty))) ∧
      (D 5 = true → s.env 33 = .one (.val .int (knW.getD i 0))) ∧
      (D 6 = true → s.env 34 = .one (.val (.sl .int) knW)) ∧
      (D 7 = true → s.env 35 = .I i) ∧
      (D 8 = true → s.env 36 = .one (.padr .int (knW.getD i 0))) ∧
      (D 9 = true → s.env 37 = .one (.val .int (knW.getD i 0))) ∧
      (D 10 = true → s.env 38 = .one (.val .bool false))) rfl (by kernel_rfl) ?_ ?_ ?_
    · dsimp only
      simp only [push_cast, seval, reduceCtorEq, Int.cast_ofNat_Int]
    · refine ⟨fun D s h0 hp hI => ?_, fun D s h0 hp hI => ?_, fun D s h0 hp hI => ?_, fun D s h0 hp hI => ?_, fun D s h0 hp hI => ?_, fun D s h0 hp hI => ?_, fun D s h0 hp hI => ?_, fun D s h0 hp hI => ?_, fun D s h0 hp hI => ?_, fun D s h0 hp hI => ?_, fun D s h0 hp hI => ?_, trivial⟩
      all_goals obtain ⟨e1, e3, e4, e5, b0, b1, f0, f1, f2, f3, f4, f5, f6, f7, f8, f9, f10⟩ := hI
      all_goals replace hp := List.all_eq_true.1 hp
      · simp +contextual only [hnl, h0, e1, e3, e4, e5, b0, b1, f0, f1, f2, f3, f4, f5, f6, f7, f8, f9, f10, setD, ↓kN, ↓kP, push_cast, seval, reduceCtorEq, Int.cast_ofNat_Int]
      · simp +contextual only [hnl, h0, e1, e3, e4, e5, b0, b1, f0, f1, f2, f3, f4, f5, f6, f7, f8, f9, f10, setD, ↓kN, ↓kP, push_cast, seval, reduceCtorEq, Int.cast_ofNat_Int]
      · simp +contextual only [hnl, h0, e1, e3, e4, e5, b0, b1, f0, f1, f2, f3, f4, f5, f6, f7, f8, f9, f10, setD, ↓kN, ↓kP, push_cast, seval, reduceCtorEq, Int.cast_ofNat_Int]
      · have d1 := hp 1 (by decide)
        have d2 := hp 2 (by decide)
        simp +contextual only [d1, d2, hnl, h0, e1, e3, e4, e5, b0, b1, f0, f1, f2, f3, f4, f5, f6, f7, f8, f9, f10, setD, ↓kN, ↓kP, push_cast, seval, reduceCtorEq, Int.cast_ofNat_Int]
        omega
      · have d3 := hp 3 (by decide)
        simp +contextual only [d3, hnl, h0, e1, e3, e4, e5, b0, b1, f0, f1, f2, f3, f4, f5, f6, f7, f8, f9, f10, setD, ↓kN, ↓kP, push_cast, seval, reduceCtorEq, Int.cast_ofNat_Int]
      · have d0 := hp 0 (by decide)
        have d4 := hp 4 (by decide)
        simp +contextual only [d0, d4, hnl, h0, e1, e3, e4, e5, b0, b1, f0, f1, f2, f3, f4, f5, f6, f7, f8, f9, f10, setD, ↓kN, ↓kP, push_cast, seval, reduceCtorEq, Int.cast_ofNat_Int]
      · simp +contextual only [hnl, h0, e1, e3, e4, e5, b0, b1, f0, f1, f2, f3, f4, f5, f6, f7, f8, f9, f10, setD, ↓kN, ↓kP, push_cast, seval, reduceCtorEq, Int.cast_ofNat_Int]
      · simp +contextual only [hnl, h0, e1, e3, e4, e5, b0, b1, f0, f1, f2, f3, f4, f5, f6, f7, f8, f9, f10, setD, ↓kN, ↓kP, push_cast, seval, reduceCtorEq, Int.cast_ofNat_Int]
      · have d6 := hp 6 (by decide)
        have d7 := hp 7 (by decide)
        simp +contextual only [d6, d7, hnl, h0, e1, e3, e4, e5, b0, b1, f0, f1, f2, f3, f4, f5, f6, f7, f8, f9, f10, setD, ↓kN, ↓kP, push_cast, seval, reduceCtorEq, Int.cast_ofNat_Int]
        omega
      · have d8 := hp 8 (by decide)
        simp +contextual only [d8, hnl, h0, e1, e3, e4, e5, b0, b1, f0, f1, f2, f3, f4, f5, f6, f7, f8, f9, f10, setD, ↓kN, ↓kP, push_cast, seval, reduceCtorEq, Int.cast_ofNat_Int]
      · have d5 := hp 5 (by decide)
        have d9 := hp 9 (by decide)
        simp +contextual only [d5, d9, hnl, h0, e1, e3, e4, e5, b0, b1, f0, f1, f2, f3, f4, f5, f6, f7, f8, f9, f10, setD, ↓kN, ↓kP, push_cast, seval, reduceCtorEq, Int.cast_ofNat_Int]
    intro D s hD hI
    obtain ⟨e1, e3, e4, e5, b0, b1, f0, f1, f2, f3, f4, f5, f6, f7, f8, f9, f10⟩ := hI
    have v1 := b1 (hD 5 (by decide))
    have v2 := f10 (hD 10 (by decide))
    refine hK _ ?_
    refine zAK (t := AS.of [(1, .one (.box 11)), (3, .one (.val (.sl .str) knL)), (4, .one (.val (.sl .int) knW)), (5, .I i), (38, .one (.val .bool false))] [] [(11, (.rcd [.raw (.int .i32 0), .raw (.int .u32 0), .val (.sl (.sl .int)) (doX ((), (), f, c, a, b, w, ord, bk, ()) (knL.getD i ByteArray.empty)).2.2.1, .val (.sl (.sl .int)) (doX ((), (), f, c, a, b, w, ord, bk, ()) (knL.getD i ByteArray.empty)).2.2.2.1, .val (.sl .int) (doX ((), (), f, c, a, b, w, ord, bk, ()) (knL.getD i ByteArray.empty)).2.2.2.2.1, .val (.sl .int) (doX ((), (), f, c, a, b, w, ord, bk, ()) (knL.getD i ByteArray.empty)).2.2.2.2.2.1, .val .int (doX ((), (), f, c, a, b, w, ord, bk, ()) (knL.getD i ByteArray.empty)).2.2.2.2.2.2.1, .mk 11 9 .str (doX ((), (), f, c, a, b, w, ord, bk, ()) (knL.getD i ByteArray.empty)).2.2.2.2.2.2.2.1, .val .str (doX ((), (), f, c, a, b, w, ord, bk, ()) (knL.getD i ByteArray.empty)).2.2.2.2.2.2.2.2.1]))]) ?_ ?_
    · refine zAj ?_ ?_ ?_ <;> simp only [e1, e3, e4, e5, v1, v2, push_cast, seval, reduceCtorEq, Int.cast_ofNat_Int]
      all_goals first | exact ⟨_, rfl⟩ | skip
    clear hK hD f0 f1 f2 f3 f4 f5 f6 f7 f8 f9 f10 b0 b1 v1 v2 e1 e3 e4 e5 s D
    repeat' (first|(refine goK (by assumption) ?_; iterate 4 (try clear hK K))|(refine zAd fun K hK => ?_)|((first|refine zAb hE rfl ?_|refine zAh ?_); simp +contextual only [hnl, ↓kN, ↓kP, ↓kG, ↓qN, ↓qP, ↓qG, push_cast, seval, reduceCtorEq, Int.cast_ofNat_Int])|refine zAc ?_|((first|refine zAg ?_|refine zAf ?_); simp only [thenQ, zAk, if_true, if_false, Nat.reduceEqDiff, reduceCtorEq])|(refine zAe (by rfl) (fun hb => ?_) (fun hb => ?_) <;> (try simp only [b1, b2, b3, b4, reduceCtorEq, b5, b6] at hb) <;> (try omega))|refine zAi (by rfl) ?_ ?_|refine andS ?_|(refine ⟨fun hc => ?_, fun hc => ?_⟩)|(intro hc; try omega))
    refine hL _ (i + 1, doX ((), (), f, c, a, b, w, ord, bk, ()) (knL.getD i ByteArray.empty)) ⟨by omega, hnx⟩ (by dsimp only; omega) ?_
    refine zAj ?_ ?_ ?_ <;> simp only [push_cast, seval, reduceCtorEq, Int.cast_ofNat_Int]
  · obtain rfl : i = 6 := by omega
    have hle : lst (hSt x) = 8 := by rw [hx]; exact zPa
    have hsz : StateSz (hSt x) := hI.st.sz
    replace hnl := And.intro hnl0 (And.intro hp1 (And.intro hp2 (And.intro hp3 (And.intro (eq_true hsz) (And.intro hle hl1)))))
    obtain ⟨⟨⟩, ⟨⟩, (f : List (List Int)), (c : List (List Int)), (a : List Int), (b : List Int), (w : Int), (ord : List ByteArray), (bk : ByteArray), ⟨⟩⟩ := x
    dsimp only
    exact auA
end Go.Proofs.YtlgkplnifaoeeaaGreatDoor
namespace Go.Proofs.YtlgkplnifaoeeaaGreatDoor
open Go.RowKit Go.VS
theorem zLZ (a b : ByteArray) : (a ++ b).data.toList = a.data.toList ++ b.data.toList := by
  rw [ByteArray.data_append, Array.toList_append]
theorem zKi (n : Int) (a b : ByteArray) : ∀ k, k ≤ a.size → sumK n (a ++ b) k = sumK n a k
  | 0, _ => rfl
  | k + 1, h => by
    have hk : k < a.data.toList.length := by rw [Array.length_toList]; exact h
    unfold sumK
    rw [zKi n a b k (by omega), zLZ, List.getD_eq_getElem?_getD, List.getElem?_append_left hk, ← List.getD_eq_getElem?_getD]
theorem zH6 (n : Int) (a b : ByteArray) : ∀ k, sumK n (a ++ b) (a.size + k) = sumK (sumV n a) b k
  | 0 => by
    have h := zCG n a a.size
    rw [Nat.add_zero, zKi n a b _ (Nat.le_refl _)]
    show sumV n a = ((sumV n a).tmod 1000003 + 1000003).tmod 1000003
    unfold sumV
    have e1 := Int.tmod_eq_emod_of_nonneg (b := 1000003) h.1
    have e2 : 0 ≤ sumK n a a.size + 1000003 := by omega
    have e3 := Int.tmod_eq_emod_of_nonneg (b := 1000003) e2
    rw [e1, Int.emod_eq_of_lt h.1 (by omega), e3]
    omega
  | k + 1 => by
    have hk : ¬ a.size + k < a.data.toList.length := by rw [Array.length_toList]; show ¬ a.size + k < a.size; omega
    have hs : a.data.toList.length = a.size := by rw [Array.length_toList]; rfl
    rw [← Nat.add_assoc]
    show (sumK n (a ++ b) (a.size + k) * 257 + (((a ++ b).data.toList.getD (a.size + k) 0).toNat : Int) + 1).tmod 1000003 = (sumK (sumV n a) b k * 257 + ((b.data.toList.getD k 0).toNat : Int) + 1).tmod 1000003
    rw [zH6 n a b k, zLZ, List.getD_eq_getElem?_getD, List.getElem?_append_right (by omega), hs, Nat.add_sub_cancel_left, ← List.getD_eq_getElem?_getD]
theorem zRu (n : Int) (a b : ByteArray) : sumV (sumV n a) b = sumV n (a ++ b) := by
  have := zH6 n a b b.size
  unfold sumV at *
  rw [zBt]
  exact this.symm
@[push_cast] def zRv : Con := ⟨[.dat .int, .dat .str, .dat .str], fun _ => True, fun _ => { res := [.val .bool true] }⟩
theorem zNW : FnSpec Tryz.prog 3 zRv := by
  refine FnSpec.of_tri' (E := know [(18, zDU), (19, zFO), (20, zFO)] [] [] []) (zAm (all_cons zDw (all_cons zFB (all_cons zNM all_nil))) all_nil all_nil) Tryz.func3 rfl rfl (by kernel_rfl) ?_
  intro C x hE hnl hfit hpre
  simp only [Tryz.ntmps3, Tryz.results3, maxLen, Nat.reduceSub, Nat.reducePow, Nat.reduceAdd, Int.cast_ofNat_Int, push_cast] at hnl hfit hpre ⊢
  obtain ⟨(n : Int), (a : ByteArray), (b : ByteArray), _⟩ := x
  dsimp only at hfit hpre ⊢
  have hap := zRu n a b
  have has := zBt a b
  replace hnl := And.intro hnl (And.intro hap has)
  exact auA
end Go.Proofs.YtlgkplnifaoeeaaGreatDoor
