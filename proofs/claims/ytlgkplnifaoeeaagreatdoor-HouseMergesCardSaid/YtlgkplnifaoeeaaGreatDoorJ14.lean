import Derived.Test.YtlgkplnifaoeeaaGreatDoorQmj
import Derived.Test.YtlgkplnifaoeeaaGreatDoorJ4
import Derived.Test.YtlgkplnifaoeeaaGreatDoorJ12
import Derived.Test.YtlgkplnifaoeeaaGreatDoorJ13
set_option linter.unusedSimpArgs false
set_option linter.unusedVariables false
namespace Go.Proofs.YtlgkplnifaoeeaaGreatDoor
open Go.RowKit Go.VS
section
variable {C : Ctx} {E : Know} {γ : Gam} {s : AS} {a : Act} {w : World} {ops : Array Oper} {N : Nat}
theorem runK_then (hE : KnowOK C.P E) {Q : Exit → Act → World → Prop} {K : AS → Prop} {N : Nat} (rest : List Oper) (hd : ∀ (j : Nat) (o : Oper), ops[j]? = some o → dstOK N o.dst = true)
    (hQ : ∀ s' γ' a' w', Rel C γ' s' a' w' → a'.tmps.size = N → K s' → wpList C.P ops Q rest a' w') : ∀ (l : List Oper) (s : AS) (γ : Gam) (a : Act) (w : World), (∀ o ∈ l, dstOK N o.dst = true) → a.tmps.size = N → Rel C γ s a w →
    runK E C.nl ops l s K → wpList C.P ops Q (l ++ rest) a w
  | [], s, γ, a, w, _, hN, h, hk => hQ s γ a w h hN hk
  | o :: l, s, γ, a, w, hl, hN, h, hk => by
    refine wpList_step fun K' hK' => ?_
    subst hN
    exact zCh hE h hd (hl o (by simp)) hk fun s' γ' a' w' h1 h2 h3 => hK' _ _ (runK_then hE rest hd hQ l s' γ' a' w' (fun o ho => hl o (by simp [ho])) h2 h1 h3)
def lockS (s : AS) (i1 i2 i3 n : Nat) : AS := ((s.put (some i1) (.one (.box 0))).put (some i2) (.one (.box 0))).put (some i3) (.one (.boxf 0 n 0 0))
theorem zJq {nl : Nat} {ops : Array Oper} {i1 i2 i3 n : Nat} {T t1 t2 t3 : TypeId} {p1 p2 p3 : String} {e1 e2 e3 : Array Edge} (hs : s.env 0 = .one (.box 0)) (hf : E.G.fld T 0 = some (n, 0)) :
    runK E nl ops [⟨some i1, .move (.tmp 0), t1, p1, e1, none⟩, ⟨some i2, .nilCheck (.tmp i1), t2, p2, e2, none⟩, ⟨some i3, .fieldAddr T (.tmp i2) 0, t3, p3, e3, none⟩] s (fun s' => s' = lockS s i1 i2 i3 n) := by
  simp only [kP, kN, zLD, pv, zMn, zLS, hs, zFR, zC6, zEW, hf, true_and]
  rfl
theorem zMv {Q : Exit → AS → Prop} (hP : C.P = Tryz.prog) (hE : KnowOK C.P E) {id i1 i2 i3 i4 n : Nat} {T t1 t2 t3 t4 : TypeId} {p1 p2 p3 p4 : String} {e1 e2 e3 e4 : Array Edge} {ats : Array TypeId} {bs : List BV}
    (hd : zDI N [⟨some i1, .move (.tmp 0), t1, p1, e1, none⟩, ⟨some i2, .nilCheck (.tmp i1), t2, p2, e2, none⟩, ⟨some i3, .fieldAddr T (.tmp i2) 0, t3, p3, e3, none⟩, ⟨some i4, .call { callee := .value (.func 75), args := #[.tmp i3], argTypes := ats }, t4, p4, e4, none⟩] = true)
    (hs : s.env 0 = .one (.box 0)) (hb : s.boxes 0 = some (.rcd bs)) (h0 : bs[0]? = some (.raw (.int .i32 0))) (hf : E.G.fld T 0 = some (n, 0))
    (h : Q .normal (((lockS s i1 i2 i3 n).setBox 0 (.rcd (bs.set 0 (.raw (.int .i32 1))))).put (some i4) (.one .any))) :
    tri C N (.region id #[⟨some i1, .move (.tmp 0), t1, p1, e1, none⟩, ⟨some i2, .nilCheck (.tmp i1), t2, p2, e2, none⟩, ⟨some i3, .fieldAddr T (.tmp i2) 0, t3, p3, e3, none⟩, ⟨some i4, .call { callee := .value (.func 75), args := #[.tmp i3], argTypes := ats }, t4, p4, e4, none⟩] false) Q s := by
  refine ⟨fun γ a w hr hN => ?_⟩
  have hd' := fun (j : Nat) (o : Oper) (ho : (List.toArray [_, _, _, _])[j]? = some o) => zBl (ops := List.toArray [_, _, _, _]) (by simpa using hd) j o ho
  refine wp_region_lit (l := [_, _, _, _]) ?_
  refine runK_then hE [_] hd' (K := fun s' => s' = lockS s i1 i2 i3 n) ?_ [_, _, _] s γ a w ?_ hN hr (zJq hs hf)
  · rintro s' γ' a' w' h1 h2 rfl
    refine wpList_step fun K' hK' => ?_
    simp only [Region.wanted, if_true]
    unfold Oper.wp
    have hc : zA6 C.P 75 := by rw [hP]; exact ⟨_, Tryz.func75, by kernel_rfl, rfl⟩
    rw [zDT hc (caps := #[]) rfl]
    simp only [Oper.upon]
    have hv : a'.eval (.tmp i3) = .pointer (some ⟨γ'.bx 0, 0, none⟩) := by
      have := zAl h1 (.tmp i3)
      rw [zLS, show (lockS s i1 i2 i3 n).env i3 = .one (.boxf 0 n 0 0) from zC6 _ _] at this
      exact this
    have e : (#[Operand.tmp i3].map a'.eval ++ #[] : Array Value) = #[.pointer (some ⟨γ'.bx 0, 0, none⟩)] := by simp [hv]
    rw [e]
    have hb' : (lockS s i1 i2 i3 n).boxes 0 = some (.rcd bs) := hb
    obtain ⟨c1, c2⟩ := zP4 h1 hb' h0
    have hlen : 0 < bs.length := (List.getElem?_eq_some_iff.1 h0).1
    rw [hP]
    refine (Go.MuLone.lock_free muLib ⟨γ'.bx 0, 0, none⟩ w' c1 c2).mono ?_
    rintro en w2 ⟨rfl, rfl⟩
    refine hK' _ _ (wpList_nil ?_)
    have hd4 : dstOK a'.tmps.size (some i4) = true := by
      rw [h2]
      have := List.all_eq_true.1 hd ⟨some i4, .call { callee := .value (.func 75), args := #[.tmp i3], argTypes := ats }, t4, p4, e4, none⟩ (by simp)
      exact this
    exact ⟨_, γ', (zMy h1 hb' hlen (.int .i32 1) rfl).put hd4 (sv := .one .any) trivial, by rw [zCn]; exact h2, h⟩
  · intro o ho
    refine List.all_eq_true.1 hd o ?_
    simp only [List.mem_cons, List.not_mem_nil, or_false] at ho ⊢
    rcases ho with rfl | rfl | rfl <;> simp
theorem zCs (D : List Deferred) : ∀ (rs : List RV) (ids bids : List Nat) (vs : List Value), zCb (C.dsd D) γ w rs ids bids vs → zCb C γ w rs ids bids vs
  | [], _, _, _, h => h
  | .val s x :: rs, ids, bids, vs, h => by
    obtain ⟨v, vs', h1, h2, h3⟩ := h
    exact ⟨v, vs', h1, h2, zCs D rs _ _ _ h3⟩
  | .own rc :: rs, ids, bids, vs, h => by
    obtain ⟨v, vs', i, ids', h1, h2, h3, h4, h5⟩ := h
    exact ⟨v, vs', i, ids', h1, h2, h3, ⟨by rw [← zID D]; exact h4.1, h4.2⟩, zCs D rs _ _ _ h5⟩
  | .nil :: rs, ids, bids, vs, h => by
    obtain ⟨vs', h1, h3⟩ := h
    exact ⟨vs', h1, zCs D rs _ _ _ h3⟩
  | .raw u :: rs, ids, bids, vs, h => by
    obtain ⟨vs', h1, h3⟩ := h
    exact ⟨vs', h1, zCs D rs _ _ _ h3⟩
  | .ifc :: rs, ids, bids, vs, h => by
    obtain ⟨t, u, vs', h1, h3⟩ := h
    exact ⟨t, u, vs', h1, zCs D rs _ _ _ h3⟩
  | .any :: rs, ids, bids, vs, h => by
    obtain ⟨v, vs', h1, h3⟩ := h
    exact ⟨v, vs', h1, zCs D rs _ _ _ h3⟩
  | .obj o :: rs, ids, bids, vs, h => by
    obtain ⟨vs', i, bids', h1, h2, h3, h4⟩ := h
    exact ⟨vs', i, bids', h1, h2, by rw [← zIg D]; exact h3, zCs D rs _ _ _ h4⟩
theorem zPq {D : List Deferred} {o : Out} {v : Value} (h : OutRep (C.dsd D) γ w o v) : OutRep C γ w o v := by
  obtain ⟨⟨ids, bids, vs, h1, h2, h3, h4⟩, h5, h6, h7⟩ := h
  exact ⟨⟨ids, bids, vs, h1, zCs D _ _ _ _ h2, h3, h4⟩, fun p hp => ⟨⟨by rw [← zID D]; exact (h5 p hp).1.1, (h5 p hp).1.2⟩, (h5 p hp).2⟩, fun p hp => ⟨by rw [← zIg D]; exact (h6 p hp).1, (h6 p hp).2⟩, h7⟩
def zBR (b : Nat) : Deferred := { target := .fn (.func 76) #[], args := #[.pointer (some ⟨b, 0, none⟩)] }
structure Held (E : Know) (nl : Nat) (rs : List ResultVar) (o : Out) (e : Exit) (s : AS) : Prop where
  e : e = .normal ∨ e = .ret
  h : ∃ bs t, s.boxes 0 = some (.rcd bs) ∧ bs[0]? = some (.raw (.int .i32 1)) ∧ Weak nl (s.setBox 0 (.rcd (bs.set 0 (.raw (.int .i32 0))))) t ∧ retOK E nl rs o t
theorem zKR (hP : C.P = Tryz.prog) (hE : KnowOK C.P E) {b : Nat} (hb0 : C.lb 0 = b) (hnl : 0 < C.nl) {fn : Func} {o : Out} {e : Exit} (h : Rel (C.dsd [zBR b]) γ s a w) (hh : Held E C.nl fn.results.toList o e s) :
    Leaves C.P fn a.tmps (fun e w' => ∃ v γ', e = .returned v ∧ OutRep C γ' w' o v ∧ Keep C.L C.w0 w') a.defers .returning w := by
  obtain ⟨_, bs, t, h1, h2, h3, h4⟩ := hh
  have hbx : γ.bx 0 = b := (h.lent 0 hnl).2.trans hb0
  have hd : a.defers = [zBR b] := h.defers.1
  obtain ⟨c1, c2⟩ := zP4 h h1 h2
  rw [hbx] at c1 c2
  have hw := zMy h h1 (List.getElem?_eq_some_iff.1 h2).1 (.int .i32 0) rfl
  rw [hbx] at hw
  rw [hd]
  rw [hP]
  refine leaves_cons (f := 76) (args := #[.pointer (some ⟨b, 0, none⟩)]) (by simp) (by simp [go_sem]) ?_
  refine (Go.MuLone.unlock_deferred muLib ⟨b, 0, none⟩ .returning w c1 c2).mono ?_
  rintro en u' w2 ⟨rfl, rfl, rfl⟩
  have hw2 := (show Weak (C.dsd [zBR b]).nl _ _ from h3).rel hw
  obtain ⟨v, γ', k1, k2⟩ := zET (C := C.dsd [zBR b]) hE hw2 (fn := fn) h4
  have k0 : (C.dsd [zBR b]).P = Tryz.prog := hP
  rw [k0] at k1
  exact ⟨v, k1, v, γ', rfl, zPq k2, hw2.keep⟩
theorem zHq (hP : C.P = Tryz.prog) (hE : KnowOK C.P E) {id i1 i2 i3 n : Nat} {T t1 t2 t3 t4 : TypeId} {p1 p2 p3 p4 : String} {e1 e2 e3 e4 : Array Edge} {ats : Array TypeId} {rest : Code} {fn : Func} {o : Out}
    (hd : zDI N [⟨some i1, .move (.tmp 0), t1, p1, e1, none⟩, ⟨some i2, .nilCheck (.tmp i1), t2, p2, e2, none⟩, ⟨some i3, .fieldAddr T (.tmp i2) 0, t3, p3, e3, none⟩, ⟨none, .defer { callee := .value (.func 76), args := #[.tmp i3], argTypes := ats }, t4, p4, e4, none⟩] = true)
    (hs : s.env 0 = .one (.box 0)) (hf : E.G.fld T 0 = some (n, 0)) (hnl : 0 < C.nl) (hds : C.ds = []) (hr : Rel C γ s a w) (hN : a.tmps.size = N)
    (h : tri (C.dsd [zBR (C.lb 0)]) N rest (Held E C.nl fn.results.toList o) (lockS s i1 i2 i3 n)) :
    (Code.seq (.region id #[⟨some i1, .move (.tmp 0), t1, p1, e1, none⟩, ⟨some i2, .nilCheck (.tmp i1), t2, p2, e2, none⟩, ⟨some i3, .fieldAddr T (.tmp i2) 0, t3, p3, e3, none⟩, ⟨none, .defer { callee := .value (.func 76), args := #[.tmp i3], argTypes := ats }, t4, p4, e4, none⟩] false) rest).wp C.P
      (bodyPostD C.P fn (fun e w' => ∃ v γ', e = .returned v ∧ OutRep C γ' w' o v ∧ Keep C.L C.w0 w')) a w := by
  have hd' := fun (j : Nat) (o : Oper) (ho : (List.toArray [_, _, _, _])[j]? = some o) => zBl (ops := List.toArray [_, _, _, _]) (by simpa using hd) j o ho
  refine wp_seq (wp_region_lit (l := [_, _, _, _]) ?_)
  refine runK_then hE [_] hd' (K := fun s' => s' = lockS s i1 i2 i3 n) ?_ [_, _, _] s γ a w ?_ hN hr (zJq hs hf)
  · rintro s' γ' a' w' h1 h2 rfl
    refine wpList_step fun K' hK' => ?_
    simp only [Region.wanted, if_true]
    have hv : a'.eval (.tmp i3) = .pointer (some ⟨γ'.bx 0, 0, none⟩) := by
      have := zAl h1 (.tmp i3)
      rw [zLS, show (lockS s i1 i2 i3 n).env i3 = .one (.boxf 0 n 0 0) from zC6 _ _] at this
      exact this
    have hbx : γ'.bx 0 = C.lb 0 := (h1.lent 0 hnl).2
    have hrun : (execOp a'.eval ⟨none, .defer { callee := .value (.func 76), args := #[.tmp i3], argTypes := ats }, t4, p4, e4, none⟩).run C.P w' = .ok (.defer (zBR (C.lb 0))) w' := by
      have e0 : a'.eval (.func 76) = .func (.func 76) #[] #[] := rfl
      simp only [execOp, resolve, e0, Deferred.ofValue, zBR]
      simp [hv, hbx]
    unfold Oper.wp
    rw [hrun]
    simp only [Oper.upon]
    refine hK' _ _ (wpList_nil ?_)
    have hdf : a'.defers = [] := h1.defers.1.trans hds
    have h3 := zOm h1 [zBR (C.lb 0)]
    rw [hdf]
    refine wp_mono (h.run γ' _ w' h3 h2) ?_
    rintro e a2 w2 ⟨s2, γ2, k1, k2, k3⟩
    have hl := zKR hP hE rfl hnl k1 k3
    rcases k3.e with rfl | rfl <;> exact hl
  · intro o ho
    refine List.all_eq_true.1 hd o ?_
    simp only [List.mem_cons, List.not_mem_nil, or_false] at ho ⊢
    rcases ho with rfl | rfl | rfl <;> simp
end
end Go.Proofs.YtlgkplnifaoeeaaGreatDoor
namespace Go.Proofs.YtlgkplnifaoeeaaGreatDoor
open Go.RowKit Go.VS
structure triD (C : Ctx) (N : Nat) (c : Code) (Qw : Exit → Act → World → Prop) (s : AS) : Prop where
  run : ∀ γ a w, Rel C γ s a w → a.tmps.size = N → c.wp C.P Qw a w
section
variable {C : Ctx} {N : Nat} {Qw : Exit → Act → World → Prop} {s t : AS}
theorem zFp {x y : Code} (h : ∀ K : AS → Prop, (∀ s, triD C N y Qw s → K s) → tri C N x (thenQ K (fun _ _ => False)) s) : triD C N (.seq x y) Qw s := by
  refine ⟨fun γ a w hr hN => wp_seq (wp_mono ((h (fun s => triD C N y Qw s) fun _ h => h).run γ a w hr hN) ?_)⟩
  rintro e a' w' ⟨s', γ', h1, h2, h3⟩
  cases e with
  | normal => exact h3.run γ' a' w' h1 h2
  | _ => exact h3.elim
theorem zDn {c : Code} (hw : Weak C.nl s t) (h : triD C N c Qw t) : triD C N c Qw s := ⟨fun _ a w hr hN => h.run _ a w (hw.rel hr) hN⟩
end
abbrev hFs : List Go.VS.Fd := [.raw .i32 0, .raw .u32 0, .val (.sl (.sl .int)), .val (.sl (.sl .int)), .val (.sl .int), .val (.sl .int), .val .int, .slk 9, .val .str]
abbrev HX := FdT hFs
def zS8 (x : HX) : List (List Int) := x.2.2.1
def hSt (x : HX) : State := (x.2.2.2.1, x.2.2.2.2.1, x.2.2.2.2.2.1, x.2.2.2.2.2.2.1)
def hOrd (x : HX) : List ByteArray := x.2.2.2.2.2.2.2.1
def hBk (x : HX) : ByteArray := x.2.2.2.2.2.2.2.2.1
def mkH (f : List (List Int)) (s : State) (ord : List ByteArray) (bk : ByteArray) : HX := ((), (), f, s.1, s.2.1, s.2.2.1, s.2.2.2, ord, bk, ())
@[push_cast] def zL5 : Con := ⟨[.obj hFs], fun (x : HX × Unit) => StateSz (hSt x.1), fun (x : HX × Unit) => { res := [.val stSh (hSt x.1), .val .str (hBk x.1)], objs := [(0, ⟨hFs, x.1⟩)] }⟩
def zTn : Know := know [(74, zDl)] []
theorem zO0 : KnowOK Tryz.prog zTn := zAn (all_cons stClone_spec all_nil) all_nil all_nil
set_option maxHeartbeats 4000000 in
theorem zNa : FnSpec Tryz.prog 82 zL5 := by
  refine ⟨⟨_, Tryz.func82, by kernel_rfl, rfl⟩, fun C γ x vs hpre hen => ?_⟩
  have hP := hen.P
  have hnl : C.nl = 1 := hen.nl
  have hE : KnowOK C.P (know [(74, zDl)] []) := by rw [hP]; exact zO0
  have hlen := zAP _ _ hen.args
  have hr := zDR hen (20 - vs.length)
  have hdsn : C.ds = [] := hen.ds.1
  obtain ⟨⟨⟨⟩, ⟨⟩, (f : List (List Int)), (c : List (List Int)), (a : List Int), (b : List Int), (w : Int), (ord : List ByteArray), (bk : ByteArray), ⟨⟩⟩, ⟨⟩⟩ := x
  have hlen' : vs.length = 1 := hlen.symm ▸ rfl
  rw [← hP]
  refine calls_of_wp_defers (by rw [hP]; exact Tryz.func82) rfl ?_
  rw [List.size_toArray]
  refine triD.run (N := 20) ?_ γ _ _ hr (by simp [hlen'])
  refine zDn (t := AS.of [(0, .one (.box 0))] [] [(0, .rcd [.raw (.int .i32 0), .raw (.int .u32 0), .val (.sl (.sl .int)) f, .val (.sl (.sl .int)) c, .val (.sl .int) a, .val (.sl .int) b, .val .int w, .mk 0 9 .str ord, .val .str bk])]) ?_ ?_
  · refine zAj ?_ ?_ ?_ <;> simp only [push_cast, seval, reduceCtorEq, Int.cast_ofNat_Int]
  clear hr hlen hlen' hen
  refine zFp fun K hK => ?_
  repeat' (first|(refine goK (by assumption) ?_; iterate 4 (try clear hK K))|(refine zAd fun K hK => ?_)|((first|refine zAb hE rfl ?_|refine zAh ?_); simp +contextual only [hnl, ↓kN, ↓kP, ↓kG, ↓qN, ↓qP, ↓qG, push_cast, seval, reduceCtorEq, Int.cast_ofNat_Int])|refine zAc ?_|((first|refine zAg ?_|refine zAf ?_); simp only [thenQ, zAk, if_true, if_false, Nat.reduceEqDiff, reduceCtorEq])|(refine zAe (by rfl) (fun hb => ?_) (fun hb => ?_) <;> (try simp only [b1, b2, b3, b4, reduceCtorEq, b5, b6] at hb) <;> (try omega))|refine zAi (by rfl) ?_ ?_|refine andS ?_|(refine ⟨fun hc => ?_, fun hc => ?_⟩)|(intro hc; try omega))
  refine hK _ ?_
  clear hK K
  refine zDn (t := AS.of [(0, .one (.box 0)), (2, .one (.box 2))] [] [(0, .rcd [.raw (.int .i32 0), .raw (.int .u32 0), .val (.sl (.sl .int)) f, .val (.sl (.sl .int)) c, .val (.sl .int) a, .val (.sl .int) b, .val .int w, .mk 0 9 .str ord, .val .str bk]), (2, .rcd [.nils, .nils, .nils, .val .int 0])]) ?_ ?_
  · refine zAj ?_ ?_ ?_ <;> simp only [push_cast, seval, reduceCtorEq, Int.cast_ofNat_Int]
  refine zFp fun K hK => ?_
  refine zMv hP hE rfl rfl rfl rfl (n := 5) rfl ?_
  refine hK _ ?_
  clear hK K
  refine zDn (t := AS.of [(0, .one (.box 0)), (2, .one (.box 2))] [] [(0, .rcd [.raw (.int .i32 1), .raw (.int .u32 0), .val (.sl (.sl .int)) f, .val (.sl (.sl .int)) c, .val (.sl .int) a, .val (.sl .int) b, .val .int w, .mk 0 9 .str ord, .val .str bk]), (2, .rcd [.nils, .nils, .nils, .val .int 0])]) ?_ ?_
  · unfold lockS
    refine zAj ?_ ?_ ?_ <;> simp only [push_cast, seval, reduceCtorEq, Int.cast_ofNat_Int]
  refine ⟨fun γ0 a0 w0 hr hN => zHq hP hE (n := 5) rfl rfl rfl (by rw [hnl]; decide) hdsn hr hN ?_⟩
  clear hr hN
  rw [hnl]
  have hE1 : KnowOK (C.dsd [zBR (C.lb 0)]).P (know [(74, zDl)] []) := hE
  have hnl1 : (C.dsd [zBR (C.lb 0)]).nl = 1 := hnl
  generalize C.dsd [zBR (C.lb 0)] = C1 at hE1 hnl1 ⊢
  clear hE hnl
  have hE := hE1
  have hnl := hnl1
  refine zAE (t := AS.of [(0, .one (.box 0)), (2, .one (.box 2))] [] [(0, .rcd [.raw (.int .i32 1), .raw (.int .u32 0), .val (.sl (.sl .int)) f, .val (.sl (.sl .int)) c, .val (.sl .int) a, .val (.sl .int) b, .val .int w, .mk 0 9 .str ord, .val .str bk]), (2, .rcd [.nils, .nils, .nils, .val .int 0])]) ?_ ?_
  · unfold lockS
    refine zAj ?_ ?_ ?_ <;> simp only [push_cast, seval, reduceCtorEq, Int.cast_ofNat_Int]
  have hsz : StateSz (c, a, b, w) := hpre
  replace hnl := And.intro hnl (eq_true hsz)
  repeat' (first|(refine goK (by assumption) ?_; iterate 4 (try clear hK K))|(refine zAd fun K hK => ?_)|((first|refine zAb hE rfl ?_|refine zAh ?_); simp +contextual only [hnl, ↓kN, ↓kP, ↓kG, ↓qN, ↓qP, ↓qG, push_cast, seval, reduceCtorEq, Int.cast_ofNat_Int])|refine zAc ?_|((first|refine zAg ?_|refine zAf ?_); simp only [thenQ, zAk, if_true, if_false, Nat.reduceEqDiff, reduceCtorEq])|(refine zAe (by rfl) (fun hb => ?_) (fun hb => ?_) <;> (try simp only [b1, b2, b3, b4, reduceCtorEq, b5, b6] at hb) <;> (try omega))|refine zAi (by rfl) ?_ ?_|refine andS ?_|(refine ⟨fun hc => ?_, fun hc => ?_⟩)|(intro hc; try omega))
  refine zEV hE (fun D s => s.env 0 = .one (.box 0) ∧
    s.env 2 = .one (.box 2) ∧
    s.boxes 0 = some (.rcd [.raw (.int .i32 1), .raw (.int .u32 0), .val (.sl (.sl .int)) f, .val (.sl (.sl .int)) c, .val (.sl .int) a, .val (.sl .int) b, .val .int w, .mk 0 9 .str ord, .val .str bk]) ∧
    (D 0 = true → s.env 11 = .one (.box 0)) ∧
    (D 1 = true → s.env 12 = .one (.box 0)) ∧
    (D 2 = true → s.env 13 = .one (.boxf 0 5 2 3)) ∧
    (D 3 = true → s.env 14 = .one (.val stSh (c, a, b, w))) ∧
    (D 4 = true → s.env 15 = .one (.val stSh (c, a, b, w))) ∧
    (D 5 = true → s.env 16 = .one (.box 0)) ∧
    (D 6 = true → s.env 17 = .one (.box 0)) ∧
    (D 7 = true → s.env 18 = .one (.boxf 0 5 4 8)) ∧
    (D 8 = true → s.env 19 = .one (.val .str bk)) ∧
    (D 9 = false → s.boxes 2 = some (.rcd [.nils, .nils, .nils, .val .int 0])) ∧
    (D 9 = true → s.boxes 2 = some (.one (.val stSh (c, a, b, w)))) ∧
    (D 10 = true → s.env 3 = .one (.val .str bk))) rfl (by kernel_rfl) ?_ ?_ ?_
  · dsimp only
    simp only [push_cast, seval, reduceCtorEq, Int.cast_ofNat_Int]
  · refine ⟨fun D s h0 hp hI => ?_, fun D s h0 hp hI => ?_, fun D s h0 hp hI => ?_, fun D s h0 hp hI => ?_, fun D s h0 hp hI => ?_, fun D s h0 hp hI => ?_, fun D s h0 hp hI => ?_, fun D s h0 hp hI => ?_, fun D s h0 hp hI => ?_, fun D s h0 hp hI => ?_, fun D s h0 hp hI => ?_, trivial⟩
    all_goals obtain ⟨e0, e2, b0, f0, f1, f2, f3, f4, f5, f6, f7, f8, g2, g9, f10⟩ := hI
    all_goals replace hp := List.all_eq_true.1 hp
    · simp +contextual only [hnl, h0, e0, e2, b0, f0, f1, f2, f3, f4, f5, f6, f7, f8, g2, g9, f10, setD, ↓kN, ↓kP, push_cast, seval, reduceCtorEq, Int.cast_ofNat_Int]
    · have d0 := hp 0 (by decide)
      simp +contextual only [d0, hnl, h0, e0, e2, b0, f0, f1, f2, f3, f4, f5, f6, f7, f8, g2, g9, f10, setD, ↓kN, ↓kP, push_cast, seval, reduceCtorEq, Int.cast_ofNat_Int]
    · have d1 := hp 1 (by decide)
      simp +contextual only [d1, hnl, h0, e0, e2, b0, f0, f1, f2, f3, f4, f5, f6, f7, f8, g2, g9, f10, setD, ↓kN, ↓kP, push_cast, seval, reduceCtorEq, Int.cast_ofNat_Int]
    · have d2 := hp 2 (by decide)
      simp +contextual only [d2, hnl, h0, e0, e2, b0, f0, f1, f2, f3, f4, f5, f6, f7, f8, g2, g9, f10, setD, ↓kN, ↓kP, push_cast, seval, reduceCtorEq, Int.cast_ofNat_Int]
    · have d3 := hp 3 (by decide)
      simp +contextual only [d3, hnl, h0, e0, e2, b0, f0, f1, f2, f3, f4, f5, f6, f7, f8, g2, g9, f10, setD, ↓kN, ↓kP, push_cast, seval, reduceCtorEq, Int.cast_ofNat_Int]
    · simp +contextual only [hnl, h0, e0, e2, b0, f0, f1, f2, f3, f4, f5, f6, f7, f8, g2, g9, f10, setD, ↓kN, ↓kP, push_cast, seval, reduceCtorEq, Int.cast_ofNat_Int]
    · have d5 := hp 5 (by decide)
      simp +contextual only [d5, hnl, h0, e0, e2, b0, f0, f1, f2, f3, f4, f5, f6, f7, f8, g2, g9, f10, setD, ↓kN, ↓kP, push_cast, seval, reduceCtorEq, Int.cast_ofNat_Int]
    · have d6 := hp 6 (by decide)
      simp +contextual only [d6, hnl, h0, e0, e2, b0, f0, f1, f2, f3, f4, f5, f6, f7, f8, g2, g9, f10, setD, ↓kN, ↓kP, push_cast, seval, reduceCtorEq, Int.cast_ofNat_Int]
    · have d7 := hp 7 (by decide)
      simp +contextual only [d7, hnl, h0, e0, e2, b0, f0, f1, f2, f3, f4, f5, f6, f7, f8, g2, g9, f10, setD, ↓kN, ↓kP, push_cast, seval, reduceCtorEq, Int.cast_ofNat_Int]
    · have d4 := hp 4 (by decide)
      simp +contextual only [d4, hnl, h0, e0, e2, b0, f0, f1, f2, f3, f4, f5, f6, f7, f8, g2, g9, f10, setD, ↓kN, ↓kP, push_cast, seval, reduceCtorEq, Int.cast_ofNat_Int]
    · have d8 := hp 8 (by decide)
      simp +contextual only [d8, hnl, h0, e0, e2, b0, f0, f1, f2, f3, f4, f5, f6, f7, f8, g2, g9, f10, setD, ↓kN, ↓kP, push_cast, seval, reduceCtorEq, Int.cast_ofNat_Int]
  intro D s hD hI
  obtain ⟨e0, e2, b0, f0, f1, f2, f3, f4, f5, f6, f7, f8, g2, g9, f10⟩ := hI
  have v2 := g9 (hD 9 (by decide))
  have v3 := f10 (hD 10 (by decide))
  refine goK hK ?_
  refine zAE (t := AS.of [(0, .one (.box 0)), (2, .one (.box 2)), (3, .one (.val .str bk))] [] [(0, .rcd [.raw (.int .i32 1), .raw (.int .u32 0), .val (.sl (.sl .int)) f, .val (.sl (.sl .int)) c, .val (.sl .int) a, .val (.sl .int) b, .val .int w, .mk 0 9 .str ord, .val .str bk]), (2, .one (.val stSh (c, a, b, w)))]) ?_ ?_
  · refine zAj ?_ ?_ ?_ <;> simp only [v2, v3, e0, e2, b0, push_cast, seval, reduceCtorEq, Int.cast_ofNat_Int]
  clear hK hD
  refine zAh ?_
  refine ⟨.inr rfl, _, AS.of [(0, .one (.box 0)), (2, .one (.box 2)), (3, .one (.val .str bk))] [] [(0, .rcd [.raw (.int .i32 0), .raw (.int .u32 0), .val (.sl (.sl .int)) f, .val (.sl (.sl .int)) c, .val (.sl .int) a, .val (.sl .int) b, .val .int w, .mk 0 9 .str ord, .val .str bk]), (2, .one (.val stSh (c, a, b, w)))], rfl, rfl, ?_, ?_⟩
  · refine zAj ?_ ?_ ?_ <;> simp only [push_cast, seval, reduceCtorEq, Int.cast_ofNat_Int]
  · simp only [hSt, hBk, hnl, Tryz.results82, push_cast, seval, reduceCtorEq, Int.cast_ofNat_Int]
end Go.Proofs.YtlgkplnifaoeeaaGreatDoor
namespace Go.Proofs.YtlgkplnifaoeeaaGreatDoor
open Go.RowKit Go.VS
section
variable {C : Ctx} {γ : Gam} {s : AS} {a : Act} {w w' : World}
theorem zJM {fn : Func} {x : Tmp} {t : TypeId} (h : fn.results = #[.cell x t]) {P : Program} {tmps : Array Value} {v : Value} (hr : (do loadVar t (← asAddr (tmps.getD x undef)) : Sem Value).run P w = .ok v w) : (results fn tmps).run P w = .ok v w := by
  let rd : ResultVar → Sem Value := fun
    | .tmp t => pure (tmps.getD t undef)
    | .cell x t => do loadVar t (← asAddr (tmps.getD x undef))
  have hmap := zF4 fn.results (f := rd) (g := fun _ => v) (P := P) (w := w) (fun r hm => by
    rw [h] at hm
    simp only [List.mem_singleton] at hm
    subst hm
    exact hr)
  have e0 : results fn tmps = (do let vs ← fn.results.mapM rd; pure (if h : vs.size = 1 then vs[0] else .tuple vs) : Sem Value) := rfl
  rw [e0, Sem.run_bind, hmap, h]
  simp
theorem _root_.Go.VS.Rel.know (h : Rel C γ s a w) (i : Nat) {sv : SV} (hv : svRep C γ w sv (a.tmps.getD i undef)) : Rel C γ (s.put (some i) sv) a w := by
  refine ⟨h.defers, h.keep, h.ownlt, h.lent, fun j => ?_, h.roots, h.boxes⟩
  simp only [AS.put, upd]
  split
  · rename_i e; subst e; exact hv
  · exact h.env j
theorem zOK (vs : List Value) (n i : Nat) : (vs.toArray ++ Array.replicate n undef).getD i undef = vs.getD i undef := by
  rw [Array.getD_eq_getD_getElem?, Array.getElem?_append, List.getD_eq_getElem?_getD]
  split
  · simp
  · rename_i h
    simp at h
    rw [List.getElem?_eq_none h]
    simp only [Array.getElem?_replicate, List.size_toArray, Option.getD_none]
    split <;> rfl
theorem zPF (h : Rel C γ s a w) (d : Nat) (hnd : C.nl ≤ d) {nb : Nat} (hnb : w.heap.size ≤ nb) (hk : Keep (fun _ => False) w w') {cs : Array Value} {t : TypeId} (hcell : w'.heap[nb]? = some (.cells cs t (0, 0))) {sv : SV}
    (hsv : zAR C (zAz γ d nb) w' sv cs.toList) (h1 : ∀ u ∈ cs.toList, u.oneCell' = true) : Rel C (zAz γ d nb) ((s.map (killB d)).setBox d sv) a w' := by
  have hlt : nb < w'.heap.size := (Array.getElem?_eq_some_iff.1 hcell).1
  have hsame : ∀ b, b < w.heap.size → (zAz γ d nb).own b = γ.own b := fun b hb => by
    simp only [zAz]
    rw [if_neg (by omega)]
  have hblk : ∀ b, b < w.heap.size → w'.heap[b]? = w.heap[b]? := fun b hb => hk.block b hb (fun h => h)
  have hkeep : ∀ b l, γ.own b = some l → (zAz γ d nb).own b = some l ∧ w'.heap[b]? = w.heap[b]? := fun b l hb => ⟨by rw [hsame b (h.ownlt b l hb)]; exact hb, hblk b (h.ownlt b l hb)⟩
  have hsub : Sub C γ w (zAz γ d nb) w' := ⟨hk.size, fun b hb hz => ⟨⟨hz.1, by rw [hsame b hb]; exact hz.2⟩, hblk b hb⟩, fun b d hb ho => ⟨by rw [hsame b hb]; exact ho, hblk b hb⟩⟩
  have hK : Forgets (killB d) γ (zAz γ d nb) := by
    intro b
    by_cases h1 : killB d b = .any
    · exact .inl h1
    · exact .inr ⟨(zIq d b).resolve_left h1, zEQ h1 (fun _ => rfl) (fun _ _ => rfl) (fun y hy => by simp only [zAz, upd]; rw [if_neg hy])⟩
  have m : Go.VS.Move C γ w ⟨γ.hs, γ.rs, γ.bx, (zAz γ d nb).own⟩ w' (fun _ => False) :=
    ⟨⟨hk.size, hsub.zn, hsub.made⟩, h.keep.step hk (fun _ hf => hf.elim), fun k l hkl => by
      simp only [zAz] at hkl
      split at hkl
      · rename_i e; omega
      · exact Nat.lt_of_lt_of_le (h.ownlt k l hkl) hk.size, fun r hr => (h.lent r hr).1, fun _ _ => rfl, fun _ _ _ => rfl, fun _ => rfl, fun b l hb _ => hkeep b l hb⟩
  refine ⟨h.defers, m.keep, m.ownlt, fun r hr => ⟨(h.lent r hr).1, by simp only [zAz, upd]; rw [if_neg (by omega)]; exact (h.lent r hr).2⟩, fun i => zFm hsub hK (h.env i), fun p rc hp => ?_, fun b sv' hb => ?_⟩
  · have h2 := m.root (fun hf => hf) (h.roots p rc hp)
    cases rc with
    | rags e sh xss =>
      obtain ⟨vs, k1, k2, k3⟩ := h2
      exact ⟨vs, k1, k2, zAG (γ := ⟨γ.hs, γ.rs, γ.bx, (zAz γ d nb).own⟩) (γ' := zAz γ d nb) ⟨Nat.le_refl _, fun b _ hz => ⟨hz, rfl⟩, fun b d _ ho => ⟨ho, rfl⟩⟩ _ _ (fun b hb => by obtain ⟨y, _, rfl⟩ := List.mem_map.1 hb; trivial) k3⟩
    | _ => exact h2
  · simp only [AS.setBox, upd] at hb
    split at hb
    · rename_i e
      subst e
      simp only [Option.some.injEq] at hb
      subst hb
      have hbx : (zAz γ b nb).bx b = nb := by simp [zAz, upd]
      refine ⟨cs, t, ?_, hsv, h1, ?_, ?_⟩
      · rw [hbx]; exact hcell
      · rw [hbx]; simp [zAz]
      · rw [hbx]; exact .inl (Nat.le_trans h.keep.size hnb)
    · rename_i e
      obtain ⟨sv0, h2, rfl⟩ := zEY hb
      obtain ⟨cs', t', d1, d2, d3, d4, d5⟩ := h.boxes b sv0 h2
      have hbx : (zAz γ d nb).bx b = γ.bx b := by simp only [zAz, upd]; rw [if_neg e]
      refine ⟨cs', t', ?_, zCp hsub hK d2, d3, ?_, ?_⟩ <;> rw [hbx]
      · rw [(hkeep _ _ d4).2]; exact d1
      · exact (hkeep _ _ d4).1
      · exact d5
end
noncomputable def ctx0 (w : World) (Z : Nat → Prop) : Ctx := ⟨Tryz.prog, fun _ => False, w, Z, 0, fun _ => undef, fun _ => 0, []⟩
structure Cloned (w w1 : World) (Z : Nat → Prop) (st : State) (v : Value) : Prop where
  keep : Keep (fun _ => False) w w1
  h : ∃ γ, v = .agg #[γ.hd 27, γ.hd 8, γ.hd 11, .int .i64 st.2.2.2] ∧ rcRep (ctx0 w Z) γ w1 27 (.deep 25 3 .int st.1) ∧ rcRep (ctx0 w Z) γ w1 8 (.flat 3 .int st.2.1) ∧ rcRep (ctx0 w Z) γ w1 11 (.flat 3 .int st.2.2.1) ∧ ∀ g l, γ.own g = some l → g < w1.heap.size
theorem zOc {w : World} (hg : Gd Tryz.prog w) (Z : Nat → Prop) {st : State} (hs : StateSz st) {v0 : Value} (hv : vrep w Z stSh st v0) :
    Calls Tryz.prog 74 #[v0] w (fun e w1 => ∃ v, e = .returned v ∧ Cloned w w1 Z st v) := by
  have hen : Entry (ctx0 w Z) gam0 Tryz.prog [.dat stSh] (st, ()) [v0] := ⟨rfl, rfl, ⟨rfl, hg, fun k hk => hk.elim⟩, fun r hr => absurd hr (Nat.not_lt_zero r), fun k l hk => by simp [gam0] at hk, ⟨v0, [], rfl, zAB (fun b hb => ⟨.inl hb, rfl⟩) hv, rfl⟩, fun p hp => (by cases hp), fun p hp => (by cases hp)⟩
  have hr := zDR hen 30
  have hE : KnowOK (ctx0 w Z).P (know [(119, zE3)] []) := zIY
  obtain ⟨code, hcode⟩ : ∃ code, Tryz.f74.body = some code := ⟨_, rfl⟩
  have h0 : Rel (ctx0 w Z) gam0 (AS.of [(0, .one (.val stSh st))] [] []) { tmps := [v0].toArray ++ Array.replicate (Tryz.f74.ntmps - [v0].length) undef, defers := [] } w := hr
  refine zPN (C := ctx0 w Z) (fn := Tryz.f74) Tryz.func74 hcode rfl (Nat.le_of_ble_eq_true rfl) h0 (zIZ hE rfl st hs hcode) (fun e s h => h.e) ?_
  intro e s' γ' a' w1 hrel hq
  have hrel2 := (show Weak (ctx0 w Z).nl s' (zCl st) from hq.h).rel hrel
  obtain ⟨v, h1, h2⟩ := zJL hE hrel2 (.cell 2 103) (by unfold zCl; simp only [push_cast, seval, reduceCtorEq, Int.cast_ofNat_Int])
  have hres := zJM (fn := Tryz.f74) (x := 2) (t := 103) rfl h1
  have h3 : svRep (ctx0 w Z) (zAy γ' s' (zCl st)) w1 (.rcd [.ref 27, .ref 8, .ref 11, .val .int st.2.2.2]) v := by
    have e : (resSV (know [(119, zE3)] []) (zCl st) (.cell 2 103)).2 = .rcd [.ref 27, .ref 8, .ref 11, .val .int st.2.2.2] := by unfold zCl; simp only [push_cast, seval, reduceCtorEq, Int.cast_ofNat_Int]
    rw [← e]; exact h2
  refine ⟨v, hres, v, rfl, hrel2.keep, zAy γ' s' (zCl st), ?_, hrel2.roots 27 _ rfl, hrel2.roots 8 _ rfl, hrel2.roots 11 _ rfl, hrel2.ownlt⟩
  obtain ⟨vs, rfl, ⟨v1, _, rfl, k1, v2, _, rfl, k2, v3, _, rfl, k3, v4, _, rfl, k4, rfl⟩, _⟩ := h3
  obtain rfl : v4 = .int .i64 st.2.2.2 := zAA k4
  simp only [bvRep] at k1 k2 k3
  rw [k1, k2, k3]
def doLoc : Go.VS.Loc → Option Go.VS.Loc
  | .hd 27 => some (.hd 1)
  | .hd 8 => some (.hd 2)
  | .hd 11 => some (.hd 3)
  | .row 27 i => some (.row 1 i)
  | _ => none
noncomputable def doGam (γ : Gam) (n nb : Nat) : Gam := ⟨fun k => if k = 1 then γ.hs 27 else if k = 2 then γ.hs 8 else γ.hs 11, fun _ i => γ.rs 27 i, fun _ => nb, fun g => if g = nb then some (.bx 0) else if n ≤ g then (γ.own g).bind doLoc else none⟩
noncomputable def doCtx (γ : Gam) (n nb : Nat) (w2 : World) (Z : Nat → Prop) : Ctx := ⟨Tryz.prog, fun g => n ≤ g, w2, Z, 4, fun k => (doGam γ n nb).hd k, fun _ => nb, []⟩
structure Done (w2 w3 : World) (n nb : Nat) (Z : Nat → Prop) (st : State) : Prop where
  keep : Keep (fun g => n ≤ g) w2 w3
  h : ∃ cs t, w3.heap[nb]? = some (.cells cs t (0, 0)) ∧ (∀ u ∈ cs.toList, u.oneCell' = true) ∧ ∃ v1 v2 v3, cs.toList = [v1, v2, v3, .int .i64 st.2.2.2] ∧ vrep w3 (fun g => (Z g ∨ n ≤ g) ∧ g ≠ nb) (.sl (.sl .int)) st.1 v1 ∧ vrep w3 (fun g => (Z g ∨ n ≤ g) ∧ g ≠ nb) (.sl .int) st.2.1 v2 ∧ vrep w3 (fun g => (Z g ∨ n ≤ g) ∧ g ≠ nb) (.sl .int) st.2.2.1 v3
theorem zSV {w w1 w2 : World} {Z : Nat → Prop} {st : State} {v : Value} (hc : Cloned w w1 Z st v) (hg : Gd Tryz.prog w2) (hgo : ∀ n ∈ zCP, ∀ g, Tryz.prog.globalNamed n = some g → g < w.heap.size) {nb : Nat} {t : TypeId} (hnb : w1.heap.size ≤ nb) (hZ : ∀ g, Z g → g < w.heap.size) (hk : Keep (fun _ => False) w1 w2)
    (hcell : ∃ cs, v = .agg cs ∧ w2.heap[nb]? = some (.cells cs t (0, 0))) (k : Nat) (l : List Int) (hpre : DoPre k l st) {vl : Value} (hl : vrep w2 Z (.sl .int) l vl) :
    Calls Tryz.prog 79 #[.pointer (some ⟨nb, 0, none⟩), .int .i64 k, vl] w2 (fun e w3 => e = .returned (errV 161 (doV k l st).1) ∧ Done w2 w3 w.heap.size nb Z (doV k l st).2) := by
  obtain ⟨hkeep, γ, hv, h27, h8, h11, holt⟩ := hc
  obtain ⟨cs, hcs, hcell⟩ := hcell
  rw [hv] at hcs
  simp only [Value.agg.injEq] at hcs
  subst hcs
  have hsz : w.heap.size ≤ w1.heap.size := hkeep.size
  have hnb2 : nb < w2.heap.size := (Array.getElem?_eq_some_iff.1 hcell).1
  have hd1 : (doGam γ w.heap.size nb).hd 1 = γ.hd 27 := rfl
  have hd2 : (doGam γ w.heap.size nb).hd 2 = γ.hd 8 := rfl
  have hd3 : (doGam γ w.heap.size nb).hd 3 = γ.hd 11 := rfl
  have hown : ∀ (u : Value) (p q : Go.VS.Loc), doLoc p = some q → (∀ g, u.ownBlock = some g → g < w1.heap.size) → ownB (ctx0 w Z) γ u p → ownB (doCtx γ w.heap.size nb w2 Z) (doGam γ w.heap.size nb) u q := fun u p q hpq hlt ho g hu => by
    obtain ⟨e1, e2⟩ := ho g hu
    have e3 : w.heap.size ≤ g := by
      rcases e2 with e2 | e2
      · exact e2
      · exact e2.elim
    have e4 := hlt g hu
    refine ⟨?_, .inr e3⟩
    simp only [doGam]
    rw [if_neg (by omega), if_pos e3, e1]
    exact hpq
  have hrow : ∀ {e sz n : Nat} {u : Value} {xs : List Value}, w1.ownsRow 0 e sz u n xs → w2.ownsRow 0 e sz u n xs ∧ ∀ g, u.ownBlock = some g → g < w1.heap.size := fun {e sz n u xs} h => ⟨zGm h fun g hu => hk.block g (zJx h hu) (fun h => h), fun g hu => zJx h hu⟩
  have r1 : rcRep (doCtx γ w.heap.size nb w2 Z) (doGam γ w.heap.size nb) w2 1 (.deep 25 3 .int st.1) := by
    obtain ⟨q1, q2, q3, q4⟩ := h27
    refine ⟨q1, by rw [hd1]; exact (hrow q2).1, by rw [hd1]; exact hown _ _ _ rfl (hrow q2).2 q3, fun i xs hi => ?_⟩
    obtain ⟨k1, k2⟩ := q4 i xs hi
    exact ⟨(hrow k1).1, hown _ _ _ rfl (hrow k1).2 k2⟩
  have r2 : rcRep (doCtx γ w.heap.size nb w2 Z) (doGam γ w.heap.size nb) w2 2 (.flat 3 .int st.2.1) := by
    obtain ⟨q1, q2, q3⟩ := h8
    exact ⟨q1, by rw [hd2]; exact (hrow q2).1, by rw [hd2]; exact hown _ _ _ rfl (hrow q2).2 q3⟩
  have r3 : rcRep (doCtx γ w.heap.size nb w2 Z) (doGam γ w.heap.size nb) w2 3 (.flat 3 .int st.2.2.1) := by
    obtain ⟨q1, q2, q3⟩ := h11
    exact ⟨q1, by rw [hd3]; exact (hrow q2).1, by rw [hd3]; exact hown _ _ _ rfl (hrow q2).2 q3⟩
  have hle3 : 3 ≤ Tryz.f79.ntmps := Nat.le_of_ble_eq_true rfl
  have hrel : Rel (doCtx γ w.heap.size nb w2 Z) (doGam γ w.heap.size nb) (doIn k l st) { tmps := [Value.pointer (some ⟨nb, 0, none⟩), .int .i64 (k : Int), vl].toArray ++ Array.replicate (Tryz.f79.ntmps - [Value.pointer (some ⟨nb, 0, none⟩), .int .i64 (k : Int), vl].length) undef, defers := [] } w2 := by
    refine ⟨⟨rfl, hg, fun g hL n hn he => ?_⟩, Keep.refl _ _, fun g lo hgo' => ?_, fun r _ => ⟨rfl, rfl⟩, fun i => ?_, fun r rc hr => ?_, fun b sv hb => ?_⟩
    · have := hgo n hn g he
      have hL' : w.heap.size ≤ g := hL
      omega
    · simp only [doGam] at hgo'
      split at hgo'
      · rename_i e; rw [e]; exact hnb2
      · split at hgo'
        · cases ho : γ.own g with
          | none => rw [ho] at hgo'; simp at hgo'
          | some lo' => exact Nat.lt_of_lt_of_le (holt g lo' ho) hk.size
        · cases hgo'
    · show svRep _ _ _ _ ((List.toArray _ ++ Array.replicate _ undef).getD i undef)
      rw [zOK]
      match i with
      | 0 => exact rfl
      | 1 => exact ⟨_, rfl, rfl⟩
      | 2 =>
        refine zAB (fun b hb => ⟨.inl hb, ?_⟩) hl
        have := hZ b hb
        simp only [doGam]
        rw [if_neg (by omega), if_neg (by omega)]
      | i + 3 => trivial
    · simp only [doIn, AS.of, List.map_cons, List.map_nil] at hr
      by_cases e1 : r = 1
      · subst e1
        obtain rfl : RC.deep 25 3 .int st.1 = rc := by simpa [lk] using hr
        exact r1
      by_cases e2 : r = 2
      · subst e2
        obtain rfl : RC.flat 3 .int st.2.1 = rc := by simpa [lk] using hr
        exact r2
      by_cases e3 : r = 3
      · subst e3
        obtain rfl : RC.flat 3 .int st.2.2.1 = rc := by simpa [lk] using hr
        exact r3
      · simp [lk, e1, e2, e3] at hr
    · simp only [doIn, AS.of, List.map_cons, List.map_nil] at hb
      by_cases e1 : b = 0
      · subst e1
        obtain rfl : SV.rcd [.ref 1, .ref 2, .ref 3, .val .int st.2.2.2] = sv := by simpa [lk] using hb
        refine ⟨_, t, hcell, ⟨_, _, rfl, hd1.symm, _, _, rfl, hd2.symm, _, _, rfl, hd3.symm, _, _, rfl, ⟨_, rfl, rfl⟩, rfl⟩, ?_, ?_, .inr (show w.heap.size ≤ nb by omega)⟩
        · intro u hu
          simp only [List.mem_cons, List.not_mem_nil, or_false] at hu
          rcases hu with rfl | rfl | rfl | rfl <;> rfl
        · show (doGam γ w.heap.size nb).own nb = _
          simp only [doGam, if_true]
      · simp [lk, e1] at hb
  obtain ⟨code, hcode⟩ : ∃ code, Tryz.f79.body = some code := ⟨_, rfl⟩
  refine zPN (vs := [Value.pointer (some ⟨nb, 0, none⟩), .int .i64 (k : Int), vl]) (C := doCtx γ w.heap.size nb w2 Z) (fn := Tryz.f79) Tryz.func79 hcode rfl hle3 hrel (zSW rfl (show KnowOK _ (know _ []) from zOo) rfl k l st hpre hcode) (fun e s h => h.e) ?_
  intro e s' γ' a' w3 hr3 hq
  have hrel2 := (show Weak (doCtx γ w.heap.size nb w2 Z).nl s' (doOut k l st) from hq.h).rel hr3
  have h6 := hrel2.env 6
  have h6' : a'.tmps.getD 6 undef = errV 161 (doV k l st).1 := zLb h6
  refine ⟨a'.tmps.getD 6 undef, results_tmp rfl _ _ _, by rw [h6'], hrel2.keep, ?_⟩
  obtain ⟨cs, tt, d1, d2, d3, d4, _⟩ := hrel2.boxes 0 _ rfl
  have hbx : (zAy γ' s' (doOut k l st)).bx 0 = nb := (hrel2.lent 0 (show 0 < 4 by decide)).2
  rw [hbx] at d1 d4
  obtain ⟨v1, _, e1, k1, v2, _, rfl, k2, v3, _, rfl, k3, v4, _, rfl, k4, rfl⟩ := d2
  obtain rfl : v4 = .int .i64 (doV k l st).2.2.2.2 := zAA k4
  have hzone : ∀ b, (doCtx γ w.heap.size nb w2 Z).zn (zAy γ' s' (doOut k l st)) b → (Z b ∨ w.heap.size ≤ b) ∧ b ≠ nb := fun b hb => by
    obtain ⟨h1, h2⟩ := hb
    refine ⟨?_, fun e => ?_⟩
    · rcases h1 with h1 | h1 | h1
      · exact .inl h1
      · have h1' : w2.heap.size ≤ b := h1
        have := hk.size
        exact .inr (by omega)
      · exact .inr h1
    · rw [e, d4] at h2; cases h2
  exact ⟨cs, tt, d1, d3, v1, v2, v3, e1, zAB hzone k1, zAB hzone k2, zAB hzone k3⟩
end Go.Proofs.YtlgkplnifaoeeaaGreatDoor
