import Derived.Test.YtekfodeknpnkbaaGreatDoorT9
import Derived.Test.YtekfodeknpnkbaaGreatDoorQmt
set_option linter.unusedSimpArgs false
set_option linter.unusedVariables false
namespace Go.Proofs.YtekfodeknpnkbaaGreatDoor
open Go.RowKit Go.VS
section
variable {C:Ctx} {E:Know} {γ:Gam} {s:AS} {a:Act} {w:World} {ops:Array Oper} {N:Nat}
theorem runK_then (hE:KnowOK C.P E) {Q:Exit→Act→World→Prop} {K:AS→Prop} {N:Nat} (rest:List Oper) (hd:∀ (j:Nat) (o:Oper),ops[j]?=some o→dstOK N o.dst=true)
 (hQ:∀ s' γ' a' w',Rel C γ' s' a' w'→a'.tmps.size=N→K s'→wpList C.P ops Q rest a' w'):∀ (l:List Oper) (s:AS) (γ:Gam) (a:Act) (w:World),(∀ o∈l,dstOK N o.dst=true)→a.tmps.size=N→Rel C γ s a w →
 runK E C.nl ops l s K→wpList C.P ops Q (l++rest) a w
 | [],s,γ,a,w,_,hN,h,hk=>hQ s γ a w h hN hk
 | o::l,s,γ,a,w,hl,hN,h,hk=>by
  refine wpList_step fun K' hK'=>?_
  subst hN
  exact zCY hE h hd (hl o (by simp)) hk fun s' γ' a' w' h1 h2 h3=>hK' _ _ (runK_then hE rest hd hQ l s' γ' a' w' (fun o ho=>hl o (by simp [ho])) h2 h1 h3)
def lockS (s:AS) (i1 i2 i3 n:Nat):AS:=((s.put (some i1) (.one (.box 0))).put (some i2) (.one (.box 0))).put (some i3) (.one (.boxf 0 n 0 0))
theorem zMw {nl:Nat} {ops:Array Oper} {i1 i2 i3 n:Nat} {T t1 t2 t3:TypeId} {p1 p2 p3:String} {e1 e2 e3:Array Edge} (hs:s.env 0=.one (.box 0)) (hf:E.G.fld T 0=some (n,0)) :
 runK E nl ops [⟨some i1,.move (.tmp 0),t1,p1,e1,none⟩,⟨some i2,.nilCheck (.tmp i1),t2,p2,e2,none⟩,⟨some i3,.fieldAddr T (.tmp i2) 0,t3,p3,e3,none⟩] s (fun s'=>s'=lockS s i1 i2 i3 n):=by
 simp only [kP,kN,zPd,pv,zQd,zPF,hs,zHx,zD5,zGr,hf,true_and]
 rfl
theorem zQj {Q:Exit→AS→Prop} (hP:C.P=Tryz.prog) (hE:KnowOK C.P E) {id i1 i2 i3 i4 n:Nat} {T t1 t2 t3 t4:TypeId} {p1 p2 p3 p4:String} {e1 e2 e3 e4:Array Edge} {ats:Array TypeId} {bs:List BV}
 (hd:zEe N [⟨some i1,.move (.tmp 0),t1,p1,e1,none⟩,⟨some i2,.nilCheck (.tmp i1),t2,p2,e2,none⟩,⟨some i3,.fieldAddr T (.tmp i2) 0,t3,p3,e3,none⟩,⟨some i4,.call {callee:=.value (.func 50),args:=#[.tmp i3],argTypes:=ats},t4,p4,e4,none⟩]=true)
 (hs:s.env 0=.one (.box 0)) (hb:s.boxes 0=some (.rcd bs)) (h0:bs[0]?=some (.raw (.int .i32 0))) (hf:E.G.fld T 0=some (n,0))
 (h:Q .normal (((lockS s i1 i2 i3 n).setBox 0 (.rcd (bs.set 0 (.raw (.int .i32 1))))).put (some i4) (.one .any))) :
 tri C N (.region id #[⟨some i1,.move (.tmp 0),t1,p1,e1,none⟩,⟨some i2,.nilCheck (.tmp i1),t2,p2,e2,none⟩,⟨some i3,.fieldAddr T (.tmp i2) 0,t3,p3,e3,none⟩,⟨some i4,.call {callee:=.value (.func 50),args:=#[.tmp i3],argTypes:=ats},t4,p4,e4,none⟩] false) Q s:=by
 refine ⟨fun γ a w hr hN=>?_⟩
 have hd':=fun (j:Nat) (o:Oper) (ho:(List.toArray [_,_,_,_])[j]?=some o)=>zBp (ops:=List.toArray [_,_,_,_]) (by simpa using hd) j o ho
 refine wp_region_lit (l:=[_,_,_,_]) ?_
 refine runK_then hE [_] hd' (K:=fun s'=>s'=lockS s i1 i2 i3 n) ?_ [_,_,_] s γ a w ?_ hN hr (zMw hs hf)
 ·rintro s' γ' a' w' h1 h2 rfl
  refine wpList_step fun K' hK'=>?_
  simp only [Region.wanted,if_true]
  unfold Oper.wp
  have hc:zBf C.P 50:=by rw [hP]; exact ⟨_,Tryz.func50,by kernel_rfl,rfl⟩
  rw [zDM hc (caps:=#[]) rfl]
  simp only [Oper.upon]
  have hv:a'.eval (.tmp i3)=.pointer (some ⟨γ'.bx 0,0,none⟩):=by
   have:=zAn h1 (.tmp i3)
   rw [zPF,show (lockS s i1 i2 i3 n).env i3=.one (.boxf 0 n 0 0) from zD5 _ _] at this
   exact this
  have e:(#[Operand.tmp i3].map a'.eval++#[]:Array Value)=#[.pointer (some ⟨γ'.bx 0,0,none⟩)]:=by simp [hv]
  rw [e]
  have hb':(lockS s i1 i2 i3 n).boxes 0=some (.rcd bs):=hb
  obtain ⟨c1,c2⟩:=zU4 h1 hb' h0
  have hlen:0<bs.length:=(List.getElem?_eq_some_iff.1 h0).1
  rw [hP]
  refine (Go.MuLone.lock_free muLib ⟨γ'.bx 0,0,none⟩ w' c1 c2).mono ?_
  rintro en w2 ⟨rfl,rfl⟩
  refine hK' _ _ (wpList_nil ?_)
  have hd4:dstOK a'.tmps.size (some i4)=true:=by
   rw [h2]
   have:=List.all_eq_true.1 hd ⟨some i4,.call {callee:=.value (.func 50),args:=#[.tmp i3],argTypes:=ats},t4,p4,e4,none⟩ (by simp)
   exact this
  exact ⟨_,γ',(zQl h1 hb' hlen (.int .i32 1) rfl).put hd4 (sv:=.one .any) trivial,by rw [zC5]; exact h2,h⟩
 ·intro o ho
  refine List.all_eq_true.1 hd o ?_
  simp only [List.mem_cons,List.not_mem_nil,or_false] at ho ⊢
  rcases ho with rfl|rfl|rfl<;>simp
theorem zDd (D:List Deferred):∀ (rs:List RV) (ids bids:List Nat) (vs:List Value),zCN (C.dsd D) γ w rs ids bids vs→zCN C γ w rs ids bids vs
 | [],_,_,_,h=>h
 | .val s x::rs,ids,bids,vs,h=>by
  obtain ⟨v,vs',h1,h2,h3⟩:=h
  exact ⟨v,vs',h1,h2,zDd D rs _ _ _ h3⟩
 | .own rc::rs,ids,bids,vs,h=>by
  obtain ⟨v,vs',i,ids',h1,h2,h3,h4,h5⟩:=h
  exact ⟨v,vs',i,ids',h1,h2,h3,⟨by rw [←zLt D]; exact h4.1,h4.2⟩,zDd D rs _ _ _ h5⟩
 | .nil::rs,ids,bids,vs,h=>by
  obtain ⟨vs',h1,h3⟩:=h
  exact ⟨vs',h1,zDd D rs _ _ _ h3⟩
 | .raw u::rs,ids,bids,vs,h=>by
  obtain ⟨vs',h1,h3⟩:=h
  exact ⟨vs',h1,zDd D rs _ _ _ h3⟩
 | .ifc::rs,ids,bids,vs,h=>by
  obtain ⟨t,u,vs',h1,h3⟩:=h
  exact ⟨t,u,vs',h1,zDd D rs _ _ _ h3⟩
 | .any::rs,ids,bids,vs,h=>by
  obtain ⟨v,vs',h1,h3⟩:=h
  exact ⟨v,vs',h1,zDd D rs _ _ _ h3⟩
 | .obj o::rs,ids,bids,vs,h=>by
  obtain ⟨vs',i,bids',h1,h2,h3,h4⟩:=h
  exact ⟨vs',i,bids',h1,h2,by rw [←zKS D]; exact h3,zDd D rs _ _ _ h4⟩
theorem zT7 {D:List Deferred} {o:Out} {v:Value} (h:OutRep (C.dsd D) γ w o v):OutRep C γ w o v:=by
 obtain ⟨⟨ids,bids,vs,h1,h2,h3,h4⟩,h5,h6,h7⟩:=h
 exact ⟨⟨ids,bids,vs,h1,zDd D _ _ _ _ h2,h3,h4⟩,fun p hp=>⟨⟨by rw [←zLt D]; exact (h5 p hp).1.1,(h5 p hp).1.2⟩,(h5 p hp).2⟩,fun p hp=>⟨by rw [←zKS D]; exact (h6 p hp).1,(h6 p hp).2⟩,h7⟩
def zCo (b:Nat):Deferred:={target:=.fn (.func 51) #[],args:=#[.pointer (some ⟨b,0,none⟩)]}
structure Held (E:Know) (nl:Nat) (rs:List ResultVar) (o:Out) (e:Exit) (s:AS):Prop where
 e:e=.normal∨e=.ret
 h:∃ bs t,s.boxes 0=some (.rcd bs)∧bs[0]?=some (.raw (.int .i32 1))∧Weak nl (s.setBox 0 (.rcd (bs.set 0 (.raw (.int .i32 0))))) t∧retOK E nl rs o t
theorem zOe (hP:C.P=Tryz.prog) (hE:KnowOK C.P E) {b:Nat} (hb0:C.lb 0=b) (hnl:0<C.nl) {fn:Func} {o:Out} {e:Exit} (h:Rel (C.dsd [zCo b]) γ s a w) (hh:Held E C.nl fn.results.toList o e s) :
 Leaves C.P fn a.tmps (fun e w'=>∃ v γ',e=.returned v∧OutRep C γ' w' o v∧Keep C.L C.w0 w') a.defers .returning w:=by
 obtain ⟨_,bs,t,h1,h2,h3,h4⟩:=hh
 have hbx:γ.bx 0=b:=(h.lent 0 hnl).2.trans hb0
 have hd:a.defers=[zCo b]:=h.defers.1
 obtain ⟨c1,c2⟩:=zU4 h h1 h2
 rw [hbx] at c1 c2
 have hw:=zQl h h1 (List.getElem?_eq_some_iff.1 h2).1 (.int .i32 0) rfl
 rw [hbx] at hw
 rw [hd]
 rw [hP]
 refine leaves_cons (f:=51) (args:=#[.pointer (some ⟨b,0,none⟩)]) (by simp) (by simp [go_sem]) ?_
 refine (Go.MuLone.unlock_deferred muLib ⟨b,0,none⟩ .returning w c1 c2).mono ?_
 rintro en u' w2 ⟨rfl,rfl,rfl⟩
 have hw2:=(show Weak (C.dsd [zCo b]).nl _ _ from h3).rel hw
 obtain ⟨v,γ',k1,k2⟩:=zDT (C:=C.dsd [zCo b]) hE hw2 (fn:=fn) h4
 have k0:(C.dsd [zCo b]).P=Tryz.prog:=hP
 rw [k0] at k1
 exact ⟨v,k1,v,γ',rfl,zT7 k2,hw2.keep⟩
theorem zJL (hP:C.P=Tryz.prog) (hE:KnowOK C.P E) {id i1 i2 i3 n:Nat} {T t1 t2 t3 t4:TypeId} {p1 p2 p3 p4:String} {e1 e2 e3 e4:Array Edge} {ats:Array TypeId} {rest:Code} {fn:Func} {o:Out}
 (hd:zEe N [⟨some i1,.move (.tmp 0),t1,p1,e1,none⟩,⟨some i2,.nilCheck (.tmp i1),t2,p2,e2,none⟩,⟨some i3,.fieldAddr T (.tmp i2) 0,t3,p3,e3,none⟩,⟨none,.defer {callee:=.value (.func 51),args:=#[.tmp i3],argTypes:=ats},t4,p4,e4,none⟩]=true)
 (hs:s.env 0=.one (.box 0)) (hf:E.G.fld T 0=some (n,0)) (hnl:0<C.nl) (hds:C.ds=[]) (hr:Rel C γ s a w) (hN:a.tmps.size=N)
 (h:tri (C.dsd [zCo (C.lb 0)]) N rest (Held E C.nl fn.results.toList o) (lockS s i1 i2 i3 n)) :
 (Code.seq (.region id #[⟨some i1,.move (.tmp 0),t1,p1,e1,none⟩,⟨some i2,.nilCheck (.tmp i1),t2,p2,e2,none⟩,⟨some i3,.fieldAddr T (.tmp i2) 0,t3,p3,e3,none⟩,⟨none,.defer {callee:=.value (.func 51),args:=#[.tmp i3],argTypes:=ats},t4,p4,e4,none⟩] false) rest).wp C.P
  (bodyPostD C.P fn (fun e w'=>∃ v γ',e=.returned v∧OutRep C γ' w' o v∧Keep C.L C.w0 w')) a w:=by
 have hd':=fun (j:Nat) (o:Oper) (ho:(List.toArray [_,_,_,_])[j]?=some o)=>zBp (ops:=List.toArray [_,_,_,_]) (by simpa using hd) j o ho
 refine wp_seq (wp_region_lit (l:=[_,_,_,_]) ?_)
 refine runK_then hE [_] hd' (K:=fun s'=>s'=lockS s i1 i2 i3 n) ?_ [_,_,_] s γ a w ?_ hN hr (zMw hs hf)
 ·rintro s' γ' a' w' h1 h2 rfl
  refine wpList_step fun K' hK'=>?_
  simp only [Region.wanted,if_true]
  have hv:a'.eval (.tmp i3)=.pointer (some ⟨γ'.bx 0,0,none⟩):=by
   have:=zAn h1 (.tmp i3)
   rw [zPF,show (lockS s i1 i2 i3 n).env i3=.one (.boxf 0 n 0 0) from zD5 _ _] at this
   exact this
  have hbx:γ'.bx 0=C.lb 0:=(h1.lent 0 hnl).2
  have hrun:(execOp a'.eval ⟨none,.defer {callee:=.value (.func 51),args:=#[.tmp i3],argTypes:=ats},t4,p4,e4,none⟩).run C.P w'=.ok (.defer (zCo (C.lb 0))) w':=by
   have e0:a'.eval (.func 51)=.func (.func 51) #[] #[]:=rfl
   simp only [execOp,resolve,e0,Deferred.ofValue,zCo]
   simp [hv,hbx]
  unfold Oper.wp
  rw [hrun]
  simp only [Oper.upon]
  refine hK' _ _ (wpList_nil ?_)
  have hdf:a'.defers=[]:=h1.defers.1.trans hds
  have h3:=zSX h1 [zCo (C.lb 0)]
  rw [hdf]
  refine wp_mono (h.run γ' _ w' h3 h2) ?_
  rintro e a2 w2 ⟨s2,γ2,k1,k2,k3⟩
  have hl:=zOe hP hE rfl hnl k1 k3
  rcases k3.e with rfl|rfl<;>exact hl
 ·intro o ho
  refine List.all_eq_true.1 hd o ?_
  simp only [List.mem_cons,List.not_mem_nil,or_false] at ho ⊢
  rcases ho with rfl|rfl|rfl<;>simp
end
end Go.Proofs.YtekfodeknpnkbaaGreatDoor
namespace Go.Proofs.YtekfodeknpnkbaaGreatDoor
open Go.RowKit Go.VS
structure triD (C:Ctx) (N:Nat) (c:Code) (Qw:Exit→Act→World→Prop) (s:AS):Prop where
 run:∀ γ a w,Rel C γ s a w→a.tmps.size=N→c.wp C.P Qw a w
section
variable {C:Ctx} {N:Nat} {Qw:Exit→Act→World→Prop} {s t:AS}
theorem zG3 {x y:Code} (h:∀ K:AS→Prop,(∀ s,triD C N y Qw s→K s)→tri C N x (thenQ K (fun _ _=>False)) s):triD C N (.seq x y) Qw s:=by
 refine ⟨fun γ a w hr hN=>wp_seq (wp_mono ((h (fun s=>triD C N y Qw s) fun _ h=>h).run γ a w hr hN) ?_)⟩
 rintro e a' w' ⟨s',γ',h1,h2,h3⟩
 cases e with
 | normal=>exact h3.run γ' a' w' h1 h2
 | _=>exact h3.elim
theorem zEz {c:Code} (hw:Weak C.nl s t) (h:triD C N c Qw t):triD C N c Qw s:=⟨fun _ a w hr hN=>h.run _ a w (hw.rel hr) hN⟩
end
abbrev hFs:List Go.VS.Fd:=[.raw .i32 0,.raw .u32 0,.val (.sl (.sl .int)),.val (.sl (.sl .int)),.val (.sl .int),.val (.sl .int),.val .int,.slk 9,.val .str]
abbrev HX:=FdT hFs
def zJZ (x:HX):List (List Int):=x.2.2.1
def hSt (x:HX):State:=(x.2.2.2.1,x.2.2.2.2.1,x.2.2.2.2.2.1,x.2.2.2.2.2.2.1)
def hOrd (x:HX):List ByteArray:=x.2.2.2.2.2.2.2.1
def hBk (x:HX):ByteArray:=x.2.2.2.2.2.2.2.2.1
def mkH (f:List (List Int)) (s:State) (ord:List ByteArray) (bk:ByteArray):HX:=((),(),f,s.1,s.2.1,s.2.2.1,s.2.2.2,ord,bk,())
@[push_cast] def zPS:Con:=⟨[.obj hFs],fun (x:HX×Unit)=>StateSz (hSt x.1),fun (x:HX×Unit)=>{res:=[.val stSh (hSt x.1),.val .str (hBk x.1)],objs:=[(0,⟨hFs,x.1⟩)]}⟩
def zZ4:Know:=know [(54,zEw)] []
theorem zTz:KnowOK Tryz.prog zZ4:=zAl (all_cons stClone_spec all_nil) all_nil all_nil
set_option maxHeartbeats 4000000 in
theorem zCf:FnSpec Tryz.prog 63 zPS:=by
 refine ⟨⟨_,Tryz.func63,by kernel_rfl,rfl⟩,fun C γ x vs hpre hen=>?_⟩
 have hP:=hen.P
 have hnl:C.nl=1:=hen.nl
 have hE:KnowOK C.P (know [(54,zEw)] []):=by rw [hP]; exact zTz
 have hlen:=zA0 _ _ hen.args
 have hr:=zEi hen (20 - vs.length)
 have hdsn:C.ds=[]:=hen.ds.1
 obtain ⟨⟨⟨⟩,⟨⟩,(f:List (List Int)),(c:List (List Int)),(a:List Int),(b:List Int),(w:Int),(ord:List ByteArray),(bk:ByteArray),⟨⟩⟩,⟨⟩⟩:=x
 have hlen':vs.length=1:=hlen.symm ▸ rfl
 rw [←hP]
 refine calls_of_wp_defers (by rw [hP]; exact Tryz.func63) rfl ?_
 rw [List.size_toArray]
 refine triD.run (N:=20) ?_ γ _ _ hr (by simp [hlen'])
 refine zEz (t:=AS.of [(0,.one (.box 0))] [] [(0,.rcd [.raw (.int .i32 0),.raw (.int .u32 0),.val (.sl (.sl .int)) f,.val (.sl (.sl .int)) c,.val (.sl .int) a,.val (.sl .int) b,.val .int w,.mk 0 9 .str ord,.val .str bk])]) ?_ ?_
 ·refine zAf ?_ ?_ ?_<;>simp only [push_cast,seval,reduceCtorEq]
 clear hr hlen hlen' hen
 refine zG3 fun K hK=>?_
 repeat' (first|(refine zAa hE rfl ?_; simp +contextual only [hnl,↓kA,push_cast,seval,reduceCtorEq])|fail)
 refine hK _ ?_
 clear hK K
 refine zEz (t:=AS.of [(0,.one (.box 0)),(2,.one (.box 2))] [] [(0,.rcd [.raw (.int .i32 0),.raw (.int .u32 0),.val (.sl (.sl .int)) f,.val (.sl (.sl .int)) c,.val (.sl .int) a,.val (.sl .int) b,.val .int w,.mk 0 9 .str ord,.val .str bk]),(2,.rcd [.nils,.nils,.nils,.val .int 0])]) ?_ ?_
 ·refine zAf ?_ ?_ ?_<;>simp only [push_cast,seval,reduceCtorEq]
 refine zG3 fun K hK=>?_
 refine zQj hP hE rfl rfl rfl rfl (n:=5) rfl ?_
 refine hK _ ?_
 clear hK K
 refine zEz (t:=AS.of [(0,.one (.box 0)),(2,.one (.box 2))] [] [(0,.rcd [.raw (.int .i32 1),.raw (.int .u32 0),.val (.sl (.sl .int)) f,.val (.sl (.sl .int)) c,.val (.sl .int) a,.val (.sl .int) b,.val .int w,.mk 0 9 .str ord,.val .str bk]),(2,.rcd [.nils,.nils,.nils,.val .int 0])]) ?_ ?_
 ·unfold lockS
  refine zAf ?_ ?_ ?_<;>simp only [push_cast,seval,reduceCtorEq]
 refine ⟨fun γ0 a0 w0 hr hN=>zJL hP hE (n:=5) rfl rfl rfl (by rw [hnl]; decide) hdsn hr hN ?_⟩
 clear hr hN
 rw [hnl]
 have hE1:KnowOK (C.dsd [zCo (C.lb 0)]).P (know [(54,zEw)] []):=hE
 have hnl1:(C.dsd [zCo (C.lb 0)]).nl=1:=hnl
 generalize C.dsd [zCo (C.lb 0)]=C1 at hE1 hnl1 ⊢
 clear hE hnl
 have hE:=hE1
 have hnl:=hnl1
 refine zAo (t:=AS.of [(0,.one (.box 0)),(2,.one (.box 2))] [] [(0,.rcd [.raw (.int .i32 1),.raw (.int .u32 0),.val (.sl (.sl .int)) f,.val (.sl (.sl .int)) c,.val (.sl .int) a,.val (.sl .int) b,.val .int w,.mk 0 9 .str ord,.val .str bk]),(2,.rcd [.nils,.nils,.nils,.val .int 0])]) ?_ ?_
 ·unfold lockS
  refine zAf ?_ ?_ ?_<;>simp only [push_cast,seval,reduceCtorEq]
 have hsz:StateSz (c,a,b,w):=hpre
 replace hnl:=And.intro hnl (eq_true hsz)
 repeat' (first|(refine zAb fun K hK=>?_)|fail)
 refine zBL hE (fun D s=>s.env 0=.one (.box 0) ∧
  s.env 2=.one (.box 2) ∧
  s.boxes 0=some (.rcd [.raw (.int .i32 1),.raw (.int .u32 0),.val (.sl (.sl .int)) f,.val (.sl (.sl .int)) c,.val (.sl .int) a,.val (.sl .int) b,.val .int w,.mk 0 9 .str ord,.val .str bk]) ∧
  (D 0=true→s.env 11=.one (.box 0)) ∧
  (D 1=true→s.env 12=.one (.box 0)) ∧
  (D 2=true→s.env 13=.one (.boxf 0 5 2 3)) ∧
  (D 3=true→s.env 14=.one (.val stSh (c,a,b,w))) ∧
  (D 4=true→s.env 15=.one (.val stSh (c,a,b,w))) ∧
  (D 5=true→s.env 16=.one (.box 0)) ∧
  (D 6=true→s.env 17=.one (.box 0)) ∧
  (D 7=true→s.env 18=.one (.boxf 0 5 4 8)) ∧
  (D 8=true→s.env 19=.one (.val .str bk)) ∧
  (D 9=false→s.boxes 2=some (.rcd [.nils,.nils,.nils,.val .int 0])) ∧
  (D 9=true→s.boxes 2=some (.one (.val stSh (c,a,b,w)))) ∧
  (D 10=true→s.env 3=.one (.val .str bk))) rfl (by kernel_rfl) ?_ ?_ ?_
 ·dsimp only
  simp only [push_cast,seval,reduceCtorEq]
 ·refine ⟨fun D s h0 hp hI=>?_,fun D s h0 hp hI=>?_,fun D s h0 hp hI=>?_,fun D s h0 hp hI=>?_,fun D s h0 hp hI=>?_,fun D s h0 hp hI=>?_,fun D s h0 hp hI=>?_,fun D s h0 hp hI=>?_,fun D s h0 hp hI=>?_,fun D s h0 hp hI=>?_,fun D s h0 hp hI=>?_,trivial⟩
  all_goals obtain ⟨e0,e2,b0,f0,f1,f2,f3,f4,f5,f6,f7,f8,g2,g9,f10⟩:=hI
  all_goals (try simp [preds,Region.binds] at hp)
  all_goals (simp +contextual only [*,setD,↓kN,↓kP,push_cast,seval,reduceCtorEq])
 intro D s hD hI
 obtain ⟨e0,e2,b0,f0,f1,f2,f3,f4,f5,f6,f7,f8,g2,g9,f10⟩:=hI
 have v2:=g9 (hD 9 (by decide))
 have v3:=f10 (hD 10 (by decide))
 refine goK hK ?_
 refine zAo (t:=AS.of [(0,.one (.box 0)),(2,.one (.box 2)),(3,.one (.val .str bk))] [] [(0,.rcd [.raw (.int .i32 1),.raw (.int .u32 0),.val (.sl (.sl .int)) f,.val (.sl (.sl .int)) c,.val (.sl .int) a,.val (.sl .int) b,.val .int w,.mk 0 9 .str ord,.val .str bk]),(2,.one (.val stSh (c,a,b,w)))]) ?_ ?_
 ·refine zAf ?_ ?_ ?_<;>simp only [v2,v3,e0,e2,b0,push_cast,seval,reduceCtorEq]
 clear hK hD
 refine zAi ?_
 refine ⟨.inr rfl,_,AS.of [(0,.one (.box 0)),(2,.one (.box 2)),(3,.one (.val .str bk))] [] [(0,.rcd [.raw (.int .i32 0),.raw (.int .u32 0),.val (.sl (.sl .int)) f,.val (.sl (.sl .int)) c,.val (.sl .int) a,.val (.sl .int) b,.val .int w,.mk 0 9 .str ord,.val .str bk]),(2,.one (.val stSh (c,a,b,w)))],rfl,rfl,?_,?_⟩
 ·refine zAf ?_ ?_ ?_<;>simp only [push_cast,seval,reduceCtorEq]
 ·simp only [hSt,hBk,hnl,Tryz.results63,push_cast,seval,reduceCtorEq]
end Go.Proofs.YtekfodeknpnkbaaGreatDoor
namespace Go.Proofs.YtekfodeknpnkbaaGreatDoor
open Go.RowKit Go.VS
section
variable {C:Ctx} {γ:Gam} {s:AS} {a:Act} {w w':World}
theorem zMY {fn:Func} {x:Tmp} {t:TypeId} (h:fn.results=#[.cell x t]) {P:Program} {tmps:Array Value} {v:Value} (hr:(do loadVar t (←asAddr (tmps.getD x undef)):Sem Value).run P w=.ok v w):(results fn tmps).run P w=.ok v w:=by
 let rd:ResultVar→Sem Value:=fun
  | .tmp t=>pure (tmps.getD t undef)
  | .cell x t=>do loadVar t (←asAddr (tmps.getD x undef))
 have hmap:=zHT fn.results (f:=rd) (g:=fun _=>v) (P:=P) (w:=w) (fun r hm=>by
  rw [h] at hm
  simp only [List.mem_singleton] at hm
  subst hm
  exact hr)
 have e0:results fn tmps=(do let vs ←fn.results.mapM rd; pure (if h:vs.size=1 then vs[0] else .tuple vs):Sem Value):=rfl
 rw [e0,Sem.run_bind,hmap,h]
 simp
theorem _root_.Go.VS.Rel.know (h:Rel C γ s a w) (i:Nat) {sv:SV} (hv:svRep C γ w sv (a.tmps.getD i undef)):Rel C γ (s.put (some i) sv) a w:=by
 refine ⟨h.defers,h.keep,h.ownlt,h.lent,fun j=>?_,h.roots,h.boxes⟩
 simp only [AS.put,upd]
 split
 ·rename_i e; subst e; exact hv
 ·exact h.env j
theorem zTe (vs:List Value) (n i:Nat):(vs.toArray++Array.replicate n undef).getD i undef=vs.getD i undef:=by
 rw [Array.getD_eq_getD_getElem?,Array.getElem?_append,List.getD_eq_getElem?_getD]
 split
 ·simp
 ·rename_i h
  simp at h
  rw [List.getElem?_eq_none h]
  simp only [Array.getElem?_replicate,List.size_toArray,Option.getD_none]
  split<;>rfl
theorem zUu (h:Rel C γ s a w) (d:Nat) (hnd:C.nl≤d) {nb:Nat} (hnb:w.heap.size≤nb) (hk:Keep (fun _=>False) w w') {cs:Array Value} {t:TypeId} (hcell:w'.heap[nb]?=some (.cells cs t (0,0))) {sv:SV}
 (hsv:zBb C (zAK γ d nb) w' sv cs.toList) (h1:∀ u∈cs.toList,u.oneCell'=true):Rel C (zAK γ d nb) ((s.map (killB d)).setBox d sv) a w':=by
 have hlt:nb<w'.heap.size:=(Array.getElem?_eq_some_iff.1 hcell).1
 have hsame:∀ b,b<w.heap.size→(zAK γ d nb).own b=γ.own b:=fun b hb=>by
  simp only [zAK]
  rw [if_neg (by omega)]
 have hblk:∀ b,b<w.heap.size→w'.heap[b]?=w.heap[b]?:=fun b hb=>hk.block b hb (fun h=>h)
 have hkeep:∀ b l,γ.own b=some l→(zAK γ d nb).own b=some l∧w'.heap[b]?=w.heap[b]?:=fun b l hb=>⟨by rw [hsame b (h.ownlt b l hb)]; exact hb,hblk b (h.ownlt b l hb)⟩
 have hsub:Sub C γ w (zAK γ d nb) w':=⟨hk.size,fun b hb hz=>⟨⟨hz.1,by rw [hsame b hb]; exact hz.2⟩,hblk b hb⟩,fun b d hb ho=>⟨by rw [hsame b hb]; exact ho,hblk b hb⟩⟩
 have hK:Forgets (killB d) γ (zAK γ d nb):=by
  intro b
  by_cases h1:killB d b=.any
  ·exact .inl h1
  ·exact .inr ⟨(zLc d b).resolve_left h1,zGk h1 (fun _=>rfl) (fun _ _=>rfl) (fun y hy=>by simp only [zAK,upd]; rw [if_neg hy])⟩
 have m:Go.VS.Move C γ w ⟨γ.hs,γ.rs,γ.bx,(zAK γ d nb).own⟩ w' (fun _=>False) :=
  ⟨⟨hk.size,hsub.zn,hsub.made⟩,h.keep.step hk (fun _ hf=>hf.elim),fun k l hkl=>by
    simp only [zAK] at hkl
    split at hkl
    ·rename_i e; omega
    ·exact Nat.lt_of_lt_of_le (h.ownlt k l hkl) hk.size,fun r hr=>(h.lent r hr).1,fun _ _=>rfl,fun _ _ _=>rfl,fun _=>rfl,fun b l hb _=>hkeep b l hb⟩
 refine ⟨h.defers,m.keep,m.ownlt,fun r hr=>⟨(h.lent r hr).1,by simp only [zAK,upd]; rw [if_neg (by omega)]; exact (h.lent r hr).2⟩,fun i=>zGZ hsub hK (h.env i),fun p rc hp=>?_,fun b sv' hb=>?_⟩
 ·have h2:=m.root (fun hf=>hf) (h.roots p rc hp)
  cases rc with
  | rags e sh xss =>
   obtain ⟨vs,k1,k2,k3⟩:=h2
   exact ⟨vs,k1,k2,zAF (γ:=⟨γ.hs,γ.rs,γ.bx,(zAK γ d nb).own⟩) (γ':=zAK γ d nb) ⟨Nat.le_refl _,fun b _ hz=>⟨hz,rfl⟩,fun b d _ ho=>⟨ho,rfl⟩⟩ _ _ (fun b hb=>by obtain ⟨y,_,rfl⟩:=List.mem_map.1 hb; trivial) k3⟩
  | _=>exact h2
 ·simp only [AS.setBox,upd] at hb
  split at hb
  ·rename_i e
   subst e
   simp only [Option.some.injEq] at hb
   subst hb
   have hbx:(zAK γ b nb).bx b=nb:=by simp [zAK,upd]
   refine ⟨cs,t,?_,hsv,h1,?_,?_⟩
   ·rw [hbx]; exact hcell
   ·rw [hbx]; simp [zAK]
   ·rw [hbx]; exact .inl (Nat.le_trans h.keep.size hnb)
  ·rename_i e
   obtain ⟨sv0,h2,rfl⟩:=zGt hb
   obtain ⟨cs',t',d1,d2,d3,d4,d5⟩:=h.boxes b sv0 h2
   have hbx:(zAK γ d nb).bx b=γ.bx b:=by simp only [zAK,upd]; rw [if_neg e]
   refine ⟨cs',t',?_,zC8 hsub hK d2,d3,?_,?_⟩<;>rw [hbx]
   ·rw [(hkeep _ _ d4).2]; exact d1
   ·exact (hkeep _ _ d4).1
   ·exact d5
end
noncomputable def ctx0 (w:World) (Z:Nat→Prop):Ctx:=⟨Tryz.prog,fun _=>False,w,Z,0,fun _=>undef,fun _=>0,[]⟩
structure Cloned (w w1:World) (Z:Nat→Prop) (st:State) (v:Value):Prop where
 keep:Keep (fun _=>False) w w1
 h:∃ γ,v=.agg #[γ.hd 27,γ.hd 8,γ.hd 11,.int .i64 st.2.2.2]∧rcRep (ctx0 w Z) γ w1 27 (.deep 38 3 .int st.1)∧rcRep (ctx0 w Z) γ w1 8 (.flat 3 .int st.2.1)∧rcRep (ctx0 w Z) γ w1 11 (.flat 3 .int st.2.2.1)∧∀ g l,γ.own g=some l→g<w1.heap.size
theorem zSJ {w:World} (hg:Gd Tryz.prog w) (Z:Nat→Prop) {st:State} (hs:StateSz st) {v0:Value} (hv:vrep w Z stSh st v0) :
 Calls Tryz.prog 54 #[v0] w (fun e w1=>∃ v,e=.returned v∧Cloned w w1 Z st v):=by
 have hen:Entry (ctx0 w Z) gam0 Tryz.prog [.dat stSh] (st,()) [v0]:=⟨rfl,rfl,⟨rfl,hg,fun k hk=>hk.elim⟩,fun r hr=>absurd hr (Nat.not_lt_zero r),fun k l hk=>by simp [gam0] at hk,⟨v0,[],rfl,zAq (fun b hb=>⟨.inl hb,rfl⟩) hv,rfl⟩,fun p hp=>(by cases hp),fun p hp=>(by cases hp)⟩
 have hr:=zEi hen 30
 have hE:KnowOK (ctx0 w Z).P (know [(103,zGw)] []):=zLX
 obtain ⟨code,hcode⟩:∃ code,Tryz.f54.body=some code:=⟨_,rfl⟩
 have h0:Rel (ctx0 w Z) gam0 (AS.of [(0,.one (.val stSh st))] [] []) {tmps:=[v0].toArray++Array.replicate (Tryz.f54.ntmps - [v0].length) undef,defers:=[]} w:=hr
 refine zUE (C:=ctx0 w Z) (fn:=Tryz.f54) Tryz.func54 hcode rfl (Nat.le_of_ble_eq_true rfl) h0 (zLY hE rfl st hs hcode) (fun e s h=>h.e) ?_
 intro e s' γ' a' w1 hrel hq
 have hrel2:=(show Weak (ctx0 w Z).nl s' (zC1 st) from hq.h).rel hrel
 obtain ⟨v,h1,h2⟩:=zMX hE hrel2 (.cell 2 97) (by unfold zC1; simp only [push_cast,seval,reduceCtorEq])
 have hres:=zMY (fn:=Tryz.f54) (x:=2) (t:=97) rfl h1
 have h3:svRep (ctx0 w Z) (zAI γ' s' (zC1 st)) w1 (.rcd [.ref 27,.ref 8,.ref 11,.val .int st.2.2.2]) v:=by
  have e:(resSV (know [(103,zGw)] []) (zC1 st) (.cell 2 97)).2=.rcd [.ref 27,.ref 8,.ref 11,.val .int st.2.2.2]:=by unfold zC1; simp only [push_cast,seval,reduceCtorEq]
  rw [←e]; exact h2
 refine ⟨v,hres,v,rfl,hrel2.keep,zAI γ' s' (zC1 st),?_,hrel2.roots 27 _ rfl,hrel2.roots 8 _ rfl,hrel2.roots 11 _ rfl,hrel2.ownlt⟩
 obtain ⟨vs,rfl,⟨v1,_,rfl,k1,v2,_,rfl,k2,v3,_,rfl,k3,v4,_,rfl,k4,rfl⟩,_⟩:=h3
 obtain rfl:v4=.int .i64 st.2.2.2:=zAH k4
 simp only [bvRep] at k1 k2 k3
 rw [k1,k2,k3]
def doLoc:Go.VS.Loc→Option Go.VS.Loc
 | .hd 27=>some (.hd 1)
 | .hd 8=>some (.hd 2)
 | .hd 11=>some (.hd 3)
 | .row 27 i=>some (.row 1 i)
 | _=>none
noncomputable def doGam (γ:Gam) (n nb:Nat):Gam:=⟨fun k=>if k=1 then γ.hs 27 else if k=2 then γ.hs 8 else γ.hs 11,fun _ i=>γ.rs 27 i,fun _=>nb,fun g=>if g=nb then some (.bx 0) else if n≤g then (γ.own g).bind doLoc else none⟩
noncomputable def doCtx (γ:Gam) (n nb:Nat) (w2:World) (Z:Nat→Prop):Ctx:=⟨Tryz.prog,fun g=>n≤g,w2,Z,4,fun k=>(doGam γ n nb).hd k,fun _=>nb,[]⟩
structure Done (w2 w3:World) (n nb:Nat) (Z:Nat→Prop) (st:State):Prop where
 keep:Keep (fun g=>n≤g) w2 w3
 h:∃ cs t,w3.heap[nb]?=some (.cells cs t (0,0))∧(∀ u∈cs.toList,u.oneCell'=true)∧∃ v1 v2 v3,cs.toList=[v1,v2,v3,.int .i64 st.2.2.2]∧vrep w3 (fun g=>(Z g∨n≤g)∧g≠nb) (.sl (.sl .int)) st.1 v1∧vrep w3 (fun g=>(Z g∨n≤g)∧g≠nb) (.sl .int) st.2.1 v2∧vrep w3 (fun g=>(Z g∨n≤g)∧g≠nb) (.sl .int) st.2.2.1 v3
theorem zZw {w w1 w2:World} {Z:Nat→Prop} {st:State} {v:Value} (hc:Cloned w w1 Z st v) (hg:Gd Tryz.prog w2) (hgo:∀ n∈zDN,∀ g,Tryz.prog.globalNamed n=some g→g<w.heap.size) {nb:Nat} {t:TypeId} (hnb:w1.heap.size≤nb) (hZ:∀ g,Z g→g<w.heap.size) (hk:Keep (fun _=>False) w1 w2)
 (hcell:∃ cs,v=.agg cs∧w2.heap[nb]?=some (.cells cs t (0,0))) (k:Nat) (l:List Int) (hpre:DoPre k l st) {vl:Value} (hl:vrep w2 Z (.sl .int) l vl) :
 Calls Tryz.prog 55 #[.pointer (some ⟨nb,0,none⟩),.int .i64 k,vl] w2 (fun e w3=>e=.returned (errV 147 (doV k l st).1)∧Done w2 w3 w.heap.size nb Z (doV k l st).2):=by
 obtain ⟨hkeep,γ,hv,h27,h8,h11,holt⟩:=hc
 obtain ⟨cs,hcs,hcell⟩:=hcell
 rw [hv] at hcs
 simp only [Value.agg.injEq] at hcs
 subst hcs
 have hsz:w.heap.size≤w1.heap.size:=hkeep.size
 have hnb2:nb<w2.heap.size:=(Array.getElem?_eq_some_iff.1 hcell).1
 have hd1:(doGam γ w.heap.size nb).hd 1=γ.hd 27:=rfl
 have hd2:(doGam γ w.heap.size nb).hd 2=γ.hd 8:=rfl
 have hd3:(doGam γ w.heap.size nb).hd 3=γ.hd 11:=rfl
 have hown:∀ (u:Value) (p q:Go.VS.Loc),doLoc p=some q→(∀ g,u.ownBlock=some g→g<w1.heap.size)→ownB (ctx0 w Z) γ u p→ownB (doCtx γ w.heap.size nb w2 Z) (doGam γ w.heap.size nb) u q:=fun u p q hpq hlt ho g hu=>by
  obtain ⟨e1,e2⟩:=ho g hu
  have e3:w.heap.size≤g:=by
   rcases e2 with e2|e2
   ·exact e2
   ·exact e2.elim
  have e4:=hlt g hu
  refine ⟨?_,.inr e3⟩
  simp only [doGam]
  rw [if_neg (by omega),if_pos e3,e1]
  exact hpq
 have hrow:∀ {e sz n:Nat} {u:Value} {xs:List Value},w1.ownsRow 0 e sz u n xs→w2.ownsRow 0 e sz u n xs∧∀ g,u.ownBlock=some g→g<w1.heap.size:=fun {e sz n u xs} h=>⟨zIc h fun g hu=>hk.block g (zMH h hu) (fun h=>h),fun g hu=>zMH h hu⟩
 have r1:rcRep (doCtx γ w.heap.size nb w2 Z) (doGam γ w.heap.size nb) w2 1 (.deep 38 3 .int st.1):=by
  obtain ⟨q1,q2,q3,q4⟩:=h27
  refine ⟨q1,by rw [hd1]; exact (hrow q2).1,by rw [hd1]; exact hown _ _ _ rfl (hrow q2).2 q3,fun i xs hi=>?_⟩
  obtain ⟨k1,k2⟩:=q4 i xs hi
  exact ⟨(hrow k1).1,hown _ _ _ rfl (hrow k1).2 k2⟩
 have r2:rcRep (doCtx γ w.heap.size nb w2 Z) (doGam γ w.heap.size nb) w2 2 (.flat 3 .int st.2.1):=by
  obtain ⟨q1,q2,q3⟩:=h8
  exact ⟨q1,by rw [hd2]; exact (hrow q2).1,by rw [hd2]; exact hown _ _ _ rfl (hrow q2).2 q3⟩
 have r3:rcRep (doCtx γ w.heap.size nb w2 Z) (doGam γ w.heap.size nb) w2 3 (.flat 3 .int st.2.2.1):=by
  obtain ⟨q1,q2,q3⟩:=h11
  exact ⟨q1,by rw [hd3]; exact (hrow q2).1,by rw [hd3]; exact hown _ _ _ rfl (hrow q2).2 q3⟩
 have hle3:3≤Tryz.f55.ntmps:=Nat.le_of_ble_eq_true rfl
 have hrel:Rel (doCtx γ w.heap.size nb w2 Z) (doGam γ w.heap.size nb) (doIn k l st) {tmps:=[Value.pointer (some ⟨nb,0,none⟩),.int .i64 (k:Int),vl].toArray++Array.replicate (Tryz.f55.ntmps - [Value.pointer (some ⟨nb,0,none⟩),.int .i64 (k:Int),vl].length) undef,defers:=[]} w2:=by
  refine ⟨⟨rfl,hg,fun g hL n hn he=>?_⟩,Keep.refl _ _,fun g lo hgo'=>?_,fun r _=>⟨rfl,rfl⟩,fun i=>?_,fun r rc hr=>?_,fun b sv hb=>?_⟩
  ·have:=hgo n hn g he
   have hL':w.heap.size≤g:=hL
   omega
  ·simp only [doGam] at hgo'
   split at hgo'
   ·rename_i e; rw [e]; exact hnb2
   ·split at hgo'
    ·cases ho:γ.own g with
     | none=>rw [ho] at hgo'; simp at hgo'
     | some lo'=>exact Nat.lt_of_lt_of_le (holt g lo' ho) hk.size
    ·cases hgo'
  ·show svRep _ _ _ _ ((List.toArray _++Array.replicate _ undef).getD i undef)
   rw [zTe]
   match i with
   | 0=>exact rfl
   | 1=>exact ⟨_,rfl,rfl⟩
   | 2 =>
    refine zAq (fun b hb=>⟨.inl hb,?_⟩) hl
    have:=hZ b hb
    simp only [doGam]
    rw [if_neg (by omega),if_neg (by omega)]
   | i+3=>trivial
  ·simp only [doIn,AS.of,List.map_cons,List.map_nil] at hr
   by_cases e1:r=1
   ·subst e1
    obtain rfl:RC.deep 38 3 .int st.1=rc:=by simpa [lk] using hr
    exact r1
   by_cases e2:r=2
   ·subst e2
    obtain rfl:RC.flat 3 .int st.2.1=rc:=by simpa [lk] using hr
    exact r2
   by_cases e3:r=3
   ·subst e3
    obtain rfl:RC.flat 3 .int st.2.2.1=rc:=by simpa [lk] using hr
    exact r3
   ·simp [lk,e1,e2,e3] at hr
  ·simp only [doIn,AS.of,List.map_cons,List.map_nil] at hb
   by_cases e1:b=0
   ·subst e1
    obtain rfl:SV.rcd [.ref 1,.ref 2,.ref 3,.val .int st.2.2.2]=sv:=by simpa [lk] using hb
    refine ⟨_,t,hcell,⟨_,_,rfl,hd1.symm,_,_,rfl,hd2.symm,_,_,rfl,hd3.symm,_,_,rfl,⟨_,rfl,rfl⟩,rfl⟩,?_,?_,.inr (show w.heap.size≤nb by omega)⟩
    ·intro u hu
     simp only [List.mem_cons,List.not_mem_nil,or_false] at hu
     rcases hu with rfl|rfl|rfl|rfl<;>rfl
    ·show (doGam γ w.heap.size nb).own nb=_
     simp only [doGam,if_true]
   ·simp [lk,e1] at hb
 obtain ⟨code,hcode⟩:∃ code,Tryz.f55.body=some code:=⟨_,rfl⟩
 refine zUE (vs:=[Value.pointer (some ⟨nb,0,none⟩),.int .i64 (k:Int),vl]) (C:=doCtx γ w.heap.size nb w2 Z) (fn:=Tryz.f55) Tryz.func55 hcode rfl hle3 hrel (zZx rfl (show KnowOK _ (know _ []) from zSZ) rfl k l st hpre hcode) (fun e s h=>h.e) ?_
 intro e s' γ' a' w3 hr3 hq
 have hrel2:=(show Weak (doCtx γ w.heap.size nb w2 Z).nl s' (doOut k l st) from hq.h).rel hr3
 have h6:=hrel2.env 6
 have h6':a'.tmps.getD 6 undef=errV 147 (doV k l st).1:=zOF h6
 refine ⟨a'.tmps.getD 6 undef,results_tmp rfl _ _ _,by rw [h6'],hrel2.keep,?_⟩
 obtain ⟨cs,tt,d1,d2,d3,d4,_⟩:=hrel2.boxes 0 _ rfl
 have hbx:(zAI γ' s' (doOut k l st)).bx 0=nb:=(hrel2.lent 0 (show 0<4 by decide)).2
 rw [hbx] at d1 d4
 obtain ⟨v1,_,e1,k1,v2,_,rfl,k2,v3,_,rfl,k3,v4,_,rfl,k4,rfl⟩:=d2
 obtain rfl:v4=.int .i64 (doV k l st).2.2.2.2:=zAH k4
 have hzone:∀ b,(doCtx γ w.heap.size nb w2 Z).zn (zAI γ' s' (doOut k l st)) b→(Z b∨w.heap.size≤b)∧b≠nb:=fun b hb=>by
  obtain ⟨h1,h2⟩:=hb
  refine ⟨?_,fun e=>?_⟩
  ·rcases h1 with h1|h1|h1
   ·exact .inl h1
   ·have h1':w2.heap.size≤b:=h1
    have:=hk.size
    exact .inr (by omega)
   ·exact .inr h1
  ·rw [e,d4] at h2; cases h2
 exact ⟨cs,tt,d1,d3,v1,v2,v3,e1,zAq hzone k1,zAq hzone k2,zAq hzone k3⟩
end Go.Proofs.YtekfodeknpnkbaaGreatDoor
namespace Go.Proofs.YtekfodeknpnkbaaGreatDoor
open Go.RowKit Go.VS
theorem zRt {w:World} {Z:Nat→Prop} (s:Sh) (x:s.T) (cs:List Value) (h:pers w Z s x cs):pers w (fun b=>Z b∧b<w.heap.size) s x cs :=
 zAx (Nat.le_refl _) (fun b hb hz=>⟨⟨hz,hb⟩,rfl⟩) s x cs h
theorem zKH {w:World} {Z:Nat→Prop} {s:Sh} {x:s.T} {v:Value} (h:vrep w Z s x v):vrep w (fun b=>Z b∧b<w.heap.size) s x v :=
 let ⟨cs,h1,h2⟩:=h
 ⟨cs,zRt s x cs h1,h2⟩
theorem zKj {a:Act} {d:Nat} {v:Value} (hd:d<a.tmps.size):(a.put (some d) v).tmps.getD d undef=v:=by rw [zLs hd,if_pos rfl]
theorem zDR {a:Act} {d i:Nat} {v u:Value} (hd:d<a.tmps.size) (hi:i≠d) (h:a.tmps.getD i undef=u):(a.put (some d) v).tmps.getD i undef=u:=by rw [zLs hd,if_neg hi]; exact h
theorem zF2 {P:Program} {ops:Array Oper} {rest:List Oper} {o:Oper} {a:Act} {w w':World} {Q:Exit→Act→World→Prop} {v:Value} (hg:o.guard=none) (hrun:(execOp a.eval o).run P w=.ok (.value v) w') (h:wpList P ops Q rest (a.put o.dst v) w'):wpList P ops Q (o::rest) a w:=by
 refine wpList_plain hg fun K' hK'=>?_
 unfold Oper.wp
 rw [hrun]
 exact hK' _ _ h
theorem zSd {P:Program} {ops:Array Oper} {rest:List Oper} {o:Oper} {a:Act} {w w':World} {Q:Exit→Act→World→Prop} (hg:o.guard=none) (hrun:(execOp a.eval o).run P w=.ok .skip w') (h:wpList P ops Q rest (a.put o.dst undef) w'):wpList P ops Q (o::rest) a w:=by
 refine wpList_plain hg fun K' hK'=>?_
 unfold Oper.wp
 rw [hrun]
 exact hK' _ _ h
set_option maxHeartbeats 4000000 in
theorem zYT {C:Ctx} {E:Know} {s:AS} {Q:Exit→AS→Prop} (hP:C.P=Tryz.prog) (hE:KnowOK C.P E) (hG:E.G=tab.lang) {id1 id2:Nat} {at1 at2:Array TypeId} {t1 t2 t3 t4 t5 t6 t7 t8 t9 t10 t11:TypeId} {p1 p2 p3 p4 p5 p6 p7 p8 p9 p10 p11:String} {e1 e2 e3 e4 e5 e6 e7 e8 e9 e10 e11:Array Edge} {rest rest2:Code}
 {k:Nat} {l:List Int} {t:ByteArray} {f c:List (List Int)} {ma mb:List Int} {wst:Int} {ord:List ByteArray} {bk:ByteArray} (hnl:C.nl≤8) (h0:s.env 0=.one (.box 0)) (hs1:s.env 1=.one (.val .str t)) (h5:s.env 5=.one (.val .int (k:Int))) (h6:s.env 6=.one (.val (.sl .int) l))
 (hb:s.boxes 0=some (.rcd [.raw (.int .i32 1),.raw (.int .u32 0),.val (.sl (.sl .int)) f,.val (.sl (.sl .int)) c,.val (.sl .int) ma,.val (.sl .int) mb,.val .int wst,.mk 0 9 .str ord,.val .str bk])) (hsz:StateSz (c,ma,mb,wst)) (hpre:DoPre k l (c,ma,mb,wst))
 (hrest:∀ S:AS,S.env 0=.one (.box 0)→S.env 1=.one (.val .str t)→S.env 8=.one (.box 8)→S.env 9=.one (.val (.err 147) (doV k l (c,ma,mb,wst)).1) →
  S.boxes 0=some (.rcd [.raw (.int .i32 1),.raw (.int .u32 0),.val (.sl (.sl .int)) f,.val (.sl (.sl .int)) c,.val (.sl .int) ma,.val (.sl .int) mb,.val .int wst,.mk 0 9 .str ord,.val .str bk]) →
  S.boxes 8=some (.rcd [.val (.sl (.sl .int)) (doV k l (c,ma,mb,wst)).2.1,.val (.sl .int) (doV k l (c,ma,mb,wst)).2.2.1,.val (.sl .int) (doV k l (c,ma,mb,wst)).2.2.2.1,.val .int (doV k l (c,ma,mb,wst)).2.2.2.2])→tri C 72 rest (thenQ (tri C 72 rest2 Q) Q) S) :
 tri C 72 (.seq (.region id1 #[⟨some 35,.move (.tmp 0),t1,p1,e1,none⟩,⟨some 36,.nilCheck (.tmp 35),t2,p2,e2,none⟩,⟨some 37,.fieldAddr 99 (.tmp 36) 2,t3,p3,e3,none⟩,⟨some 38,.load 97 (.tmp 37),t4,p4,e4,none⟩,⟨some 39,.call {callee:=.value (.func 54),args:=#[.tmp 38],argTypes:=at1},t5,p5,e5,none⟩,⟨some 8,.alloc 97,t6,p6,e6,none⟩,⟨none,.store 97 (.tmp 8) (.tmp 39),t7,p7,e7,none⟩] false) (.seq (.seq (.region id2 #[⟨some 40,.move (.tmp 5),t8,p8,e8,none⟩,⟨some 41,.move (.tmp 6),t9,p9,e9,none⟩,⟨some 42,.call {callee:=.value (.func 55),args:=#[.tmp 8,.tmp 40,.tmp 41],argTypes:=at2},t10,p10,e10,none⟩,⟨some 9,.assign (.tmp 42),t11,p11,e11,none⟩] false) rest) rest2)) Q s:=by
 refine ⟨fun γ a w hr hN=>?_⟩
 have hd:zEe 72 [⟨some 35,.move (.tmp 0),t1,p1,e1,none⟩,⟨some 36,.nilCheck (.tmp 35),t2,p2,e2,none⟩,⟨some 37,.fieldAddr 99 (.tmp 36) 2,t3,p3,e3,none⟩,⟨some 38,.load 97 (.tmp 37),t4,p4,e4,none⟩,⟨some 39,.call {callee:=.value (.func 54),args:=#[.tmp 38],argTypes:=at1},t5,p5,e5,none⟩,⟨some 8,.alloc 97,t6,p6,e6,none⟩,⟨none,.store 97 (.tmp 8) (.tmp 39),t7,p7,e7,none⟩]=true:=rfl
 have hd':=fun (j:Nat) (o:Oper) (ho:(List.toArray [_,_,_,_,_,_,_])[j]?=some o)=>zBp (ops:=List.toArray [_,_,_,_,_,_,_]) (by simpa using hd) j o ho
 refine wp_seq (wp_region_lit (l:=[_,_,_,_,_,_,_]) ?_)
 refine runK_then hE [_,_,_] hd' (K:=fun s'=>s'=(((s.put (some 35) (.one (.box 0))).put (some 36) (.one (.box 0))).put (some 37) (.one (.boxf 0 5 2 3))).put (some 38) (.one (.val stSh (c,ma,mb,wst)))) ?_ [_,_,_,_] s γ a w ?_ hN hr ?_
 rotate_left
 ·intro o ho
  refine List.all_eq_true.1 hd o ?_
  simp only [List.mem_cons,List.not_mem_nil,or_false] at ho ⊢
  rcases ho with rfl|rfl|rfl|rfl<;>simp
 ·simp only [↓kP,↓kN,hG,h0,hb,push_cast,seval,reduceCtorEq]
 rintro s' γ1 a1 W r1 hN1 rfl
 refine wpList_step fun K' hK'=>?_
 simp only [Region.wanted,if_true]
 have hgW:Gd Tryz.prog W:=by
  have:=r1.defers.2.at r1.keep
  rwa [hP] at this
 have hv38:vrep W (C.zn γ1) stSh (c,ma,mb,wst) (a1.eval (.tmp 38)):=zAn r1 (.tmp 38)
 have hv5:a1.tmps.getD 5 undef=.int .i64 (k:Int):=by
  have:=r1.env 5
  rw [zCg _ (by decide),zCg _ (by decide),zCg _ (by decide),zCg _ (by decide),h5] at this
  exact zAH this
 have hv6:vrep W (C.zn γ1) (.sl .int) l (a1.tmps.getD 6 undef):=by
  have:=r1.env 6
  rw [zCg _ (by decide),zCg _ (by decide),zCg _ (by decide),zCg _ (by decide),h6] at this
  exact this
 unfold Oper.wp
 have hcc:zBf C.P 54:=by rw [hP]; exact stClone_spec.callable
 rw [zDM hcc (caps:=#[]) rfl]
 simp only [Oper.upon]
 rw [hP]
 have ea:(#[Operand.tmp 38].map a1.eval++#[]:Array Value)=#[a1.eval (.tmp 38)]:=by simp
 rw [ea]
 refine (zSJ hgW (fun b=>C.zn γ1 b∧b<W.heap.size) hsz (zKH hv38)).mono ?_
 rintro en w1 ⟨v,rfl,hcl⟩
 refine hK' _ _ ?_
 have hkc:=hcl.keep
 have r2:Rel C γ1 _ (a1.put (some 39) v) W:=r1.put (d:=some 39) (by rw [hN1]; rfl) (sv:=.one .any) trivial
 have hN2:(a1.put (some 39) v).tmps.size=72:=by rw [zC5]; exact hN1
 have g39:(a1.put (some 39) v).tmps.getD 39 undef=v:=zKj (by omega)
 have g5:(a1.put (some 39) v).tmps.getD 5 undef=.int .i64 (k:Int):=zDR (by omega) (by decide) hv5
 obtain ⟨v6,hv6e⟩:∃ v6,a1.tmps.getD 6 undef=v6:=⟨_,rfl⟩
 have g6:(a1.put (some 39) v).tmps.getD 6 undef=v6:=zDR (by omega) (by decide) hv6e
 rw [hv6e] at hv6
 generalize a1.put (some 39) v=a2 at r2 hN2 g39 g5 g6 ⊢
 obtain ⟨i0,z,hi0,hs0,_,hz,hzc⟩:=hE.lang.info 97 stSh (by rw [hG]; rfl)
 refine zF2 rfl (v:=.pointer (some ⟨w1.heap.size,0,none⟩)) (w':=w1.alloc (.cells z.cells 97)) ?_ ?_
 ·refine run_v ?_
  simp only [Instr.alloc,Sem.run_bind,zeroValue,typeInfo]
  simp [hi0,hz,newVar,newRow,newObj,Sem.run]
 have hzl:z.cells.toList.length=4:=by rw [hzc,zAv]; rfl
 have r3:Rel C γ1 _ (a2.put (some 8) (.pointer (some ⟨w1.heap.size,0,none⟩))) W:=r2.put (d:=some 8) (by rw [hN2]; rfl) (sv:=.one .any) trivial
 have hN3:(a2.put (some 8) (.pointer (some ⟨w1.heap.size,0,none⟩))).tmps.size=72:=by rw [zC5]; exact hN2
 have q8:(a2.put (some 8) (.pointer (some ⟨w1.heap.size,0,none⟩))).tmps.getD 8 undef=.pointer (some ⟨w1.heap.size,0,none⟩):=zKj (by omega)
 have q39:(a2.put (some 8) (.pointer (some ⟨w1.heap.size,0,none⟩))).tmps.getD 39 undef=v:=zDR (by omega) (by decide) g39
 have q5:(a2.put (some 8) (.pointer (some ⟨w1.heap.size,0,none⟩))).tmps.getD 5 undef=.int .i64 (k:Int):=zDR (by omega) (by decide) g5
 have q6:(a2.put (some 8) (.pointer (some ⟨w1.heap.size,0,none⟩))).tmps.getD 6 undef=v6:=zDR (by omega) (by decide) g6
 generalize a2.put (some 8) (.pointer (some ⟨w1.heap.size,0,none⟩))=a3 at r3 hN3 q8 q39 q5 q6 ⊢
 have hcell1:(w1.alloc (.cells z.cells 97)).heap[w1.heap.size]?=some (.cells z.cells 97 (0,0)):=heap_alloc_new w1 _
 have hkA:Keep (fun _=>False) w1 (w1.alloc (.cells z.cells 97)):=⟨rfl,rfl,rfl,by simp,fun k hk _=>Below.heap_alloc w1 _ k hk⟩
 obtain ⟨γc,hvv,hc27,hc8,hc11,hcl4⟩:=hcl.h
 have hvc:v.cells.toList=[γc.hd 27,γc.hd 8,γc.hd 11,.int .i64 wst]:=by rw [hvv]; rfl
 obtain ⟨w2,hst,hgr,hcur⟩:=zET (C:=C) (w:=w1.alloc (.cells z.cells 97)) (t:=97) (i:=i0) hi0 (g:=w1.heap.size) (o:=0) (v:=v) hcell1 (by rw [hs0,←Array.length_toList,hvc]; rfl) (by rw [hvc,←Array.length_toList,hzl]; simp) (by rw [hvc]; intro u hu; simp only [List.mem_cons,List.not_mem_nil,or_false] at hu; rcases hu with rfl|rfl|rfl|rfl<;>rfl)
 have hcur2:w2.heap[w1.heap.size]?=some (.cells #[γc.hd 27,γc.hd 8,γc.hd 11,.int .i64 wst] 97 (0,0)):=by
  rw [hcur,hvc]
  have hdz:z.cells.toList.drop (0+[γc.hd 27,γc.hd 8,γc.hd 11,Value.int .i64 wst].length)=[]:=List.drop_of_length_le (by rw [hzl]; simp)
  rw [hdz]
  simp
 have hk12:Keep (fun _=>False) w1 w2:=hkA.step (M:=fun g=>g=w1.heap.size) ⟨hgr.os,hgr.tape,hgr.output,hgr.size,fun g hg hne=>hgr.block g hg (fun e=>hne (by simpa using e))⟩ (fun g hg hlt=>by omega)
 have e8:a3.eval (.tmp 8)=.pointer (some ⟨w1.heap.size,0,none⟩):=q8
 have e39:a3.eval (.tmp 39)=v:=q39
 refine zSd rfl (w':=w2) (zCt (by rw [e8,e39]; exact hst)) (wpList_nil ?_)
 show (Code.seq _ _).wp C.P _ a3 w2
 refine wp_seq (wp_seq (wp_region_lit (l:=[_,_,_,_]) ?_))
 refine zF2 rfl (v:=.int .i64 (k:Int)) (w':=w2) (by show Result.ok (Next.value (a3.tmps.getD 5 undef)) w2=_; rw [q5]) ?_
 have r4:Rel C γ1 _ (a3.put (some 40) (.int .i64 (k:Int))) W:=r3.put (d:=some 40) (by rw [hN3]; rfl) (sv:=.one .any) trivial
 have hN4:(a3.put (some 40) (.int .i64 (k:Int))).tmps.size=72:=by rw [zC5]; exact hN3
 have m40:(a3.put (some 40) (.int .i64 (k:Int))).tmps.getD 40 undef=.int .i64 (k:Int):=zKj (by omega)
 have m8:(a3.put (some 40) (.int .i64 (k:Int))).tmps.getD 8 undef=.pointer (some ⟨w1.heap.size,0,none⟩):=zDR (by omega) (by decide) q8
 have m6:(a3.put (some 40) (.int .i64 (k:Int))).tmps.getD 6 undef=v6:=zDR (by omega) (by decide) q6
 show wpList C.P _ _ _ (a3.put (some 40) (.int .i64 (k:Int))) w2
 generalize a3.put (some 40) (.int .i64 (k:Int))=a4 at r4 hN4 m40 m8 m6 ⊢
 refine zF2 rfl (v:=v6) (w':=w2) (by show Result.ok (Next.value (a4.tmps.getD 6 undef)) w2=_; rw [m6]) ?_
 have r5:Rel C γ1 _ (a4.put (some 41) v6) W:=r4.put (d:=some 41) (by rw [hN4]; rfl) (sv:=.one .any) trivial
 have hN5:(a4.put (some 41) v6).tmps.size=72:=by rw [zC5]; exact hN4
 have x41:(a4.put (some 41) v6).tmps.getD 41 undef=v6:=zKj (by omega)
 have x40:(a4.put (some 41) v6).tmps.getD 40 undef=.int .i64 (k:Int):=zDR (by omega) (by decide) m40
 have x8:(a4.put (some 41) v6).tmps.getD 8 undef=.pointer (some ⟨w1.heap.size,0,none⟩):=zDR (by omega) (by decide) m8
 show wpList C.P _ _ _ (a4.put (some 41) v6) w2
 generalize a4.put (some 41) v6=a5 at r5 hN5 x41 x40 x8 ⊢
 refine wpList_step fun K5 hK5=>?_
 simp only [Region.wanted,if_true]
 unfold Oper.wp
 have hcd:zBf C.P 55:=by rw [hP]; exact ⟨_,Tryz.func55,by kernel_rfl,rfl⟩
 rw [zDM hcd (caps:=#[]) rfl]
 simp only [Oper.upon]
 rw [hP]
 have ea:(#[Operand.tmp 8,.tmp 40,.tmp 41].map a5.eval++#[]:Array Value)=#[.pointer (some ⟨w1.heap.size,0,none⟩),.int .i64 (k:Int),v6]:=by
  simp [Act.eval,x8,x40,x41]
 rw [ea]
 have hkW2:Keep (fun _=>False) W w2:=hkc.step hk12 (fun _ hf=>hf.elim)
 have hg2:Gd Tryz.prog w2:=hgW.later hkW2
 have hl2:vrep w2 (fun b=>C.zn γ1 b∧b<W.heap.size) (.sl .int) l v6:=by
  obtain ⟨cs,h1,h2⟩:=zKH hv6
  exact ⟨cs,zAx hkW2.size (fun b hb hz=>⟨hz,hkW2.block b hb (fun h=>h)⟩) _ _ _ h1,h2⟩
 refine (zZw hcl hg2 hgW.size (nb:=w1.heap.size) (t:=97) (Nat.le_refl _) (fun g hg=>hg.2) hk12 ⟨_,hvv,hcur2⟩ k l hpre hl2).mono ?_
 rintro en w3 ⟨rfl,hdn⟩
 refine hK5 _ _ ?_
 have r6:Rel C γ1 _ (a5.put (some 42) (errV 147 (doV k l (c,ma,mb,wst)).1)) W:=r5.put (d:=some 42) (by rw [hN5]; rfl) (sv:=.one .any) trivial
 have hN6:(a5.put (some 42) (errV 147 (doV k l (c,ma,mb,wst)).1)).tmps.size=72:=by rw [zC5]; exact hN5
 have y42:(a5.put (some 42) (errV 147 (doV k l (c,ma,mb,wst)).1)).tmps.getD 42 undef=errV 147 (doV k l (c,ma,mb,wst)).1:=zKj (by omega)
 have y8:(a5.put (some 42) (errV 147 (doV k l (c,ma,mb,wst)).1)).tmps.getD 8 undef=.pointer (some ⟨w1.heap.size,0,none⟩):=zDR (by omega) (by decide) x8
 generalize a5.put (some 42) (errV 147 (doV k l (c,ma,mb,wst)).1)=a6 at r6 hN6 y42 y8 ⊢
 refine zF2 rfl (v:=errV 147 (doV k l (c,ma,mb,wst)).1) (w':=w3) (by show Result.ok (Next.value (a6.tmps.getD 42 undef)) w3=_; rw [y42]) (wpList_nil ?_)
 have r7:Rel C γ1 _ (a6.put (some 9) (errV 147 (doV k l (c,ma,mb,wst)).1)) W:=r6.put (d:=some 9) (by rw [hN6]; rfl) (sv:=.one .any) trivial
 have hN7:(a6.put (some 9) (errV 147 (doV k l (c,ma,mb,wst)).1)).tmps.size=72:=by rw [zC5]; exact hN6
 have z9:(a6.put (some 9) (errV 147 (doV k l (c,ma,mb,wst)).1)).tmps.getD 9 undef=errV 147 (doV k l (c,ma,mb,wst)).1:=zKj (by omega)
 have z8:(a6.put (some 9) (errV 147 (doV k l (c,ma,mb,wst)).1)).tmps.getD 8 undef=.pointer (some ⟨w1.heap.size,0,none⟩):=zDR (by omega) (by decide) y8
 show rest.wp C.P _ (a6.put (some 9) (errV 147 (doV k l (c,ma,mb,wst)).1)) w3
 generalize a6.put (some 9) (errV 147 (doV k l (c,ma,mb,wst)).1)=a7 at r7 hN7 z9 z8 ⊢
 obtain ⟨hkD,cs,tt,c1,c2,v1,v2,v3,c3,k1,k2,k3⟩:=hdn
 have hkW3:Keep (fun _=>False) W w3:=hkW2.step hkD (fun g hg hlt=>absurd hlt (by have hg':W.heap.size≤g:=hg; omega))
 have hzone:∀ b,((C.zn γ1 b∧b<W.heap.size)∨W.heap.size≤b)∧b≠w1.heap.size→C.zn (zAK γ1 8 w1.heap.size) b:=fun b hb=>by
  obtain ⟨h1,h2⟩:=hb
  have hown:(zAK γ1 8 w1.heap.size).own b=γ1.own b:=by simp only [zAK]; rw [if_neg h2]
  rcases h1 with ⟨h1,_⟩|h1
  ·exact ⟨h1.1,by rw [hown]; exact h1.2⟩
  ·refine ⟨.inr (.inl (Nat.le_trans r7.keep.size h1)),?_⟩
   rw [hown]
   cases ho:γ1.own b with
   | none=>rfl
   | some lo=>have:=r7.ownlt b lo ho; omega
 have hbox:=zUu r7 8 hnl (nb:=w1.heap.size) hkc.size hkW3 c1 (sv:=.rcd [.val (.sl (.sl .int)) (doV k l (c,ma,mb,wst)).2.1,.val (.sl .int) (doV k l (c,ma,mb,wst)).2.2.1,.val (.sl .int) (doV k l (c,ma,mb,wst)).2.2.2.1,.val .int (doV k l (c,ma,mb,wst)).2.2.2.2])
  (by show zAp _ _ _ _ cs.toList; rw [c3]; exact ⟨v1,_,rfl,zAq hzone k1,v2,_,rfl,zAq hzone k2,v3,_,rfl,zAq hzone k3,_,_,rfl,⟨_,rfl,rfl⟩,rfl⟩) c2
 have hk8:=hbox.know 8 (sv:=.one (.box 8)) (by rw [z8]; simp [svRep,bvRep,zAK,upd])
 have hk9:=hk8.know 9 (sv:=.one (.val (.err 147) (doV k l (c,ma,mb,wst)).1)) (by rw [z9]; exact ⟨_,rfl,rfl⟩)
 refine wp_mono ((hrest _ ?_ ?_ ?_ ?_ ?_ ?_).run _ _ _ hk9 hN7) ?_
 rotate_right
 ·rintro e a' w' ⟨s',γ',h1,h2,h3⟩
  cases e with
  | normal=>exact h3.run γ' a' w' h1 h2
  | _=>exact ⟨s',γ',h1,h2,h3⟩
 ·simp only [h0,push_cast,seval,reduceCtorEq]
 ·simp only [hs1,push_cast,seval,reduceCtorEq]
 ·simp only [push_cast,seval,reduceCtorEq]
 ·simp only [push_cast,seval,reduceCtorEq]
 ·simp only [hb,push_cast,seval,reduceCtorEq]
 ·simp only [push_cast,seval,reduceCtorEq]
end Go.Proofs.YtekfodeknpnkbaaGreatDoor
namespace Go.Proofs.YtekfodeknpnkbaaGreatDoor
open Go.RowKit Go.VS Go.OT
structure HOK (s:State):Prop where
 tab:InTab 0 99 s.1
 la:s.2.1.length=s.1.length
 lb:s.2.2.1.length=wid s.1
 a:∀ i,i<s.2.1.length→0≤s.2.1.getD i 0∧s.2.1.getD i 0≤30
 b:∀ i,i<s.2.2.1.length→0≤s.2.2.1.getD i 0∧s.2.2.1.getD i 0≤30
theorem HOK.sz {s:State} (h:HOK s):StateSz s:=by
 obtain ⟨h1,h2,h3,_,_⟩:=h
 have hr:=h1.rows
 have hc:=h1.cols
 exact ⟨by omega,fun k hk=>by rw [h1.len hk]; omega,by omega,by omega⟩
theorem zVB {k:ByteArray} (h:smHas formsL k=true):(smGet formsL k).2=if (smGet formsL k).1=4 then 3 else if (smGet formsL k).1≤3 then 2 else 1:=by
 unfold smHas at h
 unfold smGet
 cases hf:formsL.find? (fun p=>decide (p.1=k)) with
 | none=>rw [hf] at h; cases h
 | some p =>
  have hm:=List.mem_of_find?_eq_some hf
  simp only [formsL,List.mem_cons,List.not_mem_nil,or_false] at hm
  rcases hm with rfl|rfl|rfl|rfl|rfl|rfl|rfl<;>rfl
def hkind (t:ByteArray):Nat:=(hform t).1.toNat
theorem zPL (t:ByteArray):(hkind t:Int)=(hform t).1:=by
 have:=zLC (hw t 0)
 have e:hform t=smGet formsL (hw t 0):=rfl
 rw [←e] at this
 unfold hkind
 omega
theorem zL6 {t:ByteArray} {s:State} (h:hpOK t=true) (hs:HOK s):DoPre (hkind t) (hargs t) s:=by
 obtain ⟨⟨h1,h2,h3⟩,h4⟩:=zCe.1 h
 have hin:=zLC (hw t 0)
 have hl:=zVB h2
 have e:hform t=smGet formsL (hw t 0):=rfl
 rw [←e] at hin hl
 have hk:=zPL t
 have hpos:1≤(zAB t spS).length:=by rw [zFY t spS (Nat.le_refl _)]; omega
 have hal:(hargs t).length=(zAB t spS).length - 1:=zAZ _ _
 refine ⟨by omega,?_,fun i hi=>?_,hs.tab,hs.la,hs.lb,hs.a,hs.b⟩
 ·rw [hal]
  by_cases e4:hkind t=4
  ·rw [if_pos e4]; rw [if_pos (by omega)] at hl; omega
  ·rw [if_neg e4]; rw [if_neg (by omega)] at hl
   by_cases e3:hkind t≤3
   ·rw [if_pos e3]; rw [if_pos (by omega)] at hl; omega
   ·rw [if_neg e3]; rw [if_neg (by omega)] at hl; omega
 ·rw [hal] at hi
  have hg:(hargs t).getD i 0=atoiV (hw t (i+1)):=zBu _ _ hi
  obtain ⟨_,q2,q3,_⟩:=zHb.1 (h4 i hi)
  rw [hg]
  exact ⟨q2,q3⟩
theorem zGI (a b:List Int) (c:List (List Int)) (w:Int):0≤zA9 a b c w∧zA9 a b c w≤999999:=by
 unfold zA9
 split
 ·rename_i he
  obtain ⟨h1,h2,h3⟩:=zBE he
  obtain ⟨_,_,h4,h5⟩:=MC.sums h1
  rw [zBs] at h4 h5
  have z:=zKa h1.mc w
  have n:=zV5 h1.mc h2
  have:w*(sumL a+sumL b)≤99*(sumL a+sumL b):=Int.mul_le_mul_of_nonneg_right h3 (by omega)
  omega
 ·omega
structure HInv (x:HX):Prop where
 st:HOK (hSt x)
 ord:(hOrd x).length≤60
 bk:(hBk x).size≤100*(hOrd x).length
def doE (x:HX) (t:ByteArray):Int:=if hpOK t=true then (if (hOrd x).length=60 then 3 else (doV (hkind t) (hargs t) (hSt x)).1) else 2
def doS (x:HX) (t:ByteArray):State:=(doV (hkind t) (hargs t) (hSt x)).2
def lst (s:State):Int:=zA9 s.2.1 s.2.2.1 s.1 s.2.2.2
def doX (x:HX) (t:ByteArray):HX:=if doE x t=0 then mkH (zJZ x) (doS x t) (hOrd x++[t]) (zCL (hBk x) (lst (doS x t)) t) else x
@[push_cast] def zZu:Con:=⟨[.obj hFs,.dat .str],fun (x:HX×ByteArray×Unit)=>HInv x.1,fun (x:HX×ByteArray×Unit)=>{res:=[.val .int (doE x.1 x.2.1)],objs:=[(0,⟨hFs,doX x.1 x.2.1⟩)]}⟩
structure Stop (p:Prop):Prop where
 h:p
theorem zUS {C:Ctx} {N:Nat} {Q:Exit→AS→Prop} {s:AS} {x y:Code} (h:∀ K:AS→Prop,(∀ s,tri C N y Q s→K s)→tri C N x (thenQ K Q) s):tri C N x (thenQ (tri C N y Q) Q) s:=h _ fun _ h=>h
def doK9:Know:=know [(52,zGD),(53,zKW),(57,zDO),(56,zF3)] []
theorem zXR:KnowOK Tryz.prog doK9:=zAl (all_cons zOf (all_cons zSK (all_cons zEL (all_cons zNw all_nil)))) all_nil all_nil
set_option maxHeartbeats 8000000 in
theorem zC2:FnSpec Tryz.prog 18 zZu:=by
 refine ⟨⟨_,Tryz.func18,by kernel_rfl,rfl⟩,fun C γ x vs hpre hen=>?_⟩
 have hP:=hen.P
 have hnl:C.nl=1:=hen.nl
 have hE:KnowOK C.P (know [(52,zGD),(53,zKW),(57,zDO),(56,zF3)] []):=by rw [hP]; exact zXR
 have hlen:=zA0 _ _ hen.args
 have hr:=zEi hen (72 - vs.length)
 have hdsn:C.ds=[]:=hen.ds.1
 obtain ⟨⟨⟨⟩,⟨⟩,(f:List (List Int)),(c:List (List Int)),(ma:List Int),(mb:List Int),(wst:Int),(ord:List ByteArray),(bk:ByteArray),⟨⟩⟩,(t:ByteArray),⟨⟩⟩:=x
 have hlen':vs.length=2:=hlen.symm ▸ rfl
 rw [←hP]
 refine calls_of_wp_defers (by rw [hP]; exact Tryz.func18) rfl ?_
 rw [List.size_toArray]
 refine triD.run (N:=72) ?_ γ _ _ hr (by simp [hlen'])
 obtain ⟨hst,hord,hbk⟩:=hpre
 refine zEz (t:=AS.of [(0,.one (.box 0)),(1,.one (.val .str t))] [] [(0,.rcd [.raw (.int .i32 0),.raw (.int .u32 0),.val (.sl (.sl .int)) f,.val (.sl (.sl .int)) c,.val (.sl .int) ma,.val (.sl .int) mb,.val .int wst,.mk 0 9 .str ord,.val .str bk])]) ?_ ?_
 ·refine zAf ?_ ?_ ?_<;>simp only [push_cast,seval,reduceCtorEq]
 clear hr hlen hlen' hen
 refine zG3 fun K hK=>?_
 repeat' (first|(refine zAa hE rfl ?_; simp +contextual only [hnl,↓kA,push_cast,seval,reduceCtorEq])|fail)
 refine hK _ ?_
 clear hK K
 refine zG3 fun K hK=>?_
 repeat' (first|(refine goK (by assumption) ?_; iterate 4 (try clear hK K))|(refine zAb fun K hK=>?_)|(refine zAa hE rfl ?_; simp +contextual only [hnl,↓kA,push_cast,seval,reduceCtorEq])|(refine zAg ?_; simp only [thenQ,zAh,if_true,if_false,Nat.reduceEqDiff,reduceCtorEq])|(refine zAe (by rfl) (fun hb=>?_) (fun hb=>?_)<;>(try simp only [bq,reduceCtorEq] at hb)<;>(try omega))|fail)
 refine hK _ ?_
 clear hK K
 refine zEz (t:=AS.of [(0,.one (.box 0)),(1,.one (.val .str t))] [] [(0,.rcd [.raw (.int .i32 0),.raw (.int .u32 0),.val (.sl (.sl .int)) f,.val (.sl (.sl .int)) c,.val (.sl .int) ma,.val (.sl .int) mb,.val .int wst,.mk 0 9 .str ord,.val .str bk])]) ?_ ?_
 ·refine zAf ?_ ?_ ?_<;>simp only [push_cast,seval,reduceCtorEq]
 refine zG3 fun K hK=>?_
 refine zQj hP hE rfl rfl rfl rfl (n:=5) rfl ?_
 refine hK _ ?_
 clear hK K
 refine zEz (t:=AS.of [(0,.one (.box 0)),(1,.one (.val .str t))] [] [(0,.rcd [.raw (.int .i32 1),.raw (.int .u32 0),.val (.sl (.sl .int)) f,.val (.sl (.sl .int)) c,.val (.sl .int) ma,.val (.sl .int) mb,.val .int wst,.mk 0 9 .str ord,.val .str bk])]) ?_ ?_
 ·unfold lockS
  refine zAf ?_ ?_ ?_<;>simp only [push_cast,seval,reduceCtorEq]
 refine ⟨fun γ0 a0 w0 hr hN=>zJL hP hE (n:=5) rfl rfl rfl (by rw [hnl]; decide) hdsn hr hN ?_⟩
 clear hr hN
 rw [hnl]
 have hE1:KnowOK (C.dsd [zCo (C.lb 0)]).P (know [(52,zGD),(53,zKW),(57,zDO),(56,zF3)] []):=hE
 have hP1:(C.dsd [zCo (C.lb 0)]).P=Tryz.prog:=hP
 have hnl1:(C.dsd [zCo (C.lb 0)]).nl=1:=hnl
 generalize C.dsd [zCo (C.lb 0)]=C1 at hE1 hnl1 hP1 ⊢
 clear hE hnl hP
 have hE:=hE1
 have hP:=hP1
 have hnl:=hnl1
 refine zAo (t:=AS.of [(0,.one (.box 0)),(1,.one (.val .str t))] [] [(0,.rcd [.raw (.int .i32 1),.raw (.int .u32 0),.val (.sl (.sl .int)) f,.val (.sl (.sl .int)) c,.val (.sl .int) ma,.val (.sl .int) mb,.val .int wst,.mk 0 9 .str ord,.val .str bk])]) ?_ ?_
 ·unfold lockS
  refine zAf ?_ ?_ ?_<;>simp only [push_cast,seval,reduceCtorEq]
 by_cases hok:hpOK t=true
 rotate_left
 ·have eE:doE ((),(),f,c,ma,mb,wst,ord,bk,()) t=2:=if_neg hok
  have eX:doX ((),(),f,c,ma,mb,wst,ord,bk,()) t=((),(),f,c,ma,mb,wst,ord,bk,()):=by rw [doX,eE]; rfl
  rw [Bool.not_eq_true] at hok
  have hnl0:=hnl
  replace hnl:=And.intro hnl hok
  repeat' (first|(refine goK (by assumption) ?_; iterate 4 (try clear hK K))|(refine zAb fun K hK=>?_)|((first|refine zAa hE rfl ?_|refine zAi ?_); simp +contextual only [hnl,↓kA,push_cast,seval,reduceCtorEq])|(refine zAe (by rfl) (fun hb=>?_) (fun hb=>?_)<;>(try simp only [bq,reduceCtorEq] at hb)<;>(try omega))|fail)
  all_goals exact ⟨.inr rfl,_,AS.of [(0,.one (.box 0)),(4,.one (.val .int (doE ((),(),f,c,ma,mb,wst,ord,bk,()) t)))] [] [(0,.rcd [.raw (.int .i32 0),.raw (.int .u32 0),.val (.sl (.sl .int)) f,.val (.sl (.sl .int)) c,.val (.sl .int) ma,.val (.sl .int) mb,.val .int wst,.mk 0 9 .str ord,.val .str bk])],rfl,rfl,(by rw [eE]; (refine zAf ?_ ?_ ?_<;>simp only [push_cast,seval,reduceCtorEq])),(by simp only [hnl,eX,Tryz.results18,push_cast,seval,reduceCtorEq])⟩
 have hkd:=zPL t
 have hdp:=zL6 hok hst
 have hnl0:=hnl
 replace hnl:=And.intro hnl (And.intro hok hkd.symm)
 refine zAb fun K hK0=>?_
 have hS:=Stop.mk hK0
 clear hK0
 repeat' (first|(refine zAa hE rfl ?_; simp +contextual only [hnl,↓kA,push_cast,seval,reduceCtorEq])|fail)
 refine hS.h _ ?_
 clear hS K
 refine zAo (t:=AS.of [(0,.one (.box 0)),(1,.one (.val .str t)),(5,.one (.val .int (hkind t:Int))),(6,.one (.val (.sl .int) (hargs t))),(7,.one (.val (.err 147) 0))] [] [(0,.rcd [.raw (.int .i32 1),.raw (.int .u32 0),.val (.sl (.sl .int)) f,.val (.sl (.sl .int)) c,.val (.sl .int) ma,.val (.sl .int) mb,.val .int wst,.mk 0 9 .str ord,.val .str bk])]) ?_ ?_
 ·refine zAf ?_ ?_ ?_<;>simp only [push_cast,seval,reduceCtorEq]
  all_goals first|rfl|exact ⟨_,rfl⟩|skip
 refine zAb fun K hK0=>?_
 have hS:=Stop.mk hK0
 clear hK0
 repeat' (first|(refine goK (by assumption) ?_; iterate 4 (try clear hK K))|(refine zAb fun K hK=>?_)|(refine zAa hE rfl ?_; simp +contextual only [hnl,↓kA,push_cast,seval,reduceCtorEq])|(refine zAg ?_; simp only [thenQ,zAh,if_true,if_false,Nat.reduceEqDiff,reduceCtorEq])|(refine zAe (by rfl) (fun hb=>?_) (fun hb=>?_)<;>(try simp only [bq,reduceCtorEq] at hb)<;>(try omega))|fail)
 refine hS.h _ ?_
 clear hS K
 refine zAo (t:=AS.of [(0,.one (.box 0)),(1,.one (.val .str t)),(5,.one (.val .int (hkind t:Int))),(6,.one (.val (.sl .int) (hargs t)))] [] [(0,.rcd [.raw (.int .i32 1),.raw (.int .u32 0),.val (.sl (.sl .int)) f,.val (.sl (.sl .int)) c,.val (.sl .int) ma,.val (.sl .int) mb,.val .int wst,.mk 0 9 .str ord,.val .str bk])]) ?_ ?_
 ·refine zAf ?_ ?_ ?_<;>simp only [push_cast,seval,reduceCtorEq]
 refine zAb fun K hK0=>?_
 have hS:=Stop.mk hK0
 clear hK0
 refine zNk 0 7 1 rfl rfl (by rw [hnl0]; decide) ?_
 refine zAo (t:=AS.of [(0,.one (.box 0)),(1,.one (.val .str t)),(5,.one (.val .int (hkind t:Int))),(6,.one (.val (.sl .int) (hargs t)))] [(1,.flat 9 .str ord)] [(0,.rcd [.raw (.int .i32 1),.raw (.int .u32 0),.val (.sl (.sl .int)) f,.val (.sl (.sl .int)) c,.val (.sl .int) ma,.val (.sl .int) mb,.val .int wst,.ref 1,.val .str bk])]) ?_ ?_
 ·unfold AS.reB
  refine zAf ?_ ?_ ?_<;>simp only [push_cast,seval,reduceCtorEq]
 refine zAb fun K2 hK0=>?_
 have hS2:=Stop.mk hK0
 clear hK0
 repeat' (first|(refine zAa hE rfl ?_; simp +contextual only [hnl,↓kA,push_cast,seval,reduceCtorEq])|fail)
 refine hS2.h _ ?_
 clear hS2 K2
 refine zAo (t:=AS.of [(0,.one (.box 0)),(1,.one (.val .str t)),(5,.one (.val .int (hkind t:Int))),(6,.one (.val (.sl .int) (hargs t))),(34,.one (.val .bool (decide ((ord.length:Int)=60))))] [(1,.flat 9 .str ord)] [(0,.rcd [.raw (.int .i32 1),.raw (.int .u32 0),.val (.sl (.sl .int)) f,.val (.sl (.sl .int)) c,.val (.sl .int) ma,.val (.sl .int) mb,.val .int wst,.ref 1,.val .str bk])]) ?_ ?_
 ·refine zAf ?_ ?_ ?_<;>simp only [push_cast,seval,reduceCtorEq]
 refine zQi 0 0 7 1 rfl rfl rfl (by rw [hnl0]; decide) ?_
 refine zAo (t:=AS.of [(0,.one (.box 0)),(1,.one (.val .str t)),(5,.one (.val .int (hkind t:Int))),(6,.one (.val (.sl .int) (hargs t))),(34,.one (.val .bool (decide ((ord.length:Int)=60))))] [] [(0,.rcd [.raw (.int .i32 1),.raw (.int .u32 0),.val (.sl (.sl .int)) f,.val (.sl (.sl .int)) c,.val (.sl .int) ma,.val (.sl .int) mb,.val .int wst,.mk 0 9 .str ord,.val .str bk])]) ?_ ?_
 ·unfold AS.reB
  refine zAf ?_ ?_ ?_<;>simp only [push_cast,seval,reduceCtorEq]
 by_cases h60:ord.length=60
 ·have eE:doE ((),(),f,c,ma,mb,wst,ord,bk,()) t=3:=by unfold doE; rw [if_pos hok]; exact if_pos h60
  have eX:doX ((),(),f,c,ma,mb,wst,ord,bk,()) t=((),(),f,c,ma,mb,wst,ord,bk,()):=by rw [doX,eE]; rfl
  have h60':((ord.length:Int)=60):=by omega
  replace hnl:=And.intro hnl h60
  repeat' (first|(refine goK (by assumption) ?_; iterate 4 (try clear hK K))|(refine zAb fun K hK=>?_)|((first|refine zAa hE rfl ?_|refine zAi ?_); simp +contextual only [hnl,↓kA,push_cast,seval,reduceCtorEq])|(refine zAe (by rfl) (fun hb=>?_) (fun hb=>?_)<;>(try simp only [bq,reduceCtorEq] at hb)<;>(try omega))|fail)
  all_goals exact ⟨.inr rfl,_,AS.of [(0,.one (.box 0)),(4,.one (.val .int (doE ((),(),f,c,ma,mb,wst,ord,bk,()) t)))] [] [(0,.rcd [.raw (.int .i32 0),.raw (.int .u32 0),.val (.sl (.sl .int)) f,.val (.sl (.sl .int)) c,.val (.sl .int) ma,.val (.sl .int) mb,.val .int wst,.mk 0 9 .str ord,.val .str bk])],rfl,rfl,(by rw [eE]; (refine zAf ?_ ?_ ?_<;>simp only [push_cast,seval,reduceCtorEq])),(by simp only [hnl,eX,Tryz.results18,push_cast,seval,reduceCtorEq])⟩
 have eE:doE ((),(),f,c,ma,mb,wst,ord,bk,()) t=(doV (hkind t) (hargs t) (c,ma,mb,wst)).1:=by unfold doE; rw [if_pos hok]; exact if_neg h60
 have h60':¬((ord.length:Int)=60):=by omega
 replace hnl:=And.intro hnl (eq_false h60')
 repeat' (first|(refine zAg ?_; simp only [thenQ,zAh,if_true,if_false,Nat.reduceEqDiff,reduceCtorEq])|(refine zAe (by rfl) (fun hb=>?_) (fun hb=>?_)<;>(try simp only [bq,reduceCtorEq] at hb)<;>(try omega))|fail)
 refine hS.h _ ?_
 clear hS K
 refine zAo (t:=AS.of [(0,.one (.box 0)),(1,.one (.val .str t)),(5,.one (.val .int (hkind t:Int))),(6,.one (.val (.sl .int) (hargs t)))] [] [(0,.rcd [.raw (.int .i32 1),.raw (.int .u32 0),.val (.sl (.sl .int)) f,.val (.sl (.sl .int)) c,.val (.sl .int) ma,.val (.sl .int) mb,.val .int wst,.mk 0 9 .str ord,.val .str bk])]) ?_ ?_
 ·refine zAf ?_ ?_ ?_<;>simp only [push_cast,seval,reduceCtorEq]
 have hsz:StateSz (c,ma,mb,wst):=HOK.sz hst
 refine zYT hP hE rfl (by rw [hnl0]; decide) rfl rfl rfl rfl rfl hsz hdp fun S g0 g1 g8 g9 gb0 gb8=>?_
 refine zAo (t:=AS.of [(0,.one (.box 0)),(1,.one (.val .str t)),(8,.one (.box 8)),(9,.one (.val (.err 147) (doV (hkind t) (hargs t) (c,ma,mb,wst)).1))] [] [(0,.rcd [.raw (.int .i32 1),.raw (.int .u32 0),.val (.sl (.sl .int)) f,.val (.sl (.sl .int)) c,.val (.sl .int) ma,.val (.sl .int) mb,.val .int wst,.mk 0 9 .str ord,.val .str bk]),(8,.rcd [.val (.sl (.sl .int)) (doV (hkind t) (hargs t) (c,ma,mb,wst)).2.1,.val (.sl .int) (doV (hkind t) (hargs t) (c,ma,mb,wst)).2.2.1,.val (.sl .int) (doV (hkind t) (hargs t) (c,ma,mb,wst)).2.2.2.1,.val .int (doV (hkind t) (hargs t) (c,ma,mb,wst)).2.2.2.2])]) ?_ ?_
 ·refine zAf ?_ ?_ ?_<;>simp only [g0,g1,g8,g9,gb0,gb8,push_cast,seval,reduceCtorEq]
  all_goals first|exact ⟨_,rfl⟩|skip
 clear g0 g1 g8 g9 gb0 gb8 S
 by_cases h0:(doV (hkind t) (hargs t) (c,ma,mb,wst)).1=0
 rotate_left
 ·have eX:doX ((),(),f,c,ma,mb,wst,ord,bk,()) t=((),(),f,c,ma,mb,wst,ord,bk,()):=by unfold doX; rw [eE,if_neg h0]
  replace hnl:=And.intro hnl (eq_false h0)
  repeat' (first|(refine goK (by assumption) ?_; iterate 4 (try clear hK K))|(refine zAb fun K hK=>?_)|((first|refine zAa hE rfl ?_|refine zAi ?_); simp +contextual only [hnl,↓kA,push_cast,seval,reduceCtorEq])|(refine zAe (by rfl) (fun hb=>?_) (fun hb=>?_)<;>(try simp only [bq,reduceCtorEq] at hb)<;>(try omega))|fail)
  all_goals exact ⟨.inr rfl,_,AS.of [(0,.one (.box 0)),(4,.one (.val .int (doE ((),(),f,c,ma,mb,wst,ord,bk,()) t)))] [] [(0,.rcd [.raw (.int .i32 0),.raw (.int .u32 0),.val (.sl (.sl .int)) f,.val (.sl (.sl .int)) c,.val (.sl .int) ma,.val (.sl .int) mb,.val .int wst,.mk 0 9 .str ord,.val .str bk])],rfl,rfl,(by rw [eE]; (refine zAf ?_ ?_ ?_<;>simp only [push_cast,seval,reduceCtorEq])),(by simp only [hnl,eX,Tryz.results18,push_cast,seval,reduceCtorEq])⟩
 have eX:doX ((),(),f,c,ma,mb,wst,ord,bk,()) t=mkH f (doV (hkind t) (hargs t) (c,ma,mb,wst)).2 (ord++[t]) (zCL bk (lst (doV (hkind t) (hargs t) (c,ma,mb,wst)).2) t):=by unfold doX; rw [eE,if_pos h0]; rfl
 generalize (doV (hkind t) (hargs t) (c,ma,mb,wst)).2=st' at eX ⊢
 rw [h0] at eE ⊢
 obtain ⟨c',ma',mb',wst'⟩:=st'
 dsimp only
 refine zUS fun K hK0=>?_
 have hS:=Stop.mk hK0
 clear hK0
 repeat' (first|(refine goK (by assumption) ?_; iterate 4 (try clear hK K))|(refine zAb fun K hK=>?_)|(refine zAa hE rfl ?_; simp +contextual only [hnl,↓kA,push_cast,seval,reduceCtorEq])|(refine zAg ?_; simp only [thenQ,zAh,if_true,if_false,Nat.reduceEqDiff,reduceCtorEq])|(refine zAe (by rfl) (fun hb=>?_) (fun hb=>?_)<;>(try simp only [bq,reduceCtorEq] at hb)<;>(try omega))|fail)
 refine hS.h _ ?_; clear hS K
 refine zAo (t:=AS.of [(0,.one (.box 0)),(1,.one (.val .str t)),(8,.one (.box 8))] [] [(0,.rcd [.raw (.int .i32 1),.raw (.int .u32 0),.val (.sl (.sl .int)) f,.val (.sl (.sl .int)) c,.val (.sl .int) ma,.val (.sl .int) mb,.val .int wst,.mk 0 9 .str ord,.val .str bk]),(8,.rcd [.val (.sl (.sl .int)) c',.val (.sl .int) ma',.val (.sl .int) mb',.val .int wst'])]) ?_ ?_
 ·refine zAf ?_ ?_ ?_<;>simp only [push_cast,seval,reduceCtorEq]
 refine zAb fun K hK0=>?_; have hS:=Stop.mk hK0; clear hK0
 repeat' (first|(refine zAa hE rfl ?_; simp +contextual only [hnl,↓kA,push_cast,seval,reduceCtorEq])|fail)
 refine hS.h _ ?_; clear hS K
 refine zAo (t:=AS.of [(0,.one (.box 0)),(1,.one (.val .str t)),(8,.one (.box 8))] [] [(0,.rcd [.raw (.int .i32 1),.raw (.int .u32 0),.val (.sl (.sl .int)) f,.val (.sl (.sl .int)) c',.val (.sl .int) ma',.val (.sl .int) mb',.val .int wst',.mk 0 9 .str ord,.val .str bk]),(8,.rcd [.val (.sl (.sl .int)) c',.val (.sl .int) ma',.val (.sl .int) mb',.val .int wst'])]) ?_ ?_
 ·refine zAf ?_ ?_ ?_<;>simp only [push_cast,seval,reduceCtorEq]
 refine zNk 0 7 1 rfl rfl (by rw [hnl0]; decide) ?_
 refine zAo (t:=AS.of [(0,.one (.box 0)),(1,.one (.val .str t)),(8,.one (.box 8))] [(1,.flat 9 .str ord)] [(0,.rcd [.raw (.int .i32 1),.raw (.int .u32 0),.val (.sl (.sl .int)) f,.val (.sl (.sl .int)) c',.val (.sl .int) ma',.val (.sl .int) mb',.val .int wst',.ref 1,.val .str bk]),(8,.rcd [.val (.sl (.sl .int)) c',.val (.sl .int) ma',.val (.sl .int) mb',.val .int wst'])]) ?_ ?_
 ·unfold AS.reB
  refine zAf ?_ ?_ ?_<;>simp only [push_cast,seval,reduceCtorEq]
 have hol:ord.length≤1000000:=by
  have:ord.length≤60:=hord
  omega
 replace hnl:=And.intro hnl hol
 refine zAb fun K hK0=>?_; have hS:=Stop.mk hK0; clear hK0
 repeat' (first|(refine zAa hE rfl ?_; simp +contextual only [hnl,↓kA,push_cast,seval,reduceCtorEq])|refine andS ?_|fail)
 refine hS.h _ ?_; clear hS K
 refine zAo (t:=AS.of [(0,.one (.box 0)),(1,.one (.val .str t)),(8,.one (.box 8))] [(1,.flat 9 .str (ord++[t]))] [(0,.rcd [.raw (.int .i32 1),.raw (.int .u32 0),.val (.sl (.sl .int)) f,.val (.sl (.sl .int)) c',.val (.sl .int) ma',.val (.sl .int) mb',.val .int wst',.ref 1,.val .str bk]),(8,.rcd [.val (.sl (.sl .int)) c',.val (.sl .int) ma',.val (.sl .int) mb',.val .int wst'])]) ?_ ?_
 ·refine zAf ?_ ?_ ?_<;>simp only [push_cast,seval,reduceCtorEq]
 refine zQi 0 0 7 1 rfl rfl rfl (by rw [hnl0]; decide) ?_
 refine zAo (t:=AS.of [(0,.one (.box 0)),(1,.one (.val .str t)),(8,.one (.box 8))] [] [(0,.rcd [.raw (.int .i32 1),.raw (.int .u32 0),.val (.sl (.sl .int)) f,.val (.sl (.sl .int)) c',.val (.sl .int) ma',.val (.sl .int) mb',.val .int wst',.mk 0 9 .str (ord++[t]),.val .str bk]),(8,.rcd [.val (.sl (.sl .int)) c',.val (.sl .int) ma',.val (.sl .int) mb',.val .int wst'])]) ?_ ?_
 ·unfold AS.reB
  refine zAf ?_ ?_ ?_<;>simp only [push_cast,seval,reduceCtorEq]
 have hwr:WrPre bk (zA9 ma' mb' c' wst') t:=by
  have h1:=zGI ma' mb' c' wst'
  have h2:=(zCe.1 hok).1.1
  have h3:bk.size≤100*ord.length:=hbk
  have h4:ord.length≤60:=hord
  exact ⟨by omega,by unfold InR; omega,by omega⟩
 replace hnl:=And.intro hnl (eq_true hwr)
 refine zAb fun K hK0=>?_; have hS:=Stop.mk hK0; clear hK0
 repeat' (first|(refine zAc hE 1 rfl rfl (by decide +kernel) ?_; simp only [List.length_cons,List.length_nil,Nat.reduceAdd,Nat.reduceSub,List.take_succ_cons,List.take_zero,List.drop_succ_cons,List.drop_zero]; simp +contextual only [hnl,↓kA,push_cast,seval,reduceCtorEq])|(first|(refine goK (by assumption) ?_; iterate 4 (try clear hK K))|(refine zAb fun K hK=>?_)|((first|refine zAa hE rfl ?_|refine zAi ?_); simp +contextual only [hnl,↓kA,push_cast,seval,reduceCtorEq])|refine zAd ?_|((first|refine zAg ?_|refine zAj ?_); simp only [thenQ,zAh,if_true,if_false,Nat.reduceEqDiff,reduceCtorEq])|(refine zAe (by rfl) (fun hb=>?_) (fun hb=>?_)<;>(try simp only [bq,reduceCtorEq] at hb)<;>(try omega))|refine zAr (by rfl) ?_ ?_|refine andS ?_|(refine ⟨fun hc=>?_,fun hc=>?_⟩)|(intro hc; try omega)))
 refine hS.h _ ?_; clear hS K
 repeat' (first|(refine goK (by assumption) ?_; iterate 4 (try clear hK K))|(refine zAb fun K hK=>?_)|((first|refine zAa hE rfl ?_|refine zAi ?_); simp +contextual only [hnl,↓kA,push_cast,seval,reduceCtorEq])|fail)
 all_goals exact ⟨.inr rfl,_,AS.of [(0,.one (.box 0)),(4,.one (.val .int (doE ((),(),f,c,ma,mb,wst,ord,bk,()) t)))] [] [(0,.rcd [.raw (.int .i32 0),.raw (.int .u32 0),.val (.sl (.sl .int)) f,.val (.sl (.sl .int)) c',.val (.sl .int) ma',.val (.sl .int) mb',.val .int wst',.mk 0 9 .str (ord++[t]),.val .str (zCL bk (zA9 ma' mb' c' wst') t)])],rfl,rfl,(by rw [eE]; (refine zAf ?_ ?_ ?_<;>simp only [push_cast,seval,reduceCtorEq])),(by simp only [hnl,eX,mkH,lst,Tryz.results18,push_cast,seval,reduceCtorEq])⟩
end Go.Proofs.YtekfodeknpnkbaaGreatDoor
