import Derived.Test.YtekfodeknpnkbaaGreatDoorJ5
import Derived.Test.YtekfodeknpnkbaaGreatDoorJ11
import Derived.LaidEql
import Derived.Stop.Asserts
import Derived.RowKitTokens
import Derived.Tactics2
set_option linter.unusedSimpArgs false
set_option linter.unusedVariables false
namespace Go.Proofs.YtekfodeknpnkbaaGreatDoor
open Go.RowKit Go.VS Go.Extern.Stop Go.Stop Go.Extern
theorem zWM (t:Value) (w:World):Calls Tryz.prog 102 #[.nilIface,t] w fun e w'=>e=.returned (.bool false)/\w'=w:=by
 go_enter Tryz.func102,Tryz.ntmps102
 go_wp2
 go_ret
 exact ⟨rfl,rfl⟩
theorem as_vp (t:Addr) (w:World):(ReflectliteValue.unpack (.iface 158 (.pointer (some t)))).run Tryz.prog w=.ok (.agg #[.pointer (some ⟨9,158,none⟩),.pointer (some ⟨w.heap.size,0,none⟩),.int .u64 150]) (w.alloc (.cells #[.pointer (some t)] 158)):=by kernel_rfl
theorem as_vr (n:Int) (w:World):(ReflectliteValue.unpack (.iface 147 (.agg #[.int .i64 n]))).run Tryz.prog w=.ok (.agg #[.pointer (some ⟨9,147,none⟩),.pointer (some ⟨w.heap.size,0,none⟩),.int .u64 153]) (w.alloc (.cells #[.int .i64 n] 147)):=by kernel_rfl
theorem zWR (a:Addr) (w:World):(ReflectliteValue.methodAny (ReflectliteValue.valueError "reflectlite.Value.Type" 0) (fun t _ _ _=>ReflectliteType.toType t) #[.agg #[.pointer (some ⟨9,158,none⟩),.pointer (some a),.int .u64 150]]).run Tryz.prog w=.ok (.iface 230 (.agg #[.pointer (some ⟨9,158,none⟩)])) w:=by kernel_rfl
theorem as_mk (h:Value) (w:World):(Go.method 412 230 (.agg #[h]) "Kind").run Tryz.prog w=.ok (248,h) w:=by kernel_rfl
theorem as_kp (w:World):((ReflectliteType.abiMethod fun t=>(fun a:Nat=>Value.int IntKind.u8 (a:Int)) <$> Rtype.kind t) #[.pointer (some ⟨9,158,none⟩)]).run Tryz.prog w=.ok (.int .u8 22) w:=by kernel_rfl
theorem as_kr (w:World):((ReflectliteType.abiMethod fun t=>(fun a:Nat=>Value.int IntKind.u8 (a:Int)) <$> Rtype.kind t) #[.pointer (some ⟨9,147,none⟩)]).run Tryz.prog w=.ok (.int .u8 25) w:=by kernel_rfl
theorem zUJ (z:Sem Value) (f:TypeId->Addr->Nat->Nat->Sem Value) (v:Value):ReflectliteValue.method z f #[v]=(do match <-ReflectliteValue.parts v with|none=>z|some (t,a,fl)=>f t a fl (fl % 32)):=rfl
theorem as_pp (a:Addr) (w:World):(ReflectliteValue.parts (.agg #[.pointer (some ⟨9,158,none⟩),.pointer (some a),.int .u64 150])).run Tryz.prog w=.ok (some (158,a,150)) w:=by kernel_rfl
theorem zS2 (a p:Addr) (W:World) (ha:W.cell? a=some (.pointer (some p))):(ReflectliteValue.method (ReflectliteValue.valueError "reflectlite.Value.IsNil" 0) ReflectliteValue.isNil #[.agg #[.pointer (some ⟨9,158,none⟩),.pointer (some a),.int .u64 150]]).run Tryz.prog W=.ok (.bool false) W:=by
 rw [zUJ]
 simp only [aJ,as_pp,Result.andThen]
 simp [ReflectliteValue.isNil,loadVar,isAgg,underlying,Tryz.underlying158,ha,Result.andThen]
theorem as_me (h:Value) (w:World):(Go.method 412 230 (.agg #[h]) "Elem").run Tryz.prog w=.ok (261,.agg #[h]) w:=by kernel_rfl
theorem as_mi (h:Value) (w:World):(Go.method 412 230 (.agg #[h]) "Implements").run Tryz.prog w=.ok (262,.agg #[h]) w:=by kernel_rfl
theorem as_ma (h:Value) (w:World):(Go.method 412 230 (.agg #[h]) "AssignableTo").run Tryz.prog w=.ok (259,.agg #[h]) w:=by kernel_rfl
theorem as_ep (w:World):(ReflectliteType.method ReflectliteType.elem #[.agg #[.pointer (some ⟨9,158,none⟩)]]).run Tryz.prog w=.ok (.iface 230 (.agg #[.pointer (some ⟨9,147,none⟩)])) w:=by kernel_rfl
theorem as_ir (w:World) : (ReflectliteType.relation "Implements" ReflectliteType.implements_ #[.agg #[.pointer (some ⟨9,147,none⟩)],.iface 230 (.agg #[.pointer (some ⟨9,102,none⟩)])]).run Tryz.prog w=.ok (.bool true) w:=by kernel_rfl
theorem as_to (v:Value) (w:World):(ReflectliteType.typeOf #[.iface 147 v]).run Tryz.prog w=.ok (.iface 230 (.agg #[.pointer (some ⟨9,147,none⟩)])) w:=by kernel_rfl
theorem as_ar (w:World) : (ReflectliteType.relation "AssignableTo" ReflectliteType.assignableTo #[.agg #[.pointer (some ⟨9,147,none⟩)],.iface 230 (.agg #[.pointer (some ⟨9,147,none⟩)])]).run Tryz.prog w=.ok (.bool true) w:=by kernel_rfl
theorem as_eo (w:World):(Rtype.elem? 158).run Tryz.prog w=.ok (some 147) w:=by kernel_rfl
theorem zWL (p:Addr) (w:World):(ReflectliteValue.mk 147 p ReflectliteValue.flagAddr).run Tryz.prog w=.ok (.agg #[.pointer (some ⟨9,147,none⟩),.pointer (some p),.int .u64 409]) w:=by kernel_rfl
theorem as_ev (a p:Addr) (W:World) (ha:W.cell? a=some (.pointer (some p))):(ReflectliteValue.method (ReflectliteValue.valueError "reflectlite.Value.Elem" 0) ReflectliteValue.elem #[.agg #[.pointer (some ⟨9,158,none⟩),.pointer (some a),.int .u64 150]]).run Tryz.prog W=.ok (.agg #[.pointer (some ⟨9,147,none⟩),.pointer (some p),.int .u64 409]) W:=by
 rw [zUJ]
 simp only [aJ,as_pp,Result.andThen]
 simp [ReflectliteValue.elem,loadVar,isAgg,underlying,Tryz.underlying158,ha,Result.andThen,as_eo,zWL]
theorem zWP (v x:Value):ReflectliteValue.set #[v,x]=(do
 let (some (dst,a,fl),some (src,b,_)):=(<-ReflectliteValue.parts v,<-ReflectliteValue.parts x)
  | unsupported (.noEntry "extern/(internal/reflectlite.Value).Set.zeroValue")
 if fl / ReflectliteValue.flagAddr % 2 == 0 then unsupported (.noEntry "extern/(internal/reflectlite.Value).Set.unaddressable")
 let val <-loadVar src b
 if <-Rtype.directlyAssignable dst src then storeVar dst a val
 else if <-Rtype.implements dst src then
  if (<-Rtype.kind src) == 20 then
   match val with
   | .nilIface=>unsupported (.noEntry "extern/reflectlite: a nil value of one interface type handed on as a value of another")
   | _=>storeVar dst a val
  else storeVar dst a (.iface src val)
 else panicString ("reflectlite.Set: value of type "++(<-Rtype.spelt src) ++ " is not assignable to type "++(<-Rtype.spelt dst))
 pure (.tuple #[])):=rfl
theorem zWN (a:Addr) (w:World):(ReflectliteValue.parts (.agg #[.pointer (some ⟨9,147,none⟩),.pointer (some a),.int .u64 409])).run Tryz.prog w=.ok (some (147,a,409)) w:=by kernel_rfl
theorem zWO (a:Addr) (w:World):(ReflectliteValue.parts (.agg #[.pointer (some ⟨9,147,none⟩),.pointer (some a),.int .u64 153])).run Tryz.prog w=.ok (some (147,a,153)) w:=by kernel_rfl
theorem as_dr (w:World):(Rtype.directlyAssignable 147 147).run Tryz.prog w=.ok true w:=by kernel_rfl
theorem as_sz (w:World):(sizeOf 147).run Tryz.prog w=.ok 1 w:=by kernel_rfl
theorem as_ag (w:World):(isAgg 147).run Tryz.prog w=.ok true w:=by kernel_rfl
theorem zWQ (t b:Addr) (n:Int) (old:Value) (W:World) (hb:W.cell? b=some (.int .i64 n)) (ht:W.cell? t=some old) (hf:W.frozen? t=false) :
 (ReflectliteValue.set #[.agg #[.pointer (some ⟨9,147,none⟩),.pointer (some t),.int .u64 409],.agg #[.pointer (some ⟨9,147,none⟩),.pointer (some b),.int .u64 153]]).run Tryz.prog W=.ok (.tuple #[]) (W.setCell t (.int .i64 n)):=by
 rw [zWP]
 simp only [aJ,zWN,zWO,Result.andThen]
 simp [ReflectliteValue.flagAddr,loadVar,as_ag,as_sz,loadCells,loadCellsFrom,Addr.add,hb,Result.andThen,as_dr,storeVar,Value.cells,storeCells]
 rw [run_store Tryz.prog W t _ _ (by rfl)]
 simp [ht,hf]
set_option maxHeartbeats 4000000 in
theorem zWK (n:Int) (t:Addr) (old:Value) (w:World) (hg:w.cell? ⟨0,0,none⟩=some (.iface 230 (.agg #[.pointer (some ⟨9,102,none⟩)]))) (ht0:w.cell? t=some old) (hf0:w.frozen? t=false) :
 Calls Tryz.prog 102 #[.iface 147 (.agg #[.int .i64 n]),.iface 158 (.pointer (some t))] w fun ev w'=>ev=.returned (.bool true)/\w'=((((w.alloc (.cells #[.pointer (some t)] 158)).alloc (.cells #[.pointer (some ⟨9,158,none⟩),.pointer (some ⟨w.heap.size,0,none⟩),.int .u64 150] 192)).alloc (.cells #[.pointer (some ⟨9,158,none⟩),.pointer (some ⟨w.heap.size,0,none⟩),.int .u64 150] 192)).alloc (.cells #[.int .i64 n] 147)).setCell t (.int .i64 n):=by
 have h6:=@run_callFunc_extern Tryz.prog 151 _ (fun args=>ReflectliteValue.unpack (args.getD 0 (.tuple #[]))) Tryz.func151 kr kr kr kr
 have h7:=@run_callFunc_extern Tryz.prog 152 _ (ReflectliteValue.methodAny (ReflectliteValue.valueError "reflectlite.Value.Type" 0) (fun t _ _ _=>ReflectliteType.toType t)) Tryz.func152 kr kr kr kr
 have h8:=@run_callFunc_extern Tryz.prog 153 _ (ReflectliteValue.method (ReflectliteValue.valueError "reflectlite.Value.IsNil" 0) ReflectliteValue.isNil) Tryz.func153 kr kr kr kr
 have h27:=@run_callFunc_extern Tryz.prog 248 _ (ReflectliteType.abiMethod fun t=>do pure (.int .u8 (<-Rtype.kind t))) Tryz.func248 kr kr kr kr
 have h37:=@run_callFunc_extern Tryz.prog 261 _ (ReflectliteType.method ReflectliteType.elem) Tryz.func261 kr kr kr kr
 have h38:=@run_callFunc_extern Tryz.prog 262 _ (ReflectliteType.relation "Implements" ReflectliteType.implements_) Tryz.func262 kr kr kr kr
 have h10:=@run_callFunc_extern Tryz.prog 193 _ ReflectliteType.typeOf Tryz.func193 kr kr kr kr
 have h35:=@run_callFunc_extern Tryz.prog 259 _ (ReflectliteType.relation "AssignableTo" ReflectliteType.assignableTo) Tryz.func259 kr kr kr kr
 have h11:=@run_callFunc_extern Tryz.prog 194 _ (ReflectliteValue.method (ReflectliteValue.valueError "reflectlite.Value.Elem" 0) ReflectliteValue.elem) Tryz.func194 kr kr kr kr
 have h12:=@run_callFunc_extern Tryz.prog 195 _ ReflectliteValue.set Tryz.func195 kr kr kr kr
 have tO:=as_to
 have mA:=as_ma
 have aR:=as_ar
 have vR:=as_vr
 have f6:=as_vp
 have f7:=zWR
 have mK:=as_mk
 have mE:=as_me
 have mI:=as_mi
 have kP:=as_kp
 have kR:=as_kr
 have eP:=as_ep
 have iR:=as_ir
 have n8:=zS2 ⟨w.heap.size,0,none⟩ t ((w.alloc (.cells #[.pointer (some t)] 158)).alloc (.cells #[.pointer (some ⟨9,158,none⟩),.pointer (some ⟨w.heap.size,0,none⟩),.int .u64 150] 192)) (by simp)
 have hlt:0<w.heap.size:=by
  rcases ai 0 w.heap.size with h|h
  ·exact h
  ·simp [World.cell?,cG h] at hg
 have hg2:((w.alloc (.cells #[.pointer (some t)] 158)).alloc (.cells #[.pointer (some ⟨9,158,none⟩),.pointer (some ⟨w.heap.size,0,none⟩),.int .u64 150] 192)).cell? ⟨0,0,none⟩=some (.iface 230 (.agg #[.pointer (some ⟨9,102,none⟩)])):=by
  rw [bI _ _ ⟨0,0,none⟩ (by simp),bI _ _ ⟨0,0,none⟩ hlt]; exact hg
 have htl:t.block<w.heap.size:=by
  rcases ai t.block w.heap.size with h|h
  ·exact h
  ·simp [World.cell?,cG h] at ht0
 have el:=as_ev ⟨w.heap.size,0,none⟩ t (((w.alloc (.cells #[.pointer (some t)] 158)).alloc (.cells #[.pointer (some ⟨9,158,none⟩),.pointer (some ⟨w.heap.size,0,none⟩),.int .u64 150] 192)).alloc (.cells #[.pointer (some ⟨9,158,none⟩),.pointer (some ⟨w.heap.size,0,none⟩),.int .u64 150] 192)) (by rw [bI _ _ ⟨w.heap.size,0,none⟩ (by simp; omega)]; simp)
 have st:=zWQ t ⟨w.heap.size+1+1+1,0,none⟩ n old ((((w.alloc (.cells #[.pointer (some t)] 158)).alloc (.cells #[.pointer (some ⟨9,158,none⟩),.pointer (some ⟨w.heap.size,0,none⟩),.int .u64 150] 192)).alloc (.cells #[.pointer (some ⟨9,158,none⟩),.pointer (some ⟨w.heap.size,0,none⟩),.int .u64 150] 192)).alloc (.cells #[.int .i64 n] 147))
  (by rw [World.cell?_alloc_at _ _ _ _ (by simp)]; rfl)
  (by rw [bI _ _ t (by simp; omega),bI _ _ t (by simp; omega),bI _ _ t (by simp; omega),bI _ _ t htl]; exact ht0)
  (by rw [World.frozen?_alloc_old _ _ t (by simp; omega),World.frozen?_alloc_old _ _ t (by simp; omega),World.frozen?_alloc_old _ _ t (by simp; omega),World.frozen?_alloc_old _ _ t (Nat.ne_of_lt htl)]; exact hf0)
 go_enter Tryz.func102,Tryz.ntmps102
 go_wp2
 refine wp_loop_rounds 1 ?_
 rw [rounds_succ]
 go_wp2
 go_ret
 exact ⟨rfl,rfl⟩
end Go.Proofs.YtekfodeknpnkbaaGreatDoor
namespace Go.Proofs.YtekfodeknpnkbaaGreatDoor
open Go.RowKit Go.VS
set_option maxRecDepth 20000
theorem et_rt:(Tryz.prog.cutTypes.find? (·.1 == "internal/reflectlite.rtype")).map (·.2)=some 230:=by kernel_rfl
theorem zW8:((List.range 312).filter fun t=>Tryz.prog.rowNamed t [101,114,114,111,114])=[102]:=by kernel_rfl
theorem zVv:Tryz.prog.types.size=312:=by kernel_rfl
theorem et_g : Tryz.prog.globalNamed "errors.errorType"=some 0:=by kernel_rfl
theorem zVu {w:World} (h:Gd Tryz.prog w):w.cell? ⟨0,0,none⟩=some (.iface 230 (.agg #[.pointer (some ⟨9,102,none⟩)])):=by
 obtain ⟨u,ty,e2,e3,e4,e5⟩:=h.typ _ et_g
 obtain rfl:=bP (et_rt.symm.trans e2)
 have hm:ty∈(List.range 312).filter fun t=>Tryz.prog.rowNamed t [101,114,114,111,114]:=List.mem_filter.2 ⟨bR.2 (by rw [<-zVv]; exact e3),e4⟩
 rw [zW8] at hm
 obtain rfl:=aX.1 hm
 have hh:typeHandle Tryz.prog 102=.pointer (some ⟨9,102,none⟩):=by kernel_rfl
 rw [hh] at e5
 simpa using World.var?_cell et_g e5 0
theorem zVa (n:Int) (t:Addr) (old:Value) (w:World) (hgd:Gd Tryz.prog w) (ht0:w.cell? t=some old) (hf0:w.frozen? t=false) :
 Calls Tryz.prog 102 #[.iface 147 (.agg #[.int .i64 n]),.iface 158 (.pointer (some t))] w fun ev w'=>ev=.returned (.bool true)/\w'.cell? t=some (.int .i64 n)/\Keep (fun k=>k=t.block) w w':=by
 refine (zWK n t old w (zVu hgd) ht0 hf0).mono ?_
 rintro e w' ⟨rfl,rfl⟩
 have htl:t.block<w.heap.size:=by
  rcases ai t.block w.heap.size with h|h
  ·exact h
  ·simp [World.cell?,cG h] at ht0
 refine ⟨rfl,World.cell?_setCell_same _ t _ (u:=old) ?_,?_⟩
 ·rw [bI _ _ t (by simp; omega),bI _ _ t (by simp; omega),bI _ _ t (by simp; omega),bI _ _ t htl]; exact ht0
 ·have k4:Keep (fun k=>k=t.block) w ((((w.alloc (.cells #[.pointer (some t)] 158)).alloc (.cells #[.pointer (some ⟨9,158,none⟩),.pointer (some ⟨w.heap.size,0,none⟩),.int .u64 150] 192)).alloc (.cells #[.pointer (some ⟨9,158,none⟩),.pointer (some ⟨w.heap.size,0,none⟩),.int .u64 150] 192)).alloc (.cells #[.int .i64 n] 147)) :=
   ⟨rfl,rfl,rfl,by simp; omega,fun k hk _=>by
    rw [Below.heap_alloc _ _ k (by simp; omega),Below.heap_alloc _ _ k (by simp; omega),Below.heap_alloc _ _ k (by simp; omega),Below.heap_alloc _ _ k hk]⟩
  refine k4.step (M:=fun k=>k=t.block) ⟨rfl,rfl,rfl,?_,fun k hk hne=>?_⟩ (fun b hb _=>hb)
  ·simp [World.setCell]
  ·exact Below.heap_setCell _ _ _ k hne
set_option maxHeartbeats 2000000 in
theorem zOP (n:Int) (w:World) (hg:Gd Tryz.prog w):Calls Tryz.prog 53 #[errV 147 n] w fun e w'=>e=.returned (.int .i64 n)/\Keep (fun _=>False) w w':=by
 have hkA:Keep (fun _=>False) w (w.alloc (.cells #[.int .i64 0] 147)):=⟨rfl,rfl,rfl,by simp,fun k hk _=>Below.heap_alloc w _ k hk⟩
 by_cases hn:n=0
 ·subst hn
  rw [show errV 147 0=.nilIface from rfl]
  go_enter Tryz.func53,Tryz.ntmps53
  go_wp2_with (go_at_call 102; refine (zWM _ _).mono ?_; rintro e w' ⟨rfl,rfl⟩)
  go_ret
  exact ⟨rfl,hkA⟩
 ·rw [show errV 147 n=.iface 147 (.agg #[.int .i64 n]) from ae hn]
  have hgA:=hg.later hkA
  have hnew:=heap_alloc_new w (.cells #[.int .i64 0] 147)
  have c0:(w.alloc (.cells #[.int .i64 0] 147)).cell? ⟨w.heap.size,0,none⟩=some (.int .i64 0):=by simp only [World.cell?,hnew]; rfl
  have z0:(w.alloc (.cells #[.int .i64 0] 147)).frozen? ⟨w.heap.size,0,none⟩=false:=by simp only [World.frozen?,hnew]; rfl
  have hcall:=zVa n ⟨w.heap.size,0,none⟩ _ _ hgA c0 z0
  clear hnew c0 z0 hgA
  go_enter Tryz.func53,Tryz.ntmps53
  go_wp2_with (go_at_call 102; refine hcall.mono ?_; rintro e w' ⟨rfl,hc,hk⟩)
  go_ret
  exact ⟨rfl,hkA.step hk (fun b hb hlt=>by have:b=w.heap.size:=hb; omega)⟩
@[push_cast] def zJG:Con:=⟨[.dat (.err 147)],fun _=>True,fun (x:Int×Unit)=>{res:=[.val .int x.1]}⟩
theorem zQE:FnSpec Tryz.prog 53 zJG:=by
 refine zBE ⟨_,Tryz.func53,by kernel_rfl,rfl⟩ (fun _=>rfl) (fun _=>rfl) fun C γ x vs hpre hen=>?_
 have hg:=hen.ds.2.gd
 rw [hen.P] at hg
 have hargs:=hen.args
 obtain ⟨(n:Int),_⟩:=x
 obtain ⟨v0,_,rfl,h0,rfl⟩:=hargs
 obtain rfl:v0=errV 147 n:=zM2 h0
 refine (zOP n C.w0 hg).mono ?_
 rintro e w' ⟨rfl,hk⟩
 exact ⟨[_],rfl,⟨_,[],rfl,⟨[.int .i64 n],rfl,rfl⟩,rfl,rfl,rfl⟩,hk⟩
end Go.Proofs.YtekfodeknpnkbaaGreatDoor
namespace Go.Proofs.YtekfodeknpnkbaaGreatDoor
open Go.RowKit Go.VS
theorem zHR:∀ (l:List UInt8) (a v:Nat) (c:UInt8),Lib.parseUint10 a l=.ok v->48<=c.toNat->c.toNat<=57->v<1000000000000000000->Lib.parseUint10 a (l++[c])=.ok (v*10+(c.toNat - 48))
 | [],a,v,c,h,h1,h2,hv=>by
  simp only [Lib.parseUint10] at h
  injection h with h
  subst h
  simp only [bD,Lib.parseUint10]
  rw [ah ⟨h1,h2⟩,ae (by omega),ae (by omega)]
 | x::l,a,v,c,h,h1,h2,hv=>by
  simp only [bZ,Lib.parseUint10] at h ⊢
  split at h
  ·rename_i hx
   rw [ah hx]
   split at h
   ·cases h
   ·rename_i h3
    rw [ae h3]
    split at h
    ·cases h
    ·rename_i h4
     rw [ae h4]
     exact zHR l _ v c h h1 h2 hv
  ·cases h
theorem zBD {d:Nat} (h:d<10):(UInt8.ofNat (48+d)).toNat=48+d:=by
 rw [UInt8.toNat_ofNat']; omega
theorem zR7 (u:Nat):u<1000000000000000000->Lib.parseUint10 0 (Lib.decDigits u)=.ok u:=by
 induction u using Nat.strongRecOn with
 | _ u ih =>
  intro hu
  by_cases h:u<10
  ·rw [Lib.decDigits_one h]
   have:=zHR [] 0 0 (UInt8.ofNat (48+u)) rfl (by rw [zBD h]; omega) (by rw [zBD h]; omega) (by omega)
   rw [bD,zBD h] at this
   rw [this]
   congr 1
   omega
  ·rw [Lib.decDigits,dif_neg h]
   have hm:u % 10<10:=Nat.mod_lt _ (by omega)
   rw [zHR _ _ _ _ (ih (u / 10) (by omega) (by omega)) (by rw [zBD hm]; omega) (by rw [zBD hm]; omega) (by omega),zBD hm]
   congr 1
   omega
theorem zHt (u:Nat):∀ c∈Lib.decDigits u,48<=c.toNat/\c.toNat<=57:=by
 induction u using Nat.strongRecOn with
 | _ u ih =>
  intro c hc
  by_cases h:u<10
  ·rw [Lib.decDigits_one h,aX] at hc
   rw [hc,zBD h]
   omega
  ·rw [Lib.decDigits,dif_neg h] at hc
   rcases aV.1 hc with hc|hc
   ·exact ih (u / 10) (by omega) c hc
   ·rw [aX] at hc
    have hm:u % 10<10:=Nat.mod_lt _ (by omega)
    rw [hc,zBD hm]
    omega
theorem zQO (u:Nat):Lib.decDigits u≠[]:=by
 intro h
 have:=Lib.decDigits_length u
 rw [h] at this
 have h2:1<=Lib.nDigits u:=by rw [Lib.nDigits]; split<;>omega
 simp at this
 omega
theorem zTb (u:Nat):1<=u->((Lib.decDigits u).getD 0 0).toNat≠48:=by
 induction u using Nat.strongRecOn with
 | _ u ih =>
  intro hu
  by_cases h:u<10
  ·rw [Lib.decDigits_one h]
   show (UInt8.ofNat (48+u)).toNat≠48
   rw [zBD h]
   omega
  ·rw [Lib.decDigits,dif_neg h]
   have hl:0<(Lib.decDigits (u / 10)).length:=List.length_pos_iff.2 (zQO _)
   rw [ab,bd hl,<-ab]
   exact ih (u / 10) (by omega) (by omega)
theorem zQs {n:Nat} (h:n<1000000000000000000):Lib.atoiAll (Lib.itoa (n:Int))=.ok (n:Int):=by
 rw [Lib.itoa_nonneg]
 cases hd:Lib.decDigits n with
 | nil=>exact absurd hd (zQO n)
 | cons c r =>
  have hc:=zHt n c (by rw [hd]; simp)
  have hp:=zR7 n h
  unfold Lib.atoiAll
  dsimp only
  rw [ae (by omega:¬(c.toNat=43\/c.toNat=45)),Lib.parseMag,ae (by simp),<-hd,hp]
  dsimp only
  rw [ae (by omega),ae (by omega),ae (by omega)]
theorem zGi (n:Int):(itoaV n).data.toList=Lib.itoa n:=rfl
theorem zEJ {v:Int} (h0:0<=v) (h1:v<=1000000000):zDr (itoaV v)=true/\atoiV (itoaV v)=v:=by
 have e:Lib.atoiAll (itoaV v).data.toList=.ok v:=by
  rw [zGi]
  have:=zQs (n:=v.toNat) (by omega)
  rwa [bG h0] at this
 unfold zDr atoiV
 rw [e]
 exact ⟨rfl,rfl⟩
theorem zNK {s:ByteArray} (h0:byteV s 0≠48):∀ {k:Nat},(∀ i,i<k+1->48<=byteV s i/\byteV s i<=57)->1<=decK s (k+1)
 | 0,h=>by
  have:=h 0 (by omega)
  show 1<=10*decK s 0+((byteV s 0:Int) - 48)
  have e:decK s 0=0:=rfl
  omega
 | k+1,h=>by
  have h1:=zNK h0 (k:=k) (fun i hi=>h i (by omega))
  have h2:=h (k+1) (by omega)
  show 1<=10*decK s (k+1)+((byteV s (k+1):Int) - 48)
  omega
theorem zNL {s:ByteArray} (hd:∀ k,k<s.size->48<=byteV s k/\byteV s k<=57) (hz:¬(1<s.size/\byteV s 0=48)) (h6:s.size<=6) :
 ∀ k,k+1<=s.size->Lib.decDigits (decK s (k+1)).toNat=s.data.toList.take (k+1)
 | 0,hk=>by
  have h:=hd 0 (by omega)
  have e:decK s 1=(byteV s 0:Int) - 48:=by show 10*decK s 0+((byteV s 0:Int) - 48)=_; have e:decK s 0=0:=rfl; omega
  have hl:0<s.data.toList.length:=by rw [ax]; show 0<s.size; omega
  rw [e,Lib.decDigits_one (by omega)]
  cases hL:s.data.toList with
  | nil=>rw [hL] at hl; simp at hl
  | cons c r =>
   have hb:byteV s 0=c.toNat:=by unfold byteV; rw [hL]; rfl
   have e2:48+((byteV s 0:Int) - 48).toNat=c.toNat:=by omega
   rw [e2,UInt8.ofNat_toNat]
   rfl
 | k+1,hk=>by
  have ih:=zNL hd hz h6 k (by omega)
  have h:=hd (k+1) (by omega)
  have hp:=zNK (s:=s) (fun e=>hz ⟨by omega,e⟩) (k:=k) (fun i hi=>hd i (by omega))
  have e:decK s (k+1+1)=10*decK s (k+1)+((byteV s (k+1):Int) - 48):=rfl
  have hl:k+1<s.data.toList.length:=by rw [ax]; show k+1<s.size; omega
  rw [Lib.decDigits,dif_neg (by omega),show (decK s (k+1+1)).toNat / 10=(decK s (k+1)).toNat by omega,ih,show (decK s (k+1+1)).toNat % 10=byteV s (k+1) - 48 by omega,bb hl]
  congr 2
  have hb:byteV s (k+1)=(s.data.toList[k+1]).toNat:=by unfold byteV; rw [ab,aj hl]; rfl
  exact UInt8.toNat_inj.1 (by rw [UInt8.toNat_ofNat']; have:=(s.data.toList[k+1]).toNat_lt; omega)
theorem zK8 {s:ByteArray} (h:zBu s=true):itoaV (numRV s)=s/\0<=numRV s/\numRV s<=999999:=by
 have h':=h
 rw [zBu,av,au] at h'
 obtain ⟨⟨h1,h2,h3⟩,h4⟩:=h'
 have hd:=zDe.1 h4
 have hb:=zGe h2 (k:=s.size) hd
 have hp:(10:Int) ^ s.size<=10 ^ 6:=by
  have:=Nat.pow_le_pow_right (show 0<10 by omega) h2
  exact_mod_cast this
 have e:numRV s=decK s s.size:=ah h
 obtain ⟨k,hk⟩:∃ k,s.size=k+1:=⟨s.size - 1,by omega⟩
 have ht:=zNL hd h3 h2 k (by omega)
 rw [<-hk,aS (by rw [ax]; exact ap _)] at ht
 refine ⟨?_,by omega,by rw [e]; omega⟩
 rw [e]
 have hi:Lib.itoa (decK s s.size)=s.data.toList:=by
  have:=Lib.itoa_nonneg (decK s s.size).toNat
  rw [bG hb.1] at this
  rw [this,ht]
 unfold itoaV
 rw [hi]
theorem zKP {v:Int} (h0:0<=v) (h1:v<=999999):zBu (itoaV v)=true:=by
 have hL:(itoaV v).data.toList=Lib.decDigits v.toNat:=by
  rw [zGi]
  have:=Lib.itoa_nonneg v.toNat
  rwa [bG h0] at this
 have hs:(itoaV v).size=(Lib.decDigits v.toNat).length:=by rw [<-hL,ax]; rfl
 have hn:(Lib.decDigits v.toNat).length=Lib.nDigits v.toNat:=Lib.decDigits_length _
 have hpos:0<(Lib.decDigits v.toNat).length:=List.length_pos_iff.2 (zQO _)
 have hn6:Lib.nDigits v.toNat<=6:=by
  have step:∀ u,Lib.nDigits u=if u<10 then 1 else Lib.nDigits (u / 10)+1:=fun u=>by rw [Lib.nDigits]; split<;>rfl
  rw [step,step,step,step,step,step]
  repeat' split
  all_goals omega
 have hn1:1<(Lib.decDigits v.toNat).length->1<=v.toNat:=fun h=>by
  by_cases h9:v.toNat<10
  ·rw [hn,Lib.nDigits_small h9] at h; omega
  ·omega
 rw [zBu,av,au]
 refine ⟨⟨by omega,by omega,fun ⟨h,hb⟩=>?_⟩,zDe.2 fun k hk=>?_⟩
 ·unfold byteV at hb
  rw [hL] at hb
  exact zTb _ (hn1 (by omega)) hb
 ·unfold byteV
  rw [hL,ab,aj (by omega)]
  exact zHt _ _ (List.getElem_mem _)
theorem zXP {s:ByteArray} {m:Int} (hm:m<=999999):numV s m=(zBu s && decide (numRV s<=m)):=by
 cases h:zBu s with
 | true =>
  obtain ⟨h1,h2,h3⟩:=zK8 h
  obtain ⟨a1,a2⟩:=zEJ h2 (by omega)
  rw [h1] at a1 a2
  unfold numV
  rw [a1,a2,h1,aD h2,aD (rfl:s=s)]
  simp
 | false =>
  rw [Bool.false_and]
  cases hv:numV s m with
  | false=>rfl
  | true =>
   unfold numV at hv
   simp only [av,au] at hv
   obtain ⟨_,h2,h3,h4⟩:=hv
   have:=zKP h2 (by omega)
   rw [h4,h] at this
   cases this
theorem zK7 {s:ByteArray} (h:zBu s=true):atoiV s=numRV s:=by
 obtain ⟨h1,h2,h3⟩:=zK8 h
 have:=(zEJ h2 (by omega)).2
 rwa [h1] at this
end Go.Proofs.YtekfodeknpnkbaaGreatDoor
namespace Go.Proofs.YtekfodeknpnkbaaGreatDoor
open Go.RowKit Go.VS
theorem zE9 {a b:ByteArray} (h:a.data.toList=b.data.toList):a=b:=ByteArray.ext (Array.toList_inj.1 h)
theorem zBc (s:ByteArray) (y:Nat):∀ (n k:Nat),k+n=s.size->(∀ j,k<=j->j<zCR s y n k->byteV s j≠y)/\(zCR s y n k<s.size->byteV s (zCR s y n k)=y)/\k<=zCR s y n k/\zCR s y n k<=s.size
 | 0,k,h=>by
  have e:zCR s y 0 k=s.size:=rfl
  rw [e]
  exact ⟨fun j h1 h2=>by omega,fun h2=>by omega,by omega,by omega⟩
 | n+1,k,h=>by
  by_cases hb:byteV s k=y
  ·have e:zCR s y (n+1) k=k:=ah hb
   rw [e]
   exact ⟨fun j h1 h2=>by omega,fun _=>hb,by omega,by omega⟩
  ·have e:zCR s y (n+1) k=zCR s y n (k+1):=ae hb
   rw [e]
   obtain ⟨h1,h2,h3,h4⟩:=zBc s y n (k+1) (by omega)
   refine ⟨fun j h5 h6=>?_,h2,by omega,h4⟩
   by_cases hj:j=k
   ·rw [hj]; exact hb
   ·exact h1 j (by omega) h6
theorem zMP {l:List UInt8} {c:UInt8} {i:Nat}:Lib.occAt l [c] i=true↔l[i]?=some c:=by
 unfold Lib.occAt
 rw [<-List.head?_drop]
 cases l.drop i with
 | nil=>simp
 | cons x r =>
  show (c == x && ([]:List UInt8).isPrefixOf r)=true↔some x=some c
  rw [av,beq_iff_eq,ac]
  exact ⟨fun h=>h.1.symm,fun h=>⟨h.symm,by cases r<;>rfl⟩⟩
theorem zJC {s:ByteArray} {c:UInt8} {i:Nat} (h:i<s.size):s.data.toList[i]?=some c↔byteV s i=c.toNat:=by
 have hl:i<s.data.toList.length:=by rw [ax]; exact h
 unfold byteV
 rw [ab,aj hl]
 show some s.data.toList[i]=some c↔s.data.toList[i].toNat=c.toNat
 rw [ac]
 exact UInt8.toNat_inj.symm
theorem zKO (s:ByteArray) (c:UInt8):Lib.index s.data.toList [c]=if zAM s c.toNat=true then (cutI s c.toNat:Int) else -1:=by
 obtain ⟨h1,h2,_,h4⟩:=zBc s c.toNat s.size 0 (by omega)
 have hl:s.data.toList.length=s.size:=by rw [ax]; rfl
 have occ:∀ j,j<cutI s c.toNat->Lib.occAt s.data.toList [c] j=false:=fun j hj=>by
  cases ho:Lib.occAt s.data.toList [c] j with
  | false=>rfl
  | true =>
   have:=(zJC (show j<s.size by unfold cutI at hj; omega)).1 (zMP.1 ho)
   exact absurd this (h1 j (aq _) hj)
 by_cases hh:cutI s c.toNat<s.size
 ·have hh':zAM s c.toNat=true:=aD hh
  rw [ah hh']
  exact Lib.index_first (by omega) (zMP.2 ((zJC hh).2 (h2 hh))) occ
 ·have hh':¬zAM s c.toNat=true:=fun h=>hh (bg h)
  rw [ae hh']
  refine Lib.index_none fun j hj=>?_
  by_cases hj2:j<s.size
  ·exact occ j (by unfold cutI at hh ⊢; omega)
  ·cases ho:Lib.occAt s.data.toList [c] j with
   | false=>rfl
   | true =>
    have:=zMP.1 ho
    rw [cr (by omega)] at this
    cases this
theorem zCo (s:ByteArray) (i j:Nat):(s.extract i j).data.toList=(s.data.toList.drop i).take (j - i):=by
 rw [ByteArray.data_extract,Array.toList_extract,List.extract_eq_take_drop]
theorem zWW (s:ByteArray) (c:UInt8):cutB s ⟨#[c]⟩=zAM s c.toNat/\cut1 s ⟨#[c]⟩=rcut1 s c.toNat/\cut2 s ⟨#[c]⟩=rcut2 s c.toNat:=by
 have hi:=zKO s c
 have hl:s.data.toList.length=s.size:=by rw [ax]; rfl
 have hc:Lib.cut s.data.toList [c]=if zAM s c.toNat=true then (s.data.toList.take (cutI s c.toNat),s.data.toList.drop (cutI s c.toNat+1),true) else (s.data.toList,[],false):=by
  unfold Lib.cut
  rw [hi]
  by_cases h:zAM s c.toNat=true
  ·rw [ah h,ah h,ah (by omega)]
   rfl
  ·rw [ae h,ae h,ae (by omega)]
 have e:(⟨#[c]⟩:ByteArray).data.toList=[c]:=rfl
 unfold cutB cut1 cut2 rcut1 rcut2
 rw [e,hc]
 by_cases h:zAM s c.toNat=true
 ·rw [ah h,ah h,ah h,h]
  refine ⟨rfl,zE9 ?_,zE9 ?_⟩
  ·rw [zCo]; simp
  ·rw [zCo]
   show s.data.toList.drop _=_
   rw [aS (by rw [bQ]; omega)]
 ·rw [ae h,ae h,ae h]
  refine ⟨(by simpa using h:zAM s c.toNat=false).symm,zE9 rfl,zE9 rfl⟩
theorem zJI {s:ByteArray} {c:UInt8} (h:zAM s c.toNat=true):rcut1 s c.toNat++⟨#[c]⟩++rcut2 s c.toNat=s:=by
 obtain ⟨h1,h2,_,h4⟩:=zBc s c.toNat s.size 0 (by omega)
 have hh:cutI s c.toNat<s.size:=bg h
 have hl:s.data.toList.length=s.size:=by rw [ax]; rfl
 refine zE9 ?_
 rw [ct,ck,ct,ck]
 unfold rcut1 rcut2
 rw [ah h,ah h,zCo,zCo]
 have hg:=(zJC hh).2 (h2 hh)
 rw [aj (by omega)] at hg
 have hg':=bP hg
 show ((s.data.toList.drop 0).take (cutI s c.toNat - 0)++[c])++(s.data.toList.drop (cutI s c.toNat+1)).take (s.size - (cutI s c.toNat+1))=_
 rw [aS (l:=s.data.toList.drop (cutI s c.toNat+1)) (by rw [bQ]; omega),ar,Nat.sub_zero,cm,List.singleton_append]
 conv=>rhs; rw [<-List.take_append_drop (cutI s c.toNat) s.data.toList,List.drop_eq_getElem_cons (by omega:cutI s c.toNat<s.data.toList.length)]
 congr 2
 exact hg'.symm
end Go.Proofs.YtekfodeknpnkbaaGreatDoor
namespace Go.Proofs.YtekfodeknpnkbaaGreatDoor
open Go.RowKit Go.VS
def zGJ (l:List ByteArray):Bool:=l.any (fun t=>decide (400<(t.size:Int))) || decide (300<(l.length:Int))
theorem zPn {l:List ByteArray} {k:Nat} (h:k<l.length) (h2:400<((l.getD k ByteArray.empty).size:Int)):zGJ l=true:=by
 unfold zGJ
 rw [bO]
 refine .inl (cg.2 ⟨_,List.getElem_mem h,?_⟩)
 rw [ab,aj h] at h2
 exact aD h2
theorem zMJ {l:List ByteArray} (h:∀ i,i<l.length->((l.getD i ByteArray.empty).size:Int)<=400):zGJ l=decide (300<(l.length:Int)):=by
 unfold zGJ
 have:l.any (fun t=>decide (400<(t.size:Int)))=false:=by
  rw [cR]
  intro t ht
  obtain ⟨i,hi,rfl⟩:=aN ht
  have h2:=h i hi
  rw [ab,aj hi] at h2
  have h3:((l[i]).size:Int)<=400:=h2
  simp only [au]
  omega
 rw [this,bC]
theorem zPo {l:List ByteArray} (h:zGJ l=false):l.length<=300/\∀ t∈l,t.size<=400:=by
 unfold zGJ at h
 rw [Bool.or_eq_false_iff,cB,cR] at h
 refine ⟨by omega,fun t ht=>?_⟩
 have:=h.1 t ht
 simp only [au] at this
 omega
@[push_cast] def zTF:Con:=⟨[.dat (.sl .str)],fun _=>True,fun (x:List ByteArray×Unit)=>{res:=[.val .bool (zGJ x.1)]}⟩
theorem zPp:FnSpec Tryz.prog 14 zTF:=by
 refine FnSpec.of_tri' (E:=know [] [] [] []) (zAl all_nil all_nil all_nil) Tryz.func14 rfl rfl kr ?_
 intro C x hE hnl hfit hpre
 simp only [Tryz.ntmps14,Tryz.results14,maxLen,seval,push_cast] at hnl hfit hpre ⊢
 obtain ⟨(l:List ByteArray),_⟩:=x
 dsimp only at hfit hpre ⊢
 repeat' (first|(refine goK (by assumption) ?_; iterate 4 (try clear hK K))|(refine zAb fun K hK=>?_)|(refine zAa hE rfl ?_; simp +contextual only [hnl,↓kA,push_cast,seval,reduceCtorEq])|refine zAc ?_|fail)
 refine zAk (fun k:Nat=>AS.of [(0,.one (.val (.sl .str) l)),(3,.I k)] [] []) (fun k=>k<=l.length/\∀ i,i<k->((l.getD i ByteArray.empty).size:Int)<=400) (fun k=>l.length - k) 0 ⟨aq _,fun i hi=>by omega⟩ ?_ ?_
 ·refine zAf ?_ ?_ ?_<;>simp only [push_cast,seval,reduceCtorEq]
 rintro k ⟨hk,hs⟩ K' hL
 rcases ai k l.length with h|h
 ·by_cases h2:400<((l.getD k ByteArray.empty).size:Int)
  ·have hv:=zPn h h2
   replace hnl:=aa hnl hv
   exact auC
  ·repeat' (first|(refine goK (by assumption) ?_; iterate 4 (try clear hK K))|(refine zAb fun K hK=>?_)|(refine zAa hE rfl ?_; simp +contextual only [hnl,↓kA,push_cast,seval,reduceCtorEq])|refine zAc ?_|(refine zAg ?_; simp only [thenQ,zAh,if_true,if_false,Nat.reduceEqDiff,reduceCtorEq])|(refine zAe (by rfl) (fun hb=>?_) (fun hb=>?_)<;>(try simp only [bq,reduceCtorEq] at hb)<;>(try omega))|refine andS ?_|fail)
   refine hL _ (k+1) ⟨by omega,fun i hi=>?_⟩ (by omega) ?_
   ·by_cases e:i=k
    ·subst e; omega
    ·exact hs i (by omega)
   refine zAf ?_ ?_ ?_<;>simp only [push_cast,seval,reduceCtorEq]
 ·obtain rfl:k=l.length:=by omega
  have hv:=zMJ hs
  replace hnl:=aa hnl hv
  exact auC
end Go.Proofs.YtekfodeknpnkbaaGreatDoor
namespace Go.Proofs.YtekfodeknpnkbaaGreatDoor
open Go.RowKit Go.VS
def wrK (l:List Line):Nat->ByteArray×Int
 | 0=>(ByteArray.empty,0)
 | k+1=>((wrK l k).1++(lineV (wrK l k).2 (l.getD k (ByteArray.empty,0))++{data:=#[10]}),sumV (wrK l k).2 (textV (l.getD k (ByteArray.empty,0)).2 (l.getD k (ByteArray.empty,0)).1))
structure WritePre (l:List Line):Prop where
 len:l.length<=100
 all:∀ x∈l,LinePre x
end Go.Proofs.YtekfodeknpnkbaaGreatDoor
namespace Go.Proofs.YtekfodeknpnkbaaGreatDoor
open Go.RowKit Go.VS
theorem zHd {s:ByteArray} {y:Nat} (h:zAM s y=true):(rcut2 s y).size<s.size:=by
 have hh:cutI s y<s.size:=bg h
 unfold rcut2
 rw [ah h,cH]
 omega
theorem zIx {s:ByteArray} {y:Nat} (h:zAM s y=true) {j:Nat} (hj:j<(rcut2 s y).size):byteV (rcut2 s y) j=byteV s (cutI s y+1+j):=by
 have hh:cutI s y<s.size:=bg h
 have hl:s.data.toList.length=s.size:=by rw [ax]; rfl
 unfold byteV rcut2 at *
 rw [ah h] at hj ⊢
 rw [cH] at hj
 rw [zCo,ab,ab,List.getElem?_take_of_lt (by omega),b9]
theorem zH7 {s:ByteArray} {y:Nat} (h:zAM s y=true):(rcut2 s y).size+cutI s y+1=s.size:=by
 have hh:cutI s y<s.size:=bg h
 unfold rcut2
 rw [ah h,cH]
 omega
theorem zKJ {s:ByteArray} {y:Nat} (h:zAM s y=true) (i j:Nat) (hj:j<=(rcut2 s y).size):(rcut2 s y).extract i j=s.extract (cutI s y+1+i) (cutI s y+1+j):=by
 have hs:=zH7 h
 have hl:s.data.toList.length=s.size:=by rw [ax]; rfl
 refine zE9 ?_
 rw [zCo,zCo]
 have e:(rcut2 s y).data.toList=s.data.toList.drop (cutI s y+1):=by
  unfold rcut2
  rw [ah h,zCo,aS (by rw [bQ]; omega)]
 rw [e,List.drop_drop]
 congr 1
 omega
theorem zId (s:ByteArray):∀ k,k<=cutI s 32->k<=s.size->wK s k=([],0)
 | 0,_,_=>rfl
 | k+1,h,h2=>by
  have h1:=(zBc s 32 s.size 0 (by omega)).1 k (aq _) (by unfold cutI at h; omega)
  rw [zIe (fun e=>e.elim (fun e=>by omega) h1)]
  exact zId s k (by omega) (by omega)
theorem zLO {s:ByteArray} (h:zAM s 32=true):∀ j,j<=(rcut2 s 32).size+1 ->
 wK s (cutI s 32+1+j)=(rcut1 s 32::(wK (rcut2 s 32) j).1,cutI s 32+1+(wK (rcut2 s 32) j).2)
 | 0,_=>by
  have hh:cutI s 32<s.size:=bg h
  have hb:byteV s (cutI s 32)=32:=(zBc s 32 s.size 0 (by omega)).2.1 hh
  rw [Nat.add_zero,zG1 (.inr hb),zId s _ (ap _) (by omega)]
  have e:rcut1 s 32=s.extract 0 (cutI s 32):=by unfold rcut1; rw [ah h]
  rw [e]
  rfl
 | j+1,hj=>by
  have ih:=zLO h j (by omega)
  have hs:=zH7 h
  have hle:=wK_le (rcut2 s 32) j
  by_cases h1:j=(rcut2 s 32).size\/byteV (rcut2 s 32) j=32
  ·have h2:cutI s 32+1+j=s.size\/byteV s (cutI s 32+1+j)=32:=by
    rcases h1 with h1|h1
    ·left; omega
    ·by_cases hj2:j<(rcut2 s 32).size
     ·right; rw [<-zIx h hj2]; exact h1
     ·left; omega
   rw [<-Nat.add_assoc,zG1 h2,ih,zG1 h1]
   dsimp only
   rw [zKJ h _ _ (by omega)]
   rfl
  ·have h2:¬(cutI s 32+1+j=s.size\/byteV s (cutI s 32+1+j)=32):=by
    rintro (h2|h2)
    ·exact h1 (.inl (by omega))
    ·by_cases hj2:j<(rcut2 s 32).size
     ·exact h1 (.inr (by rw [zIx h hj2]; exact h2))
     ·exact h1 (.inl (by omega))
   rw [<-Nat.add_assoc,zIe h2,ih,zIe h1]
theorem zGb (s:ByteArray):zBk s=if zAM s 32=true then rcut1 s 32::zBk (rcut2 s 32) else [s]:=by
 by_cases h:zAM s 32=true
 ·rw [ah h]
  have hs:=zH7 h
  have e:=zLO h ((rcut2 s 32).size+1) (ap _)
  unfold zBk
  rw [show s.size+1=cutI s 32+1+((rcut2 s 32).size+1) by omega,e]
 ·rw [ae h]
  have hh:¬cutI s 32<s.size:=fun e=>h (aD e)
  have h4:=(zBc s 32 s.size 0 (by omega)).2.2.2
  have h5:cutI s 32=s.size:=by unfold cutI at hh ⊢; omega
  unfold zBk
  rw [zG1 (.inl rfl),zId s s.size (by omega) (ap _)]
  show [s.extract 0 s.size]=[s]
  congr 1
  refine zE9 ?_
  rw [zCo,ar,aS (by rw [ax]; exact ap _)]
end Go.Proofs.YtekfodeknpnkbaaGreatDoor
namespace Go.Proofs.YtekfodeknpnkbaaGreatDoor
open Go.RowKit Go.VS Go.OT
theorem zJt {a b:List Int} {c:List (List Int)} {w:Int} {p:zBp} (h:errWd a b c w=0) (h2:zBe c w p=0):WPre a b p:=by
 have hf:=(zCn h).1
 have hm:=hf.mc
 unfold zBe at h2
 split at h2
 ·split at h2
  ·rename_i h3
   obtain ⟨k1,k2,k3⟩:=zNY h3
   obtain ⟨r1,r2⟩:=k2.row
   obtain ⟨c1,c2⟩:=k2.col
   have e1:=hf.rows
   have e2:=hf.cols
   have:=hm.a5
   have:=hm.b5
   exact ⟨by omega,by omega,by omega,by omega,fun i hi=>hm.ha.at hi,fun i hi=>hm.hb.at hi,fun i hi=>r2 i (by omega),fun i hi=>c2 i (by omega)⟩
  ·rename_i h3; exact absurd h2 h3
 ·omega
end Go.Proofs.YtekfodeknpnkbaaGreatDoor
namespace Go.Proofs.YtekfodeknpnkbaaGreatDoor
open Go.RowKit Go.VS Go.OT
theorem zFW:FnSpec Tryz.prog 122 zEH:=by
 refine FnSpec.of_tri' (E:=know [] [] [] []) (zAl all_nil all_nil all_nil) Tryz.func122 rfl rfl kr ?_
 intro C x hE hnl hfit hpre
 simp only [Tryz.ntmps122,Tryz.results122,maxLen,seval,push_cast] at hnl hfit hpre ⊢
 obtain ⟨(n:Int),(lo:Int),(hi:Int),_⟩:=x
 dsimp only at hfit hpre ⊢
 repeat' (first|(refine goK (by assumption) ?_; iterate 4 (try clear hK K))|(refine zAb fun K hK=>?_)|((first|refine zAa hE rfl ?_|refine zAi ?_); simp +contextual only [hnl,↓kA,push_cast,seval,reduceCtorEq,cI])|(refine ⟨fun hc=>?_,fun hc=>?_⟩)|fail)
 all_goals first|omega|(simp only [decide_eq_decide]; omega)|(simp only [hc,decide_true,decide_false,Bool.true_or,bC]; done)|(simp; done)|(simp; omega)|(simp [*]; done)|(simp [*]; omega)
theorem zFV:FnSpec Tryz.prog 77 zLU:=by
 refine FnSpec.of_tri' (E:=know _ [] [] []) (zAl (kc zTl (kc zFW all_nil)) all_nil all_nil) Tryz.func77 rfl rfl kr ?_
 intro C x hE hnl hfit hpre
 simp only [Tryz.ntmps77,Tryz.results77,maxLen,seval,push_cast] at hnl hfit hpre ⊢
 obtain ⟨(a:List Int),(b:List Int),(c:List (List Int)),(w:Int),_⟩:=x
 dsimp only at hfit hpre ⊢
 by_cases h:zCT a b c=0
 ·have e1:errWd a b c w=errW w:=ah h
  by_cases h2:0<=w/\w<=99
  ·have e2:errW w=0:=ah h2
   replace hnl:=aa hnl (aa h (aa e1 (aa e2 (aa (aG h2.1) (aG h2.2)))))
   exact auB
  ·have e2:errW w=1:=ae h2
   replace hnl:=aa hnl (aa h (aa e1 (aa e2 (aB h2))))
   exact auB
 ·have e1:errWd a b c w=zCT a b c:=ae h
  replace hnl:=aa hnl (aa (aB h) e1)
  exact auB
theorem zGc {x y:Bool} (o:x=true->y=true) (h:y=false):x=false:=by
 cases x with
 | false=>rfl
 | true=>rw [o rfl] at h; cases h
theorem zSl:FnSpec Tryz.prog 79 zUU:=by
 refine FnSpec.of_tri' (E:=know _ [] [] [28]) (zAl (kc zGq (kc zFW (kc zSj (kc zRa all_nil)))) all_nil all_nil) Tryz.func79 rfl rfl kr ?_
 intro C x hE hnl hfit hpre
 simp only [Tryz.ntmps79,Tryz.results79,maxLen,seval,push_cast] at hnl hfit hpre ⊢
 obtain ⟨(c:List (List Int)),(w:Int),⟨(u:List Int),(v:List Int)⟩,_⟩:=x
 dsimp only at hfit hpre ⊢
 by_cases hc:InTab 0 99 c
 ·have k0:=zDH hc
  by_cases hw:0<=w/\w<=99
  ·have kw:errW w=0:=ah hw
   by_cases ha:ArePr c (u,v)
   ·by_cases hh:HoldP c (u,v)
    ·have k1:errPr c (u,v)=0:=zMu hc ha hh
     have kE:zBe c w (u,v)=if LowP w (u,v) then 0 else 7:=by rw [zBe,ah ⟨k0,kw⟩,ah k1]
     have hul:=ha.row.1
     have hvl:=ha.col.1
     have hcr:=hc.rows
     have hcc:=hc.cols
     dsimp only at hul hvl
     replace hnl:=aa hnl (aa k0 (aa (aG hw.1) (aa (aG hw.2) (aa (aG ha) (aG hh)))))
     repeat' (first|(refine goK (by assumption) ?_; iterate 4 (try clear hK K))|(refine zAb fun K hK=>?_)|(refine zAa hE rfl ?_; simp +contextual only [hnl,↓kA,push_cast,seval,reduceCtorEq,cI])|(refine zAg ?_; simp only [thenQ,zAh,if_true,if_false,Nat.reduceEqDiff,reduceCtorEq])|(refine zAe (by rfl) (fun hb=>?_) (fun hb=>?_)<;>(try simp only [bq,reduceCtorEq] at hb)<;>(try omega))|refine andS ?_|fail)
     refine zB8 hE (fun D s=>(D 3=true->D 0=true)/\(D 6=true->D 3=true)/\(D 7=true->D 6=true)/\(∀ q,q≠28->s.roots q=none)/\(D 0=true->s.roots 28=some (.flat 3 .int (if D 6=true then u++v else if D 3=true then u else [])))/\(D 0=false->s.roots 28=none) /\
      s.env 5=.one (.box 5)/\s.env 1=.one (.val .int w)/\s.boxes 5=some (.one (.val (.prod (.sl .int) (.sl .int)) (u,v))) /\
      (D 0=true->D 3=false->s.env 28=.one (.ref 28))/\(D 1=true->s.env 29=.one (.boxf 5 2 0 0))/\(D 2=true->s.env 30=.one (.val (.sl .int) u))/\(D 3=true->D 6=false->s.env 31=.one (.ref 28)) /\
      (D 4=true->s.env 32=.one (.boxf 5 2 1 1))/\(D 5=true->s.env 33=.one (.val (.sl .int) v))/\(D 6=true->s.env 34=.one (.ref 28))/\(D 7=true->s.env 8=.one (.ref 28))) rfl kr ?_ ?_ ?_
     ·dsimp only
      simp only [push_cast,seval,reduceCtorEq,cI]
      all_goals done
     ·refine ⟨fun D s h0 hp hI=>?_,fun D s h0 hp hI=>?_,fun D s h0 hp hI=>?_,fun D s h0 hp hI=>?_,fun D s h0 hp hI=>?_,fun D s h0 hp hI=>?_,fun D s h0 hp hI=>?_,fun D s h0 hp hI=>?_,trivial⟩
      all_goals obtain ⟨o1,o2,o3,r1,r2,r3,e1,e2,e3,f0,f1,f2,f3,f4,f5,f6,f7⟩:=hI
      all_goals replace hp:=ay.1 hp
      ·have n3:=zGc o1 h0
       have n6:=zGc o2 n3
       have n7:=zGc o3 n6
       simp +contextual only [n3,n6,n7,hnl,h0,o1,o2,o3,r1,r2,r3,e1,e2,e3,f0,f1,f2,f3,f4,f5,f6,f7,setD,↓kN,↓kP,push_cast,seval,reduceCtorEq,cI]
       first|rfl|exact ⟨rfl,rfl⟩
      ·simp +contextual only [hnl,h0,o1,o2,o3,r1,r2,r3,e1,e2,e3,f0,f1,f2,f3,f4,f5,f6,f7,setD,↓kN,↓kP,push_cast,seval,reduceCtorEq,cI]
      ·have d1:=hp 1 (by decide)
       simp +contextual only [d1,hnl,h0,o1,o2,o3,r1,r2,r3,e1,e2,e3,f0,f1,f2,f3,f4,f5,f6,f7,setD,↓kN,↓kP,push_cast,seval,reduceCtorEq,cI]
      ·have n6:=zGc o2 h0
       have n7:=zGc o3 n6
       have d0:=hp 0 (by decide)
       have d2:=hp 2 (by decide)
       simp +contextual only [n6,n7,d0,d2,hnl,h0,o1,o2,o3,r1,r2,r3,e1,e2,e3,f0,f1,f2,f3,f4,f5,f6,f7,setD,↓kN,↓kP,push_cast,seval,reduceCtorEq,cI]
       first|omega|exact ⟨by omega,by omega⟩
      ·simp +contextual only [hnl,h0,o1,o2,o3,r1,r2,r3,e1,e2,e3,f0,f1,f2,f3,f4,f5,f6,f7,setD,↓kN,↓kP,push_cast,seval,reduceCtorEq,cI]
      ·have d4:=hp 4 (by decide)
       simp +contextual only [d4,hnl,h0,o1,o2,o3,r1,r2,r3,e1,e2,e3,f0,f1,f2,f3,f4,f5,f6,f7,setD,↓kN,↓kP,push_cast,seval,reduceCtorEq,cI]
      ·have n7:=zGc o3 h0
       have d3:=hp 3 (by decide)
       have d5:=hp 5 (by decide)
       simp +contextual only [n7,d3,d5,hnl,h0,o1,o2,o3,r1,r2,r3,e1,e2,e3,f0,f1,f2,f3,f4,f5,f6,f7,setD,↓kN,↓kP,push_cast,seval,reduceCtorEq,cI]
       first|omega|exact ⟨by omega,by omega⟩
      ·have d6:=hp 6 (by decide)
       have d3:=o2 d6
       have d0:=o1 d3
       have rr:=r2 d0
       simp +contextual only [d3,d0,rr,d6,hnl,h0,o1,o2,o3,r1,r2,r3,e1,e2,e3,f0,f1,f2,f3,f4,f5,f6,f7,setD,↓kN,↓kP,push_cast,seval,reduceCtorEq,cI]
     intro D s hD hI
     obtain ⟨o1,o2,o3,r1,r2,r3,e1,e2,e3,f0,f1,f2,f3,f4,f5,f6,f7⟩:=hI
     have d0:=hD 0 (by decide)
     have d6:=hD 6 (by decide)
     have d7:=hD 7 (by decide)
     have g1:=r2 d0
     rw [ah d6] at g1
     have g2:=f7 d7
     refine goK hK ?_
     refine zAr (t:=AS.of [(1,.I w),(8,.one (.ref 28))] [(28,.flat 3 .int (u++v))] []) ?_ ?_
     ·refine zAf ?_ ?_ ?_<;>simp only [g1,g2,e2,push_cast,seval,reduceCtorEq,cI]
      all_goals done
     have hl:(u++v).length<=10:=by rw [aL]; omega
     have kN:∀ j,j<(u++v).length->w<(u++v).getD j 0->zBe c w (u,v)=7:=fun j hj hgt=>by
      rw [kE,ae]
      intro h
      have h1:(u++v).getD j 0<=w:=h _ (zA0 0 hj)
      omega
     repeat' (first|(refine goK (by assumption) ?_; iterate 4 (try clear hK K))|(refine zAb fun K hK=>?_)|(refine zAa hE rfl ?_; simp +contextual only [hnl,↓kA,push_cast,seval,reduceCtorEq,cI])|refine zAc ?_|fail)
     refine zAk (fun k:Nat=>AS.of [(1,.I w),(8,.one (.ref 28)),(9,.I k)] [(28,.flat 3 .int (u++v))] []) (fun k=>k<=(u++v).length/\∀ j,j<k->(u++v).getD j 0<=w) (fun k=>(u++v).length - k) 0 ⟨aq _,by omega⟩ ?_ ?_
     ·refine zAf ?_ ?_ ?_<;>simp only [push_cast,seval,reduceCtorEq,cI]
      all_goals skip
     intro k ⟨hk,hall⟩ K2 hL2
     rcases ai k (u++v).length with hkl|hkl
     ·repeat' (first|(refine goK (by assumption) ?_; iterate 4 (try clear hK K))|(refine zAb fun K hK=>?_)|((first|refine zAa hE rfl ?_|refine zAi ?_); simp +contextual only [hnl,↓kA,push_cast,seval,reduceCtorEq,cI])|refine zAc ?_|(refine zAg ?_; simp only [thenQ,zAh,if_true,if_false,Nat.reduceEqDiff,reduceCtorEq])|(refine zAe (by rfl) (fun hb=>?_) (fun hb=>?_)<;>(try simp only [bq,reduceCtorEq] at hb)<;>(try omega))|refine andS ?_|fail)
      ·exact (kN k hkl (by omega)).symm
      ·refine hL2 _ (k+1) ⟨by omega,fun j hj=>?_⟩ (by omega) ?_
       ·rcases ai j k with h|h
        ·exact hall j h
        ·obtain rfl:j=k:=by omega
         omega
       refine zAf ?_ ?_ ?_<;>simp only [push_cast,seval,reduceCtorEq,cI]
       all_goals skip
     ·obtain rfl:k=(u++v).length:=by omega
      have k7:zBe c w (u,v)=0:=by
       rw [kE,ah]
       intro n hn
       obtain ⟨i,hi,rfl⟩:=aN hn
       have:=hall i hi
       rwa [ab,aj hi] at this
      replace hnl:=aa hnl k7
      exact auA
      done
    ·have k1:errPr c (u,v)=7:=zQ0 hc ha hh
     have kE:zBe c w (u,v)=7:=by rw [zBe,ah ⟨k0,kw⟩,ae (by omega),k1]
     replace hnl:=aa hnl (aa k0 (aa (aG hw.1) (aa (aG hw.2) (aa (aG ha) (aa (aB hh) kE)))))
     exact auB
   ·have k1:errPr c (u,v)=1:=zMv fun h=>ha h.2
    have kE:zBe c w (u,v)=1:=by rw [zBe,ah ⟨k0,kw⟩,ae (by omega),k1]
    replace hnl:=aa hnl (aa k0 (aa (aG hw.1) (aa (aG hw.2) (aa (aB ha) kE))))
    exact auB
  ·have kE:zBe c w (u,v)=1:=by
    rw [zBe,ae]
    intro h
    have h2:=h.2
    rw [errW,ae hw] at h2
    omega
   replace hnl:=aa hnl (aa k0 (aa (aB hw) kE))
   exact auB
 ·have k0:=zDg hc
  have kE:zBe c w (u,v)=1:=by rw [zBe,ae (by omega)]
  replace hnl:=aa hnl (aa k0 kE)
  exact auB
end Go.Proofs.YtekfodeknpnkbaaGreatDoor
namespace Go.Proofs.YtekfodeknpnkbaaGreatDoor
open Go.RowKit Go.VS Go.OT Go.LC
@[push_cast] def zUH:Con:=⟨[.dat .int,.dat .int],fun (x:Int×Int×Unit)=>0<=x.1/\x.1<=1000/\0<=x.2.1/\x.2.1<=1000,fun (x:Int×Int×Unit)=>{res:=[.own (.deep 38 3 .int (List.replicate x.1.toNat (List.replicate x.2.1.toNat 0)))]}⟩
theorem zQc:FnSpec Tryz.prog 230 zUH:=by
 refine FnSpec.of_tri' (E:=know [] [] [] []) (zAl all_nil all_nil all_nil) Tryz.func230 rfl rfl kr ?_
 intro C x hE hnl hfit hpre
 simp only [Tryz.ntmps230,Tryz.results230,maxLen,seval,push_cast] at hnl hfit hpre ⊢
 obtain ⟨(r:Int),(c:Int),_⟩:=x
 dsimp only at hfit hpre ⊢
 repeat' (first|(refine goK (by assumption) ?_; iterate 4 (try clear hK K))|(refine zAb fun K hK=>?_)|(refine zAa hE rfl ?_; simp +contextual only [hnl,↓kA,push_cast,seval,reduceCtorEq,cI])|refine zAc ?_|fail)
 refine zAk (fun k:Nat=>AS.of [(0,.I r),(1,.I c),(5,.one (.ref 16)),(6,.I k)] [(16,.deep 38 3 .int (List.replicate k (List.replicate c.toNat 0)))] []) (fun k=>k<=r.toNat) (fun k=>r.toNat - k) 0 (aq _) ?_ ?_
 ·refine zAf ?_ ?_ ?_<;>simp only [push_cast,seval,reduceCtorEq,cI]
  first|omega|exact ⟨by omega,rfl⟩|skip
 intro k hk K' hL
 have hlen:(List.replicate k (List.replicate c.toNat (0:Int))).length=k:=aE
 replace hnl:=aa hnl hlen
 repeat' (first|(refine goK (by assumption) ?_; iterate 4 (try clear hK K))|(refine zAb fun K hK=>?_)|((first|refine zAa hE rfl ?_|refine zAi ?_); simp +contextual only [hnl,↓kA,push_cast,seval,reduceCtorEq,cI])|refine zAc ?_|((first|refine zAg ?_|refine zAj ?_); simp only [thenQ,zAh,if_true,if_false,Nat.reduceEqDiff,reduceCtorEq])|(refine zAe (by rfl) (fun hb=>?_) (fun hb=>?_)<;>(try simp only [bq,reduceCtorEq] at hb)<;>(try omega))|refine andS ?_|fail)
 ·refine hL _ (k+1) (by omega) (by omega) ?_
  refine zAf ?_ ?_ ?_<;>simp only [push_cast,seval,reduceCtorEq,cI]
  left
  rw [List.replicate_succ']
 ·obtain rfl:k=r.toNat:=by omega
  rfl
structure CornPre (a b:List Int):Prop where
 a6:a.length<=6
 b6:b.length<=6
 ha:Bnd 0 200 a
 hb:Bnd 0 200 b
@[push_cast] def zVk:Con:=⟨[.dat (.sl .int),.dat (.sl .int)],fun (x:List Int×List Int×Unit)=>CornPre x.1 x.2.1,fun (x:List Int×List Int×Unit)=>{res:=[.own (.deep 38 3 .int (cornV x.1 x.2.1))]}⟩
set_option maxHeartbeats 1000000 in
theorem zQM:FnSpec Tryz.prog 218 zVk:=by
 refine FnSpec.of_tri' (E:=know _ [] [] [16,19]) (zAl (kc zQc all_nil) all_nil all_nil) Tryz.func218 rfl rfl kr ?_
 intro C x hE hnl hfit hpre
 simp only [Tryz.ntmps218,Tryz.results218,maxLen,seval,push_cast] at hnl hfit hpre ⊢
 obtain ⟨(a:List Int),(b:List Int),_⟩:=x
 dsimp only at hfit hpre ⊢
 obtain ⟨ha6,hb6,ha,hb2⟩:=hpre
 repeat' (first|(refine goK (by assumption) ?_; iterate 4 (try clear hK K))|(refine zAb fun K hK=>?_)|(refine zAa hE rfl ?_; simp +contextual only [hnl,↓kA,push_cast,seval,reduceCtorEq,cI])|refine zAc ?_|refine andS ?_|fail)
 refine zAk (fun k:Nat=>AS.of [(0,.one (.val (.sl .int) a)),(1,.one (.val (.sl .int) b)),(5,.one (.ref 15)),(6,.one (.ref 16)),(7,.one (.ref 19)),(8,.I k)] [(15,.deep 38 3 .int (cornK a b k).out),(16,.flat 3 .int (cornK a b k).fr),(19,.flat 3 .int (cornK a b k).to)] []) (fun k=>k<=a.length) (fun k=>a.length - k) 0 (aq _) ?_ ?_
 ·refine zAf ?_ ?_ ?_<;>simp only [push_cast,seval,reduceCtorEq,cI]
  first|exact ⟨.inl rfl,.inl rfl,.inl rfl⟩|skip
 intro k hk K' hL
 have hI:=zJH ha hb2 k hk
 have hnx:cornK a b (k+1)=upto (zBi k) b.length (cornK a b k):=rfl
 repeat' (first|(refine goK (by assumption) ?_; iterate 4 (try clear hK K))|(refine zAb fun K hK=>?_)|((first|refine zAa hE rfl ?_|refine zAi ?_); simp +contextual only [hnl,↓kA,push_cast,seval,reduceCtorEq,cI])|refine zAc ?_|((first|refine zAg ?_|refine zAj ?_); simp only [thenQ,zAh,if_true,if_false,Nat.reduceEqDiff,reduceCtorEq])|(refine zAe (by rfl) (fun hb=>?_) (fun hb=>?_)<;>(try simp only [bq,reduceCtorEq] at hb)<;>(try omega))|fail)
 ·have hk':k<a.length:=by omega
  generalize cornK a b k=s0 at hI hnx ⊢
  refine zAk (fun j:Nat=>AS.of [(0,.one (.val (.sl .int) a)),(1,.one (.val (.sl .int) b)),(5,.one (.ref 15)),(6,.one (.ref 16)),(7,.one (.ref 19)),(8,.I k),(9,.I j)] [(15,.deep 38 3 .int (upto (zBi k) j s0).out),(16,.flat 3 .int (upto (zBi k) j s0).fr),(19,.flat 3 .int (upto (zBi k) j s0).to)] []) (fun j=>j<=b.length) (fun j=>b.length - j) 0 (aq _) ?_ ?_
  ·refine zAf ?_ ?_ ?_<;>simp only [push_cast,seval,reduceCtorEq,cI]
   first|exact ⟨.inl rfl,.inl rfl,.inl rfl⟩|skip
  intro j hj K2 hL2
  have hJ:=CnI.row' hk' hI j hj
  have hjn:upto (zBi k) (j+1) s0=zBi k j (upto (zBi k) j s0):=rfl
  generalize hse:upto (zBi k) j s0=s at hJ hjn ⊢
  have h1:=hJ.l1
  have h2:=hJ.l2
  have h3:=hJ.tab.rows
  have h4:=hJ.tab.cols k hk'
  have h5:=hJ.nn1 k hk'
  have h6:=hJ.nn2 j
  repeat' (first|(refine goK (by assumption) ?_; iterate 4 (try clear hK K))|(refine zAb fun K hK=>?_)|((first|refine zAa hE rfl ?_|((first|refine zAd hE 1 rfl rfl kr ?_|refine zAd hE 2 rfl rfl kr ?_|refine zAd hE 3 rfl rfl kr ?_|refine zAd hE 4 rfl rfl kr ?_); simp only [ao,List.length_nil,Nat.reduceAdd,Nat.reduceSub,ak,List.take_zero,al,ar])); simp +contextual only [hnl,↓kA,push_cast,seval,reduceCtorEq,cI])|refine zAc ?_|((first|refine zAg ?_|refine zAj ?_); simp only [thenQ,zAh,if_true,if_false,Nat.reduceEqDiff,reduceCtorEq])|(refine zAe (by rfl) (fun hb=>?_) (fun hb=>?_)<;>(try simp only [bq,reduceCtorEq] at hb)<;>(try omega))|refine andS ?_|fail)
  ·refine hL2 _ (j+1) (by omega) (by omega) ?_
   refine zAf ?_ ?_ ?_<;>simp only [push_cast,seval,reduceCtorEq,cI]
   rw [hjn]
   exact ⟨.inl rfl,.inl rfl,.inl rfl⟩
  ·obtain rfl:j=b.length:=by omega
   rw [hse] at hnx
   refine hL _ (k+1) (by omega) (by omega) ?_
   refine zAf ?_ ?_ ?_<;>simp only [push_cast,seval,reduceCtorEq,cI]
   rw [hnx]
   exact ⟨.inl rfl,.inl rfl,.inl rfl⟩
 ·obtain rfl:k=a.length:=by omega
  rfl
structure LwB (N:Nat) (m:Int) (s:LL):Prop where
 l1:s.far.length=N
 l2:s.by'.length=N
 bnd:∀ v,v<N -> -1000000*m<=s.far.getD v 0/\s.far.getD v 0<=0
theorem LwB.mono {N:Nat} {m m':Int} {s:LL} (h:LwB N m s) (hm:m<=m'):LwB N m' s:=⟨h.l1,h.l2,fun v hv=>by have:=h.bnd v hv; omega⟩
theorem LwB.set {N:Nat} {m:Int} {s:LL} (h:LwB N m s) {v:Nat} (hv:v<N) {x y z:Int} (hb : -1000000*(m+1)<=x/\x<=0):LwB N (m+1) ⟨s.far.set v x,s.by'.set v y,z⟩:=by
 refine ⟨by simp [h.l1],by simp [h.l2],fun k hk=>?_⟩
 show _<=(s.far.set v x).getD k 0/\(s.far.set v x).getD k 0<=0
 rw [zBj (by rw [h.l1]; exact hv)]
 have:=h.bnd k hk
 split<;>omega
section
variable {R C:Nat} {m:Int} {s:LL}
theorem LwB.lwC (h:LwB (R+C) m s) {c:Int} {i j:Nat} (hi:i<R) (hj:j<C) (hc:0<=c/\c<=1000000):LwB (R+C) (m+1) (lwC R c i j s):=by
 unfold Go.LC.lwC
 split
 ·have b1:=h.bnd i (by omega)
  have b2:=h.bnd (R+j) (by omega)
  exact h.set (by omega) (by omega)
 ·exact h.mono (by omega)
theorem LwB.lwR (h:LwB (R+C) m s) {c n:Int} {i j:Nat} (hi:i<R) (hj:j<C) (hc:0<=c/\c<=1000000):LwB (R+C) (m+1) (lwR R c n i j s):=by
 unfold Go.LC.lwR
 split
 ·have b1:=h.bnd i (by omega)
  have b2:=h.bnd (R+j) (by omega)
  exact h.set (by omega) (by omega)
 ·exact h.mono (by omega)
variable {c p:List (List Int)}
theorem LwB.row (hc:Tb R C 0 1000000 c) (h:LwB (R+C) m s) {i:Nat} (hi:i<R):∀ j,j<=C->LwB (R+C) (m+2*j) (upto (lw2 c p i) j s)
 | 0,_=>h.mono (by omega)
 | j+1,hj=>by
  have h1:=LwB.row hc h hi j (by omega)
  have h2:=(h1.lwC (c:=(c.getD i []).getD j 0) hi (by omega:j<C) (hc.at' i j hi (by omega))).lwR (c:=(c.getD i []).getD j 0) (n:=(p.getD i []).getD j 0) hi (by omega:j<C) (hc.at' i j hi (by omega))
  show LwB (R+C) (m+2*((j+1:Nat):Int)) (lw2 c p i j (upto (lw2 c p i) j s))
  have e:lw2 c p i j (upto (lw2 c p i) j s)=Go.LC.lwR c.length ((c.getD i []).getD j 0) ((p.getD i []).getD j 0) i j (Go.LC.lwC c.length ((c.getD i []).getD j 0) i j (upto (lw2 c p i) j s)):=rfl
  rw [e,hc.rows]
  have h3:=LwB.mono (m':=m+2*((j+1:Nat):Int)) h2 (by omega)
  exact h3
theorem LwB.tab (hc:Tb R C 0 1000000 c) (hC:C<=6) (h:LwB (R+C) m s):∀ i,i<=R->LwB (R+C) (m+12*i) (upto (lwRow c p) i s)
 | 0,_=>h.mono (by omega)
 | i+1,hi=>by
  have h1:=LwB.row (p:=p) hc (LwB.tab hc hC h i (by omega)) (i:=i) (by omega) C (ap _)
  show LwB (R+C) (m+12*((i+1:Nat):Int)) (upto (lw2 c p i) (c.getD i []).length (upto (lwRow c p) i s))
  rw [hc.cols i (by omega)]
  exact h1.mono (by omega)
end
structure LowPre (c p:List (List Int)) (f g:RC):Prop where
 hf:f=.flat 3 .int (flatI f)
 hg:g=.flat 3 .int (flatI g)
 R6:1<=c.length/\c.length<=6
 C6:wid c<=6
 hc:Tb c.length (wid c) 0 1000000 c
 hp:Tb c.length (wid c) 0 200 p
 bnd:LwB (c.length+wid c) 1000 ⟨flatI f,flatI g,-1⟩
abbrev zQg:=List (List Int)×List (List Int)×RC×RC×Unit
@[push_cast] def zXD:Con:=⟨[.dat (.sl (.sl .int)),.dat (.sl (.sl .int)),.lend,.lend],fun (x:zQg)=>LowPre x.1 x.2.1 x.2.2.1 x.2.2.2.1,
 fun (x:zQg)=>Out.mk [.val .int (lwAll x.1 x.2.1 ⟨flatI x.2.2.1,flatI x.2.2.2.1,-1⟩).last]
  [(0,.flat 3 .int (lwAll x.1 x.2.1 ⟨flatI x.2.2.1,flatI x.2.2.2.1,-1⟩).far),(1,.flat 3 .int (lwAll x.1 x.2.1 ⟨flatI x.2.2.1,flatI x.2.2.2.1,-1⟩).by')] []⟩
section
variable {R:Nat} {c p:List (List Int)} {i j:Nat} {s:LL}
theorem zXG (hr:c.length=R) (h1:¬s.far.getD i 0+(c.getD i []).getD j 0<s.far.getD (R+j) 0) (h2:¬(0<(p.getD i []).getD j 0/\s.far.getD (R+j) 0 - (c.getD i []).getD j 0<s.far.getD i 0)):lw2 c p i j s=s:=by
 unfold lw2 Go.LC.lwC
 rw [hr,ae h1]
 unfold Go.LC.lwR
 rw [ae h2]
theorem zXI (hr:c.length=R) (h1:s.far.getD i 0+(c.getD i []).getD j 0<s.far.getD (R+j) 0) (hi:i<R) (hl:R+j<s.far.length):lw2 c p i j s=⟨s.far.set (R+j) (s.far.getD i 0+(c.getD i []).getD j 0),s.by'.set (R+j) (i:Int),((R+j:Nat):Int)⟩:=by
 unfold lw2 Go.LC.lwC
 rw [hr,ah h1]
 unfold Go.LC.lwR
 dsimp only
 rw [zBj hl,zBj hl,ah rfl,ae (by omega:¬i=R+j),ae (by omega)]
theorem zXH (hr:c.length=R) (h1:¬s.far.getD i 0+(c.getD i []).getD j 0<s.far.getD (R+j) 0) (h2:0<(p.getD i []).getD j 0) (h3:s.far.getD (R+j) 0 - (c.getD i []).getD j 0<s.far.getD i 0):lw2 c p i j s=⟨s.far.set i (s.far.getD (R+j) 0 - (c.getD i []).getD j 0),s.by'.set i ((R+j:Nat):Int),(i:Int)⟩:=by
 unfold lw2 Go.LC.lwC
 rw [hr,ae h1]
 unfold Go.LC.lwR
 rw [ah ⟨h2,h3⟩]
end
set_option maxHeartbeats 2000000 in
theorem zTK:FnSpec Tryz.prog 231 zXD:=by
 refine FnSpec.of_tri' (E:=know [] [] [] []) (zAl all_nil all_nil all_nil) Tryz.func231 rfl rfl kr ?_
 intro C x hE hnl hfit hpre
 simp only [Tryz.ntmps231,Tryz.results231,maxLen,seval,push_cast] at hnl hfit hpre ⊢
 obtain ⟨(c:List (List Int)),(p:List (List Int)),(rc1:RC),(rc2:RC),_⟩:=x
 dsimp only at hfit hpre ⊢
 obtain ⟨h1,h2,h3,h4,h5,h6,h7⟩:=hpre
 generalize flatI rc1=fa at *
 generalize flatI rc2=by0 at *
 subst h1
 subst h2
 have hpr:=h6.rows
 repeat' (first|(refine goK (by assumption) ?_; iterate 4 (try clear hK K))|(refine zAb fun K hK=>?_)|(refine zAa hE rfl ?_; simp +contextual only [hnl,↓kA,push_cast,seval,reduceCtorEq,cI])|refine zAc ?_|fail)
 refine zAk (fun i:Nat=>AS.of [(0,.one (.val (.sl (.sl .int)) c)),(1,.one (.val (.sl (.sl .int)) p)),(2,.one (.ref 0)),(3,.one (.ref 1)),(9,.I (upto (lwRow c p) i ⟨fa,by0,-1⟩).last),(10,.I i)] [(0,.flat 3 .int (upto (lwRow c p) i ⟨fa,by0,-1⟩).far),(1,.flat 3 .int (upto (lwRow c p) i ⟨fa,by0,-1⟩).by')] []) (fun i=>i<=c.length) (fun i=>c.length - i) 0 (aq _) ?_ ?_
 ·refine zAf ?_ ?_ ?_<;>simp only [push_cast,seval,reduceCtorEq,cI]
  ·rfl
  ·exact ⟨.inl rfl,.inl rfl⟩
 intro i hi K' hL
 repeat' (first|(refine goK (by assumption) ?_; iterate 4 (try clear hK K))|(refine zAb fun K hK=>?_)|((first|refine zAa hE rfl ?_|refine zAi ?_); simp +contextual only [hnl,↓kA,push_cast,seval,reduceCtorEq,cI])|refine zAc ?_|((first|refine zAg ?_|refine zAj ?_); simp only [thenQ,zAh,if_true,if_false,Nat.reduceEqDiff,reduceCtorEq])|(refine zAe (by rfl) (fun hb=>?_) (fun hb=>?_)<;>(try simp only [bq,reduceCtorEq] at hb)<;>(try omega))|fail)
 ·have hi':i<c.length:=by omega
  have hci:=h5.cols i hi'
  have hpi:=h6.cols i hi'
  have hQ:=LwB.tab (p:=p) h5 h4 h7 i (by omega)
  have hQn:upto (lwRow c p) (i+1) ⟨fa,by0,-1⟩=upto (lw2 c p i) (c.getD i []).length (upto (lwRow c p) i ⟨fa,by0,-1⟩):=rfl
  generalize upto (lwRow c p) i ⟨fa,by0,-1⟩=s1 at hQ hQn ⊢
  refine zAk (fun j:Nat=>AS.of [(0,.one (.val (.sl (.sl .int)) c)),(1,.one (.val (.sl (.sl .int)) p)),(2,.one (.ref 0)),(3,.one (.ref 1)),(9,.I (upto (lw2 c p i) j s1).last),(10,.I i),(11,.I j)] [(0,.flat 3 .int (upto (lw2 c p i) j s1).far),(1,.flat 3 .int (upto (lw2 c p i) j s1).by')] []) (fun j=>j<=wid c) (fun j=>wid c - j) 0 (aq _) ?_ ?_
  ·refine zAf ?_ ?_ ?_<;>simp only [push_cast,seval,reduceCtorEq,cI]
   ·rfl
   ·exact ⟨.inl rfl,.inl rfl⟩
  intro j hj K2 hL2
  have hF:=LwB.row (p:=p) h5 hQ hi' j hj
  have hFn:upto (lw2 c p i) (j+1) s1=lw2 c p i j (upto (lw2 c p i) j s1):=rfl
  generalize hs2:upto (lw2 c p i) j s1=s2 at hF hFn ⊢
  have g1:=hF.l1
  have g2:=hF.l2
  have g3:=hF.bnd i (by omega)
  rcases ai j (wid c) with hjb|hjb
  ·have g4:=hF.bnd (c.length+j) (by omega)
   have g5:=h5.at' i j hi' hjb
   have g6:((c.length:Int)+(j:Int)).toNat=c.length+j:=by omega
   have g7:∀ x:Int,(s2.far.set (c.length+j) x).getD (c.length+j) 0=x:=fun x=>by rw [zBj (by omega),ah rfl]
   have g8:∀ x:Int,(s2.far.set (c.length+j) x).getD i 0=s2.far.getD i 0:=fun x=>by rw [zBj (by omega),ae (by omega)]
   have g9:∀ x:Int,(s2.far.set (c.length+j) x).length=s2.far.length:=fun x=>be
   have g10:∀ x:Int,(s2.by'.set (c.length+j) x).length=s2.by'.length:=fun x=>be
   replace hnl:=aa hnl (aa g6 (aa g7 (aa g8 (aa g9 g10))))
   repeat' (first|(refine goK (by assumption) ?_; iterate 4 (try clear hK K))|(refine zAb fun K hK=>?_)|((first|refine zAa hE rfl ?_|((first|refine zAd hE 1 rfl rfl kr ?_|refine zAd hE 2 rfl rfl kr ?_|refine zAd hE 3 rfl rfl kr ?_|refine zAd hE 4 rfl rfl kr ?_); simp only [ao,List.length_nil,Nat.reduceAdd,Nat.reduceSub,ak,List.take_zero,al,ar])); simp +contextual only [hnl,↓kA,push_cast,seval,reduceCtorEq,cI])|refine zAc ?_|(refine zAg ?_; simp only [thenQ,zAh,if_true,if_false,Nat.reduceEqDiff,reduceCtorEq])|(refine zAe (by rfl) (fun hb=>?_) (fun hb=>?_)<;>(try simp only [bq,reduceCtorEq] at hb)<;>(try omega))|refine andS ?_|(refine ⟨fun hc=>?_,fun hc=>?_⟩)|fail)
   all_goals refine hL2 _ (j+1) (by omega) (by omega) ?_
   all_goals refine zAf ?_ ?_ ?_<;>simp only [push_cast,seval,reduceCtorEq,cI]
   all_goals rw [hFn]
   all_goals first|rw [zXI rfl (by omega) (by omega) (by omega)]|rw [zXH rfl (by omega) (by omega) (by omega)]|rw [zXG rfl (by omega) (by omega)]
   all_goals first|exact ⟨.inl rfl,.inl rfl⟩|rfl|(dsimp only; omega)
  ·repeat' (first|(refine goK (by assumption) ?_; iterate 4 (try clear hK K))|(refine zAb fun K hK=>?_)|(refine zAa hE rfl ?_; simp +contextual only [hnl,↓kA,push_cast,seval,reduceCtorEq,cI])|(refine zAj ?_; simp only [thenQ,zAh,if_true,if_false,Nat.reduceEqDiff,reduceCtorEq])|(refine zAe (by rfl) (fun hb=>?_) (fun hb=>?_)<;>(try simp only [bq,reduceCtorEq] at hb)<;>(try omega))|refine andS ?_|fail)
   obtain rfl:j=(c.getD i []).length:=by omega
   rw [hs2] at hQn
   refine hL _ (i+1) (by omega) (by omega) ?_
   refine zAf ?_ ?_ ?_<;>simp only [push_cast,seval,reduceCtorEq,cI]
   ·rw [hQn]
   ·rw [hQn]
    exact ⟨.inl rfl,.inl rfl⟩
 ·obtain rfl:i=c.length:=by omega
  first|rfl|exact ⟨rfl,rfl,rfl⟩|skip
end Go.Proofs.YtekfodeknpnkbaaGreatDoor
