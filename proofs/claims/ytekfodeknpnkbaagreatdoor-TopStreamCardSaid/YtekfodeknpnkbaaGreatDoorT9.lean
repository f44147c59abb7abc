import Derived.Test.YtekfodeknpnkbaaGreatDoorT8
import Derived.LaidEql
import Derived.Stop.Asserts
import Derived.RowKitTokens
import Derived.Tactics2
set_option linter.unusedSimpArgs false
set_option linter.unusedVariables false
namespace Go.Proofs.YtekfodeknpnkbaaGreatDoor
open Go.RowKit Go.VS Go.Extern.Stop Go.Stop Go.Extern
theorem zZj (t:Value) (w:World):Calls Tryz.prog 102 #[.nilIface,t] w fun e w'=>e=.returned (.bool false)∧w'=w:=by
 go_enter Tryz.func102,Tryz.ntmps102
 go_wp2
 go_ret
 exact ⟨rfl,rfl⟩
theorem as_vp (t:Addr) (w:World):(ReflectliteValue.unpack (.iface 158 (.pointer (some t)))).run Tryz.prog w=.ok (.agg #[.pointer (some ⟨9,158,none⟩),.pointer (some ⟨w.heap.size,0,none⟩),.int .u64 150]) (w.alloc (.cells #[.pointer (some t)] 158)):=by kernel_rfl
theorem as_vr (n:Int) (w:World):(ReflectliteValue.unpack (.iface 147 (.agg #[.int .i64 n]))).run Tryz.prog w=.ok (.agg #[.pointer (some ⟨9,147,none⟩),.pointer (some ⟨w.heap.size,0,none⟩),.int .u64 153]) (w.alloc (.cells #[.int .i64 n] 147)):=by kernel_rfl
theorem zZo (a:Addr) (w:World):(ReflectliteValue.methodAny (ReflectliteValue.valueError "reflectlite.Value.Type" 0) (fun t _ _ _=>ReflectliteType.toType t) #[.agg #[.pointer (some ⟨9,158,none⟩),.pointer (some a),.int .u64 150]]).run Tryz.prog w=.ok (.iface 230 (.agg #[.pointer (some ⟨9,158,none⟩)])) w:=by kernel_rfl
theorem as_mk (h:Value) (w:World):(Go.method 412 230 (.agg #[h]) "Kind").run Tryz.prog w=.ok (248,h) w:=by kernel_rfl
theorem as_kp (w:World):((ReflectliteType.abiMethod fun t=>(fun a:Nat=>Value.int IntKind.u8 (a:Int)) <$> Rtype.kind t) #[.pointer (some ⟨9,158,none⟩)]).run Tryz.prog w=.ok (.int .u8 22) w:=by kernel_rfl
theorem as_kr (w:World):((ReflectliteType.abiMethod fun t=>(fun a:Nat=>Value.int IntKind.u8 (a:Int)) <$> Rtype.kind t) #[.pointer (some ⟨9,147,none⟩)]).run Tryz.prog w=.ok (.int .u8 25) w:=by kernel_rfl
theorem zW8 (z:Sem Value) (f:TypeId→Addr→Nat→Nat→Sem Value) (v:Value):ReflectliteValue.method z f #[v]=(do match ←ReflectliteValue.parts v with|none=>z|some (t,a,fl)=>f t a fl (fl % 32)):=rfl
theorem as_pp (a:Addr) (w:World):(ReflectliteValue.parts (.agg #[.pointer (some ⟨9,158,none⟩),.pointer (some a),.int .u64 150])).run Tryz.prog w=.ok (some (158,a,150)) w:=by kernel_rfl
theorem zVf (a p:Addr) (W:World) (ha:W.cell? a=some (.pointer (some p))):(ReflectliteValue.method (ReflectliteValue.valueError "reflectlite.Value.IsNil" 0) ReflectliteValue.isNil #[.agg #[.pointer (some ⟨9,158,none⟩),.pointer (some a),.int .u64 150]]).run Tryz.prog W=.ok (.bool false) W:=by
 rw [zW8]
 simp only [Sem.run_bind,as_pp,Result.andThen]
 simp [ReflectliteValue.isNil,loadVar,isAgg,underlying,Tryz.underlying158,ha,Result.andThen]
theorem as_me (h:Value) (w:World):(Go.method 412 230 (.agg #[h]) "Elem").run Tryz.prog w=.ok (261,.agg #[h]) w:=by kernel_rfl
theorem as_mi (h:Value) (w:World):(Go.method 412 230 (.agg #[h]) "Implements").run Tryz.prog w=.ok (262,.agg #[h]) w:=by kernel_rfl
theorem as_ma (h:Value) (w:World):(Go.method 412 230 (.agg #[h]) "AssignableTo").run Tryz.prog w=.ok (259,.agg #[h]) w:=by kernel_rfl
theorem as_ep (w:World):(ReflectliteType.method ReflectliteType.elem #[.agg #[.pointer (some ⟨9,158,none⟩)]]).run Tryz.prog w=.ok (.iface 230 (.agg #[.pointer (some ⟨9,147,none⟩)])) w:=by kernel_rfl
theorem as_ir (w:World) : (ReflectliteType.relation "Implements" ReflectliteType.implements_ #[.agg #[.pointer (some ⟨9,147,none⟩)],.iface 230 (.agg #[.pointer (some ⟨9,102,none⟩)])]).run Tryz.prog w=.ok (.bool true) w:=by kernel_rfl
theorem as_to (v:Value) (w:World):(ReflectliteType.typeOf #[.iface 147 v]).run Tryz.prog w=.ok (.iface 230 (.agg #[.pointer (some ⟨9,147,none⟩)])) w:=by kernel_rfl
theorem as_ar (w:World) : (ReflectliteType.relation "AssignableTo" ReflectliteType.assignableTo #[.agg #[.pointer (some ⟨9,147,none⟩)],.iface 230 (.agg #[.pointer (some ⟨9,147,none⟩)])]).run Tryz.prog w=.ok (.bool true) w:=by kernel_rfl
theorem as_eo (w:World):(Rtype.elem? 158).run Tryz.prog w=.ok (some 147) w:=by kernel_rfl
theorem zZi (p:Addr) (w:World):(ReflectliteValue.mk 147 p ReflectliteValue.flagAddr).run Tryz.prog w=.ok (.agg #[.pointer (some ⟨9,147,none⟩),.pointer (some p),.int .u64 409]) w:=by kernel_rfl
theorem as_ev (a p:Addr) (W:World) (ha:W.cell? a=some (.pointer (some p))):(ReflectliteValue.method (ReflectliteValue.valueError "reflectlite.Value.Elem" 0) ReflectliteValue.elem #[.agg #[.pointer (some ⟨9,158,none⟩),.pointer (some a),.int .u64 150]]).run Tryz.prog W=.ok (.agg #[.pointer (some ⟨9,147,none⟩),.pointer (some p),.int .u64 409]) W:=by
 rw [zW8]
 simp only [Sem.run_bind,as_pp,Result.andThen]
 simp [ReflectliteValue.elem,loadVar,isAgg,underlying,Tryz.underlying158,ha,Result.andThen,as_eo,zZi]
theorem zZm (v x:Value):ReflectliteValue.set #[v,x]=(do
 let (some (dst,a,fl),some (src,b,_)):=(←ReflectliteValue.parts v,←ReflectliteValue.parts x)
  | unsupported (.noEntry "extern/(internal/reflectlite.Value).Set.zeroValue")
 if fl / ReflectliteValue.flagAddr % 2 == 0 then unsupported (.noEntry "extern/(internal/reflectlite.Value).Set.unaddressable")
 let val ←loadVar src b
 if ←Rtype.directlyAssignable dst src then storeVar dst a val
 else if ←Rtype.implements dst src then
  if (←Rtype.kind src) == 20 then
   match val with
   | .nilIface=>unsupported (.noEntry "extern/reflectlite: a nil value of one interface type handed on as a value of another")
   | _=>storeVar dst a val
  else storeVar dst a (.iface src val)
 else panicString ("reflectlite.Set: value of type "++(←Rtype.spelt src) ++ " is not assignable to type "++(←Rtype.spelt dst))
 pure (.tuple #[])):=rfl
theorem zZk (a:Addr) (w:World):(ReflectliteValue.parts (.agg #[.pointer (some ⟨9,147,none⟩),.pointer (some a),.int .u64 409])).run Tryz.prog w=.ok (some (147,a,409)) w:=by kernel_rfl
theorem zZl (a:Addr) (w:World):(ReflectliteValue.parts (.agg #[.pointer (some ⟨9,147,none⟩),.pointer (some a),.int .u64 153])).run Tryz.prog w=.ok (some (147,a,153)) w:=by kernel_rfl
theorem as_dr (w:World):(Rtype.directlyAssignable 147 147).run Tryz.prog w=.ok true w:=by kernel_rfl
theorem as_sz (w:World):(sizeOf 147).run Tryz.prog w=.ok 1 w:=by kernel_rfl
theorem as_ag (w:World):(isAgg 147).run Tryz.prog w=.ok true w:=by kernel_rfl
theorem zZn (t b:Addr) (n:Int) (old:Value) (W:World) (hb:W.cell? b=some (.int .i64 n)) (ht:W.cell? t=some old) (hf:W.frozen? t=false) :
 (ReflectliteValue.set #[.agg #[.pointer (some ⟨9,147,none⟩),.pointer (some t),.int .u64 409],.agg #[.pointer (some ⟨9,147,none⟩),.pointer (some b),.int .u64 153]]).run Tryz.prog W=.ok (.tuple #[]) (W.setCell t (.int .i64 n)):=by
 rw [zZm]
 simp only [Sem.run_bind,zZk,zZl,Result.andThen]
 simp [ReflectliteValue.flagAddr,loadVar,as_ag,as_sz,loadCells,loadCellsFrom,Addr.add,hb,Result.andThen,as_dr,storeVar,Value.cells,storeCells]
 rw [run_store Tryz.prog W t _ _ (by rfl)]
 simp [ht,hf]
set_option maxHeartbeats 4000000 in
theorem zZh (n:Int) (t:Addr) (old:Value) (w:World) (hg:w.cell? ⟨0,0,none⟩=some (.iface 230 (.agg #[.pointer (some ⟨9,102,none⟩)]))) (ht0:w.cell? t=some old) (hf0:w.frozen? t=false) :
 Calls Tryz.prog 102 #[.iface 147 (.agg #[.int .i64 n]),.iface 158 (.pointer (some t))] w fun ev w'=>ev=.returned (.bool true)∧w'=((((w.alloc (.cells #[.pointer (some t)] 158)).alloc (.cells #[.pointer (some ⟨9,158,none⟩),.pointer (some ⟨w.heap.size,0,none⟩),.int .u64 150] 192)).alloc (.cells #[.pointer (some ⟨9,158,none⟩),.pointer (some ⟨w.heap.size,0,none⟩),.int .u64 150] 192)).alloc (.cells #[.int .i64 n] 147)).setCell t (.int .i64 n):=by
 have h6:=@run_callFunc_extern Tryz.prog 151 _ (fun args=>ReflectliteValue.unpack (args.getD 0 (.tuple #[]))) Tryz.func151 (by kernel_rfl) (by kernel_rfl) (by kernel_rfl) (by kernel_rfl)
 have h7:=@run_callFunc_extern Tryz.prog 152 _ (ReflectliteValue.methodAny (ReflectliteValue.valueError "reflectlite.Value.Type" 0) (fun t _ _ _=>ReflectliteType.toType t)) Tryz.func152 (by kernel_rfl) (by kernel_rfl) (by kernel_rfl) (by kernel_rfl)
 have h8:=@run_callFunc_extern Tryz.prog 153 _ (ReflectliteValue.method (ReflectliteValue.valueError "reflectlite.Value.IsNil" 0) ReflectliteValue.isNil) Tryz.func153 (by kernel_rfl) (by kernel_rfl) (by kernel_rfl) (by kernel_rfl)
 have h27:=@run_callFunc_extern Tryz.prog 248 _ (ReflectliteType.abiMethod fun t=>do pure (.int .u8 (←Rtype.kind t))) Tryz.func248 (by kernel_rfl) (by kernel_rfl) (by kernel_rfl) (by kernel_rfl)
 have h37:=@run_callFunc_extern Tryz.prog 261 _ (ReflectliteType.method ReflectliteType.elem) Tryz.func261 (by kernel_rfl) (by kernel_rfl) (by kernel_rfl) (by kernel_rfl)
 have h38:=@run_callFunc_extern Tryz.prog 262 _ (ReflectliteType.relation "Implements" ReflectliteType.implements_) Tryz.func262 (by kernel_rfl) (by kernel_rfl) (by kernel_rfl) (by kernel_rfl)
 have h10:=@run_callFunc_extern Tryz.prog 193 _ ReflectliteType.typeOf Tryz.func193 (by kernel_rfl) (by kernel_rfl) (by kernel_rfl) (by kernel_rfl)
 have h35:=@run_callFunc_extern Tryz.prog 259 _ (ReflectliteType.relation "AssignableTo" ReflectliteType.assignableTo) Tryz.func259 (by kernel_rfl) (by kernel_rfl) (by kernel_rfl) (by kernel_rfl)
 have h11:=@run_callFunc_extern Tryz.prog 194 _ (ReflectliteValue.method (ReflectliteValue.valueError "reflectlite.Value.Elem" 0) ReflectliteValue.elem) Tryz.func194 (by kernel_rfl) (by kernel_rfl) (by kernel_rfl) (by kernel_rfl)
 have h12:=@run_callFunc_extern Tryz.prog 195 _ ReflectliteValue.set Tryz.func195 (by kernel_rfl) (by kernel_rfl) (by kernel_rfl) (by kernel_rfl)
 have tO:=as_to
 have mA:=as_ma
 have aR:=as_ar
 have vR:=as_vr
 have f6:=as_vp
 have f7:=zZo
 have mK:=as_mk
 have mE:=as_me
 have mI:=as_mi
 have kP:=as_kp
 have kR:=as_kr
 have eP:=as_ep
 have iR:=as_ir
 have n8:=zVf ⟨w.heap.size,0,none⟩ t ((w.alloc (.cells #[.pointer (some t)] 158)).alloc (.cells #[.pointer (some ⟨9,158,none⟩),.pointer (some ⟨w.heap.size,0,none⟩),.int .u64 150] 192)) (by simp)
 have hlt:0<w.heap.size:=by
  rcases Nat.lt_or_ge 0 w.heap.size with h|h
  ·exact h
  ·simp [World.cell?,Array.getElem?_eq_none h] at hg
 have hg2:((w.alloc (.cells #[.pointer (some t)] 158)).alloc (.cells #[.pointer (some ⟨9,158,none⟩),.pointer (some ⟨w.heap.size,0,none⟩),.int .u64 150] 192)).cell? ⟨0,0,none⟩=some (.iface 230 (.agg #[.pointer (some ⟨9,102,none⟩)])):=by
  rw [World.cell?_alloc_lt _ _ ⟨0,0,none⟩ (by simp),World.cell?_alloc_lt _ _ ⟨0,0,none⟩ hlt]; exact hg
 have htl:t.block<w.heap.size:=by
  rcases Nat.lt_or_ge t.block w.heap.size with h|h
  ·exact h
  ·simp [World.cell?,Array.getElem?_eq_none h] at ht0
 have el:=as_ev ⟨w.heap.size,0,none⟩ t (((w.alloc (.cells #[.pointer (some t)] 158)).alloc (.cells #[.pointer (some ⟨9,158,none⟩),.pointer (some ⟨w.heap.size,0,none⟩),.int .u64 150] 192)).alloc (.cells #[.pointer (some ⟨9,158,none⟩),.pointer (some ⟨w.heap.size,0,none⟩),.int .u64 150] 192)) (by rw [World.cell?_alloc_lt _ _ ⟨w.heap.size,0,none⟩ (by simp; omega)]; simp)
 have st:=zZn t ⟨w.heap.size+1+1+1,0,none⟩ n old ((((w.alloc (.cells #[.pointer (some t)] 158)).alloc (.cells #[.pointer (some ⟨9,158,none⟩),.pointer (some ⟨w.heap.size,0,none⟩),.int .u64 150] 192)).alloc (.cells #[.pointer (some ⟨9,158,none⟩),.pointer (some ⟨w.heap.size,0,none⟩),.int .u64 150] 192)).alloc (.cells #[.int .i64 n] 147))
  (by rw [World.cell?_alloc_at _ _ _ _ (by simp)]; rfl)
  (by rw [World.cell?_alloc_lt _ _ t (by simp; omega),World.cell?_alloc_lt _ _ t (by simp; omega),World.cell?_alloc_lt _ _ t (by simp; omega),World.cell?_alloc_lt _ _ t htl]; exact ht0)
  (by rw [World.frozen?_alloc_old _ _ t (by simp; omega),World.frozen?_alloc_old _ _ t (by simp; omega),World.frozen?_alloc_old _ _ t (by simp; omega),World.frozen?_alloc_old _ _ t (Nat.ne_of_lt htl)]; exact hf0)
 go_enter Tryz.func102,Tryz.ntmps102
 go_wp2
 refine wp_loop_rounds 1 ?_
 rw [rounds_succ]
 go_wp2
 go_ret
 exact ⟨rfl,rfl⟩
end Go.Proofs.YtekfodeknpnkbaaGreatDoor
namespace Go.Proofs.YtekfodeknpnkbaaGreatDoor
open Go.RowKit Go.VS
set_option maxRecDepth 20000
theorem et_rt:(Tryz.prog.cutTypes.find? (·.1 == "internal/reflectlite.rtype")).map (·.2)=some 230:=by kernel_rfl
theorem zZE:((List.range 312).filter fun t=>Tryz.prog.rowNamed t [101,114,114,111,114])=[102]:=by kernel_rfl
theorem zXZ:Tryz.prog.types.size=312:=by kernel_rfl
theorem et_g : Tryz.prog.globalNamed "errors.errorType"=some 0:=by kernel_rfl
theorem zXY {w:World} (h:Gd Tryz.prog w):w.cell? ⟨0,0,none⟩=some (.iface 230 (.agg #[.pointer (some ⟨9,102,none⟩)])):=by
 obtain ⟨u,ty,e2,e3,e4,e5⟩:=h.typ _ et_g
 obtain rfl:=Option.some.inj (et_rt.symm.trans e2)
 have hm:ty∈(List.range 312).filter fun t=>Tryz.prog.rowNamed t [101,114,114,111,114]:=List.mem_filter.2 ⟨List.mem_range.2 (by rw [←zXZ]; exact e3),e4⟩
 rw [zZE] at hm
 obtain rfl:=List.mem_singleton.1 hm
 have hh:typeHandle Tryz.prog 102=.pointer (some ⟨9,102,none⟩):=by kernel_rfl
 rw [hh] at e5
 simpa using World.var?_cell et_g e5 0
theorem zXC (n:Int) (t:Addr) (old:Value) (w:World) (hgd:Gd Tryz.prog w) (ht0:w.cell? t=some old) (hf0:w.frozen? t=false) :
 Calls Tryz.prog 102 #[.iface 147 (.agg #[.int .i64 n]),.iface 158 (.pointer (some t))] w fun ev w'=>ev=.returned (.bool true)∧w'.cell? t=some (.int .i64 n)∧Keep (fun k=>k=t.block) w w':=by
 refine (zZh n t old w (zXY hgd) ht0 hf0).mono ?_
 rintro e w' ⟨rfl,rfl⟩
 have htl:t.block<w.heap.size:=by
  rcases Nat.lt_or_ge t.block w.heap.size with h|h
  ·exact h
  ·simp [World.cell?,Array.getElem?_eq_none h] at ht0
 refine ⟨rfl,World.cell?_setCell_same _ t _ (u:=old) ?_,?_⟩
 ·rw [World.cell?_alloc_lt _ _ t (by simp; omega),World.cell?_alloc_lt _ _ t (by simp; omega),World.cell?_alloc_lt _ _ t (by simp; omega),World.cell?_alloc_lt _ _ t htl]; exact ht0
 ·have k4:Keep (fun k=>k=t.block) w ((((w.alloc (.cells #[.pointer (some t)] 158)).alloc (.cells #[.pointer (some ⟨9,158,none⟩),.pointer (some ⟨w.heap.size,0,none⟩),.int .u64 150] 192)).alloc (.cells #[.pointer (some ⟨9,158,none⟩),.pointer (some ⟨w.heap.size,0,none⟩),.int .u64 150] 192)).alloc (.cells #[.int .i64 n] 147)) :=
   ⟨rfl,rfl,rfl,by simp; omega,fun k hk _=>by
    rw [Below.heap_alloc _ _ k (by simp; omega),Below.heap_alloc _ _ k (by simp; omega),Below.heap_alloc _ _ k (by simp; omega),Below.heap_alloc _ _ k hk]⟩
  refine k4.step (M:=fun k=>k=t.block) ⟨rfl,rfl,rfl,?_,fun k hk hne=>?_⟩ (fun b hb _=>hb)
  ·simp [World.setCell]
  ·exact Below.heap_setCell _ _ _ k hne
set_option maxHeartbeats 2000000 in
theorem zQA (n:Int) (w:World) (hg:Gd Tryz.prog w):Calls Tryz.prog 53 #[errV 147 n] w fun e w'=>e=.returned (.int .i64 n)∧Keep (fun _=>False) w w':=by
 have hkA:Keep (fun _=>False) w (w.alloc (.cells #[.int .i64 0] 147)):=⟨rfl,rfl,rfl,by simp,fun k hk _=>Below.heap_alloc w _ k hk⟩
 by_cases hn:n=0
 ·subst hn
  rw [show errV 147 0=.nilIface from rfl]
  go_enter Tryz.func53,Tryz.ntmps53
  go_wp2_with (go_at_call 102; refine (zZj _ _).mono ?_; rintro e w' ⟨rfl,rfl⟩)
  go_ret
  exact ⟨rfl,hkA⟩
 ·rw [show errV 147 n=.iface 147 (.agg #[.int .i64 n]) from if_neg hn]
  have hgA:=hg.later hkA
  have hnew:=heap_alloc_new w (.cells #[.int .i64 0] 147)
  have c0:(w.alloc (.cells #[.int .i64 0] 147)).cell? ⟨w.heap.size,0,none⟩=some (.int .i64 0):=by simp only [World.cell?,hnew]; rfl
  have z0:(w.alloc (.cells #[.int .i64 0] 147)).frozen? ⟨w.heap.size,0,none⟩=false:=by simp only [World.frozen?,hnew]; rfl
  have hcall:=zXC n ⟨w.heap.size,0,none⟩ _ _ hgA c0 z0
  clear hnew c0 z0 hgA
  go_enter Tryz.func53,Tryz.ntmps53
  go_wp2_with (go_at_call 102; refine hcall.mono ?_; rintro e w' ⟨rfl,hc,hk⟩)
  go_ret
  exact ⟨rfl,hkA.step hk (fun b hb hlt=>by have:b=w.heap.size:=hb; omega)⟩
@[push_cast] def zKW:Con:=⟨[.dat (.err 147)],fun _=>True,fun (x:Int×Unit)=>{res:=[.val .int x.1]}⟩
theorem zSK:FnSpec Tryz.prog 53 zKW:=by
 refine zBW ⟨_,Tryz.func53,by kernel_rfl,rfl⟩ (fun _=>rfl) (fun _=>rfl) fun C γ x vs hpre hen=>?_
 have hg:=hen.ds.2.gd
 rw [hen.P] at hg
 have hargs:=hen.args
 obtain ⟨(n:Int),_⟩:=x
 obtain ⟨v0,_,rfl,h0,rfl⟩:=hargs
 obtain rfl:v0=errV 147 n:=zOF h0
 refine (zQA n C.w0 hg).mono ?_
 rintro e w' ⟨rfl,hk⟩
 exact ⟨[_],rfl,⟨_,[],rfl,⟨[.int .i64 n],rfl,rfl⟩,rfl,rfl,rfl⟩,hk⟩
end Go.Proofs.YtekfodeknpnkbaaGreatDoor
namespace Go.Proofs.YtekfodeknpnkbaaGreatDoor
open Go.RowKit Go.VS
theorem zI2:∀ (l:List UInt8) (a v:Nat) (c:UInt8),Lib.parseUint10 a l=.ok v→48≤c.toNat→c.toNat≤57→v<1000000000000000000→Lib.parseUint10 a (l++[c])=.ok (v*10+(c.toNat - 48))
 | [],a,v,c,h,h1,h2,hv=>by
  simp only [Lib.parseUint10] at h
  injection h with h
  subst h
  simp only [List.nil_append,Lib.parseUint10]
  rw [if_pos ⟨h1,h2⟩,if_neg (by omega),if_neg (by omega)]
 | x::l,a,v,c,h,h1,h2,hv=>by
  simp only [List.cons_append,Lib.parseUint10] at h ⊢
  split at h
  ·rename_i hx
   rw [if_pos hx]
   split at h
   ·cases h
   ·rename_i h3
    rw [if_neg h3]
    split at h
    ·cases h
    ·rename_i h4
     rw [if_neg h4]
     exact zI2 l _ v c h h1 h2 hv
  ·cases h
theorem zBV {d:Nat} (h:d<10):(UInt8.ofNat (48+d)).toNat=48+d:=by
 rw [UInt8.toNat_ofNat']; omega
theorem zUc (u:Nat):u<1000000000000000000→Lib.parseUint10 0 (Lib.decDigits u)=.ok u:=by
 induction u using Nat.strongRecOn with
 | _ u ih =>
  intro hu
  by_cases h:u<10
  ·rw [Lib.decDigits_one h]
   have:=zI2 [] 0 0 (UInt8.ofNat (48+u)) rfl (by rw [zBV h]; omega) (by rw [zBV h]; omega) (by omega)
   rw [List.nil_append,zBV h] at this
   rw [this]
   congr 1
   omega
  ·rw [Lib.decDigits,dif_neg h]
   have hm:u % 10<10:=Nat.mod_lt _ (by omega)
   rw [zI2 _ _ _ _ (ih (u / 10) (by omega) (by omega)) (by rw [zBV hm]; omega) (by rw [zBV hm]; omega) (by omega),zBV hm]
   congr 1
   omega
theorem zIv (u:Nat):∀ c∈Lib.decDigits u,48≤c.toNat∧c.toNat≤57:=by
 induction u using Nat.strongRecOn with
 | _ u ih =>
  intro c hc
  by_cases h:u<10
  ·rw [Lib.decDigits_one h,List.mem_singleton] at hc
   rw [hc,zBV h]
   omega
  ·rw [Lib.decDigits,dif_neg h] at hc
   rcases List.mem_append.1 hc with hc|hc
   ·exact ih (u / 10) (by omega) c hc
   ·rw [List.mem_singleton] at hc
    have hm:u % 10<10:=Nat.mod_lt _ (by omega)
    rw [hc,zBV hm]
    omega
theorem zSW (u:Nat):Lib.decDigits u≠[]:=by
 intro h
 have:=Lib.decDigits_length u
 rw [h] at this
 have h2:1≤Lib.nDigits u:=by rw [Lib.nDigits]; split<;>omega
 simp at this
 omega
theorem zVq (u:Nat):1≤u→((Lib.decDigits u).getD 0 0).toNat≠48:=by
 induction u using Nat.strongRecOn with
 | _ u ih =>
  intro hu
  by_cases h:u<10
  ·rw [Lib.decDigits_one h]
   show (UInt8.ofNat (48+u)).toNat≠48
   rw [zBV h]
   omega
  ·rw [Lib.decDigits,dif_neg h]
   have hl:0<(Lib.decDigits (u / 10)).length:=List.length_pos_iff.2 (zSW _)
   rw [List.getD_eq_getElem?_getD,List.getElem?_append_left hl,←List.getD_eq_getElem?_getD]
   exact ih (u / 10) (by omega) (by omega)
theorem zSx {n:Nat} (h:n<1000000000000000000):Lib.atoiAll (Lib.itoa (n:Int))=.ok (n:Int):=by
 rw [Lib.itoa_nonneg]
 cases hd:Lib.decDigits n with
 | nil=>exact absurd hd (zSW n)
 | cons c r =>
  have hc:=zIv n c (by rw [hd]; simp)
  have hp:=zUc n h
  unfold Lib.atoiAll
  dsimp only
  rw [if_neg (by omega:¬(c.toNat=43∨c.toNat=45)),Lib.parseMag,if_neg (by simp),←hd,hp]
  dsimp only
  rw [if_neg (by omega),if_neg (by omega),if_neg (by omega)]
theorem zHc (n:Int):(itoaV n).data.toList=Lib.itoa n:=rfl
theorem zEf {v:Int} (h0:0≤v) (h1:v≤1000000000):zDG (itoaV v)=true∧atoiV (itoaV v)=v:=by
 have e:Lib.atoiAll (itoaV v).data.toList=.ok v:=by
  rw [zHc]
  have:=zSx (n:=v.toNat) (by omega)
  rwa [Int.toNat_of_nonneg h0] at this
 unfold zDG atoiV
 rw [e]
 exact ⟨rfl,rfl⟩
theorem zPs {s:ByteArray} (h0:byteV s 0≠48):∀ {k:Nat},(∀ i,i<k+1→48≤byteV s i∧byteV s i≤57)→1≤decK s (k+1)
 | 0,h=>by
  have:=h 0 (by omega)
  show 1≤10*decK s 0+((byteV s 0:Int) - 48)
  have e:decK s 0=0:=rfl
  omega
 | k+1,h=>by
  have h1:=zPs h0 (k:=k) (fun i hi=>h i (by omega))
  have h2:=h (k+1) (by omega)
  show 1≤10*decK s (k+1)+((byteV s (k+1):Int) - 48)
  omega
theorem zPt {s:ByteArray} (hd:∀ k,k<s.size→48≤byteV s k∧byteV s k≤57) (hz:¬(1<s.size∧byteV s 0=48)) (h6:s.size≤6) :
 ∀ k,k+1≤s.size→Lib.decDigits (decK s (k+1)).toNat=s.data.toList.take (k+1)
 | 0,hk=>by
  have h:=hd 0 (by omega)
  have e:decK s 1=(byteV s 0:Int) - 48:=by show 10*decK s 0+((byteV s 0:Int) - 48)=_; have e:decK s 0=0:=rfl; omega
  have hl:0<s.data.toList.length:=by rw [Array.length_toList]; show 0<s.size; omega
  rw [e,Lib.decDigits_one (by omega)]
  cases hL:s.data.toList with
  | nil=>rw [hL] at hl; simp at hl
  | cons c r =>
   have hb:byteV s 0=c.toNat:=by unfold byteV; rw [hL]; rfl
   have e2:48+((byteV s 0:Int) - 48).toNat=c.toNat:=by omega
   rw [e2,UInt8.ofNat_toNat]
   rfl
 | k+1,hk=>by
  have ih:=zPt hd hz h6 k (by omega)
  have h:=hd (k+1) (by omega)
  have hp:=zPs (s:=s) (fun e=>hz ⟨by omega,e⟩) (k:=k) (fun i hi=>hd i (by omega))
  have e:decK s (k+1+1)=10*decK s (k+1)+((byteV s (k+1):Int) - 48):=rfl
  have hl:k+1<s.data.toList.length:=by rw [Array.length_toList]; show k+1<s.size; omega
  rw [Lib.decDigits,dif_neg (by omega),show (decK s (k+1+1)).toNat / 10=(decK s (k+1)).toNat by omega,ih,show (decK s (k+1+1)).toNat % 10=byteV s (k+1) - 48 by omega,List.take_succ_eq_append_getElem hl]
  congr 2
  have hb:byteV s (k+1)=(s.data.toList[k+1]).toNat:=by unfold byteV; rw [List.getD_eq_getElem?_getD,List.getElem?_eq_getElem hl]; rfl
  exact UInt8.toNat_inj.1 (by rw [UInt8.toNat_ofNat']; have:=(s.data.toList[k+1]).toNat_lt; omega)
theorem zIU {s:ByteArray} (h:zBl s=true):itoaV (numRV s)=s∧0≤numRV s∧numRV s≤999999:=by
 have h':=h
 rw [zBl,Bool.and_eq_true,decide_eq_true_eq] at h'
 obtain ⟨⟨h1,h2,h3⟩,h4⟩:=h'
 have hd:=zCT.1 h4
 have hb:=zG7 h2 (k:=s.size) hd
 have hp:(10:Int) ^ s.size≤10 ^ 6:=by
  have:=Nat.pow_le_pow_right (show 0<10 by omega) h2
  exact_mod_cast this
 have e:numRV s=decK s s.size:=if_pos h
 obtain ⟨k,hk⟩:∃ k,s.size=k+1:=⟨s.size - 1,by omega⟩
 have ht:=zPt hd h3 h2 k (by omega)
 rw [←hk,List.take_of_length_le (by rw [Array.length_toList]; exact Nat.le_refl _)] at ht
 refine ⟨?_,by omega,by rw [e]; omega⟩
 rw [e]
 have hi:Lib.itoa (decK s s.size)=s.data.toList:=by
  have:=Lib.itoa_nonneg (decK s s.size).toNat
  rw [Int.toNat_of_nonneg hb.1] at this
  rw [this,ht]
 unfold itoaV
 rw [hi]
theorem zMk {v:Int} (h0:0≤v) (h1:v≤999999):zBl (itoaV v)=true:=by
 have hL:(itoaV v).data.toList=Lib.decDigits v.toNat:=by
  rw [zHc]
  have:=Lib.itoa_nonneg v.toNat
  rwa [Int.toNat_of_nonneg h0] at this
 have hs:(itoaV v).size=(Lib.decDigits v.toNat).length:=by rw [←hL,Array.length_toList]; rfl
 have hn:(Lib.decDigits v.toNat).length=Lib.nDigits v.toNat:=Lib.decDigits_length _
 have hpos:0<(Lib.decDigits v.toNat).length:=List.length_pos_iff.2 (zSW _)
 have hn6:Lib.nDigits v.toNat≤6:=by
  have step:∀ u,Lib.nDigits u=if u<10 then 1 else Lib.nDigits (u / 10)+1:=fun u=>by rw [Lib.nDigits]; split<;>rfl
  rw [step,step,step,step,step,step]
  repeat' split
  all_goals omega
 have hn1:1<(Lib.decDigits v.toNat).length→1≤v.toNat:=fun h=>by
  by_cases h9:v.toNat<10
  ·rw [hn,Lib.nDigits_small h9] at h; omega
  ·omega
 rw [zBl,Bool.and_eq_true,decide_eq_true_eq]
 refine ⟨⟨by omega,by omega,fun ⟨h,hb⟩=>?_⟩,zCT.2 fun k hk=>?_⟩
 ·unfold byteV at hb
  rw [hL] at hb
  exact zVq _ (hn1 (by omega)) hb
 ·unfold byteV
  rw [hL,List.getD_eq_getElem?_getD,List.getElem?_eq_getElem (by omega)]
  exact zIv _ _ (List.getElem_mem _)
theorem zXo {s:ByteArray} {m:Int} (hm:m≤999999):numV s m=(zBl s && decide (numRV s≤m)):=by
 cases h:zBl s with
 | true =>
  obtain ⟨h1,h2,h3⟩:=zIU h
  obtain ⟨a1,a2⟩:=zEf h2 (by omega)
  rw [h1] at a1 a2
  unfold numV
  rw [a1,a2,h1,decide_eq_true h2,decide_eq_true (rfl:s=s)]
  simp
 | false =>
  rw [Bool.false_and]
  cases hv:numV s m with
  | false=>rfl
  | true =>
   unfold numV at hv
   simp only [Bool.and_eq_true,decide_eq_true_eq] at hv
   obtain ⟨_,h2,h3,h4⟩:=hv
   have:=zMk h2 (by omega)
   rw [h4,h] at this
   cases this
theorem zIT {s:ByteArray} (h:zBl s=true):atoiV s=numRV s:=by
 obtain ⟨h1,h2,h3⟩:=zIU h
 have:=(zEf h2 (by omega)).2
 rwa [h1] at this
end Go.Proofs.YtekfodeknpnkbaaGreatDoor
namespace Go.Proofs.YtekfodeknpnkbaaGreatDoor
open Go.RowKit Go.VS
theorem zE3 {a b:ByteArray} (h:a.data.toList=b.data.toList):a=b:=ByteArray.ext (Array.toList_inj.1 h)
theorem zBo (s:ByteArray) (y:Nat):∀ (n k:Nat),k+n=s.size→(∀ j,k≤j→j<zCr s y n k→byteV s j≠y)∧(zCr s y n k<s.size→byteV s (zCr s y n k)=y)∧k≤zCr s y n k∧zCr s y n k≤s.size
 | 0,k,h=>by
  have e:zCr s y 0 k=s.size:=rfl
  rw [e]
  exact ⟨fun j h1 h2=>by omega,fun h2=>by omega,by omega,by omega⟩
 | n+1,k,h=>by
  by_cases hb:byteV s k=y
  ·have e:zCr s y (n+1) k=k:=if_pos hb
   rw [e]
   exact ⟨fun j h1 h2=>by omega,fun _=>hb,by omega,by omega⟩
  ·have e:zCr s y (n+1) k=zCr s y n (k+1):=if_neg hb
   rw [e]
   obtain ⟨h1,h2,h3,h4⟩:=zBo s y n (k+1) (by omega)
   refine ⟨fun j h5 h6=>?_,h2,by omega,h4⟩
   by_cases hj:j=k
   ·rw [hj]; exact hb
   ·exact h1 j (by omega) h6
theorem zOr {l:List UInt8} {c:UInt8} {i:Nat}:Lib.occAt l [c] i=true↔l[i]?=some c:=by
 unfold Lib.occAt
 rw [←List.head?_drop]
 cases l.drop i with
 | nil=>simp
 | cons x r =>
  show (c == x && ([]:List UInt8).isPrefixOf r)=true↔some x=some c
  rw [Bool.and_eq_true,beq_iff_eq,Option.some.injEq]
  exact ⟨fun h=>h.1.symm,fun h=>⟨h.symm,by cases r<;>rfl⟩⟩
theorem zKT {s:ByteArray} {c:UInt8} {i:Nat} (h:i<s.size):s.data.toList[i]?=some c↔byteV s i=c.toNat:=by
 have hl:i<s.data.toList.length:=by rw [Array.length_toList]; exact h
 unfold byteV
 rw [List.getD_eq_getElem?_getD,List.getElem?_eq_getElem hl]
 show some s.data.toList[i]=some c↔s.data.toList[i].toNat=c.toNat
 rw [Option.some.injEq]
 exact UInt8.toNat_inj.symm
theorem zMj (s:ByteArray) (c:UInt8):Lib.index s.data.toList [c]=if zAy s c.toNat=true then (cutI s c.toNat:Int) else -1:=by
 obtain ⟨h1,h2,_,h4⟩:=zBo s c.toNat s.size 0 (by omega)
 have hl:s.data.toList.length=s.size:=by rw [Array.length_toList]; rfl
 have occ:∀ j,j<cutI s c.toNat→Lib.occAt s.data.toList [c] j=false:=fun j hj=>by
  cases ho:Lib.occAt s.data.toList [c] j with
  | false=>rfl
  | true =>
   have:=(zKT (show j<s.size by unfold cutI at hj; omega)).1 (zOr.1 ho)
   exact absurd this (h1 j (Nat.zero_le _) hj)
 by_cases hh:cutI s c.toNat<s.size
 ·have hh':zAy s c.toNat=true:=decide_eq_true hh
  rw [if_pos hh']
  exact Lib.index_first (by omega) (zOr.2 ((zKT hh).2 (h2 hh))) occ
 ·have hh':¬zAy s c.toNat=true:=fun h=>hh (of_decide_eq_true h)
  rw [if_neg hh']
  refine Lib.index_none fun j hj=>?_
  by_cases hj2:j<s.size
  ·exact occ j (by unfold cutI at hh ⊢; omega)
  ·cases ho:Lib.occAt s.data.toList [c] j with
   | false=>rfl
   | true =>
    have:=zOr.1 ho
    rw [List.getElem?_eq_none (by omega)] at this
    cases this
theorem zCG (s:ByteArray) (i j:Nat):(s.extract i j).data.toList=(s.data.toList.drop i).take (j - i):=by
 rw [ByteArray.data_extract,Array.toList_extract,List.extract_eq_take_drop]
theorem zPq (s:ByteArray) (c:UInt8):cutB s ⟨#[c]⟩=zAy s c.toNat∧cut1 s ⟨#[c]⟩=rcut1 s c.toNat∧cut2 s ⟨#[c]⟩=rcut2 s c.toNat:=by
 have hi:=zMj s c
 have hl:s.data.toList.length=s.size:=by rw [Array.length_toList]; rfl
 have hc:Lib.cut s.data.toList [c]=if zAy s c.toNat=true then (s.data.toList.take (cutI s c.toNat),s.data.toList.drop (cutI s c.toNat+1),true) else (s.data.toList,[],false):=by
  unfold Lib.cut
  rw [hi]
  by_cases h:zAy s c.toNat=true
  ·rw [if_pos h,if_pos h,if_pos (by omega)]
   rfl
  ·rw [if_neg h,if_neg h,if_neg (by omega)]
 have e:(⟨#[c]⟩:ByteArray).data.toList=[c]:=rfl
 unfold cutB cut1 cut2 rcut1 rcut2
 rw [e,hc]
 by_cases h:zAy s c.toNat=true
 ·rw [if_pos h,if_pos h,if_pos h,h]
  refine ⟨rfl,zE3 ?_,zE3 ?_⟩
  ·rw [zCG]; simp
  ·rw [zCG]
   show s.data.toList.drop _=_
   rw [List.take_of_length_le (by rw [List.length_drop]; omega)]
 ·rw [if_neg h,if_neg h,if_neg h]
  refine ⟨(by simpa using h:zAy s c.toNat=false).symm,zE3 rfl,zE3 rfl⟩
theorem zGy {s:ByteArray} {c:UInt8} (h:zAy s c.toNat=true):rcut1 s c.toNat++⟨#[c]⟩++rcut2 s c.toNat=s:=by
 obtain ⟨h1,h2,_,h4⟩:=zBo s c.toNat s.size 0 (by omega)
 have hh:cutI s c.toNat<s.size:=of_decide_eq_true h
 have hl:s.data.toList.length=s.size:=by rw [Array.length_toList]; rfl
 refine zE3 ?_
 rw [ByteArray.data_append,Array.toList_append,ByteArray.data_append,Array.toList_append]
 unfold rcut1 rcut2
 rw [if_pos h,if_pos h,zCG,zCG]
 have hg:=(zKT hh).2 (h2 hh)
 rw [List.getElem?_eq_getElem (by omega)] at hg
 have hg':=Option.some.inj hg
 show ((s.data.toList.drop 0).take (cutI s c.toNat - 0)++[c])++(s.data.toList.drop (cutI s c.toNat+1)).take (s.size - (cutI s c.toNat+1))=_
 rw [List.take_of_length_le (l:=s.data.toList.drop (cutI s c.toNat+1)) (by rw [List.length_drop]; omega),List.drop_zero,Nat.sub_zero,List.append_assoc,List.singleton_append]
 conv=>rhs; rw [←List.take_append_drop (cutI s c.toNat) s.data.toList,List.drop_eq_getElem_cons (by omega:cutI s c.toNat<s.data.toList.length)]
 congr 2
 exact hg'.symm
end Go.Proofs.YtekfodeknpnkbaaGreatDoor
namespace Go.Proofs.YtekfodeknpnkbaaGreatDoor
open Go.RowKit Go.VS
def wrK (l:List Line):Nat→ByteArray×Int
 | 0=>(ByteArray.empty,0)
 | k+1=>((wrK l k).1++(lineV (wrK l k).2 (l.getD k (ByteArray.empty,0))++{data:=#[10]}),sumV (wrK l k).2 (textV (l.getD k (ByteArray.empty,0)).2 (l.getD k (ByteArray.empty,0)).1))
structure WritePre (l:List Line):Prop where
 len:l.length≤100
 all:∀ x∈l,LinePre x
end Go.Proofs.YtekfodeknpnkbaaGreatDoor
namespace Go.Proofs.YtekfodeknpnkbaaGreatDoor
open Go.RowKit Go.VS
theorem zIe {s:ByteArray} {y:Nat} (h:zAy s y=true):(rcut2 s y).size<s.size:=by
 have hh:cutI s y<s.size:=of_decide_eq_true h
 unfold rcut2
 rw [if_pos h,ByteArray.size_extract]
 omega
theorem zJG {s:ByteArray} {y:Nat} (h:zAy s y=true) {j:Nat} (hj:j<(rcut2 s y).size):byteV (rcut2 s y) j=byteV s (cutI s y+1+j):=by
 have hh:cutI s y<s.size:=of_decide_eq_true h
 have hl:s.data.toList.length=s.size:=by rw [Array.length_toList]; rfl
 unfold byteV rcut2 at *
 rw [if_pos h] at hj ⊢
 rw [ByteArray.size_extract] at hj
 rw [zCG,List.getD_eq_getElem?_getD,List.getD_eq_getElem?_getD,List.getElem?_take_of_lt (by omega),List.getElem?_drop]
theorem zJh {s:ByteArray} {y:Nat} (h:zAy s y=true):(rcut2 s y).size+cutI s y+1=s.size:=by
 have hh:cutI s y<s.size:=of_decide_eq_true h
 unfold rcut2
 rw [if_pos h,ByteArray.size_extract]
 omega
theorem zMe {s:ByteArray} {y:Nat} (h:zAy s y=true) (i j:Nat) (hj:j≤(rcut2 s y).size):(rcut2 s y).extract i j=s.extract (cutI s y+1+i) (cutI s y+1+j):=by
 have hs:=zJh h
 have hl:s.data.toList.length=s.size:=by rw [Array.length_toList]; rfl
 refine zE3 ?_
 rw [zCG,zCG]
 have e:(rcut2 s y).data.toList=s.data.toList.drop (cutI s y+1):=by
  unfold rcut2
  rw [if_pos h,zCG,List.take_of_length_le (by rw [List.length_drop]; omega)]
 rw [e,List.drop_drop]
 congr 1
 omega
theorem zJn (s:ByteArray):∀ k,k≤cutI s 32→k≤s.size→wK s k=([],0)
 | 0,_,_=>rfl
 | k+1,h,h2=>by
  have h1:=(zBo s 32 s.size 0 (by omega)).1 k (Nat.zero_le _) (by unfold cutI at h; omega)
  rw [zJo (fun e=>e.elim (fun e=>by omega) h1)]
  exact zJn s k (by omega) (by omega)
theorem zNn {s:ByteArray} (h:zAy s 32=true):∀ j,j≤(rcut2 s 32).size+1 →
 wK s (cutI s 32+1+j)=(rcut1 s 32::(wK (rcut2 s 32) j).1,cutI s 32+1+(wK (rcut2 s 32) j).2)
 | 0,_=>by
  have hh:cutI s 32<s.size:=of_decide_eq_true h
  have hb:byteV s (cutI s 32)=32:=(zBo s 32 s.size 0 (by omega)).2.1 hh
  rw [Nat.add_zero,zH2 (.inr hb),zJn s _ (Nat.le_refl _) (by omega)]
  have e:rcut1 s 32=s.extract 0 (cutI s 32):=by unfold rcut1; rw [if_pos h]
  rw [e]
  rfl
 | j+1,hj=>by
  have ih:=zNn h j (by omega)
  have hs:=zJh h
  have hle:=wK_le (rcut2 s 32) j
  by_cases h1:j=(rcut2 s 32).size∨byteV (rcut2 s 32) j=32
  ·have h2:cutI s 32+1+j=s.size∨byteV s (cutI s 32+1+j)=32:=by
    rcases h1 with h1|h1
    ·left; omega
    ·by_cases hj2:j<(rcut2 s 32).size
     ·right; rw [←zJG h hj2]; exact h1
     ·left; omega
   rw [←Nat.add_assoc,zH2 h2,ih,zH2 h1]
   dsimp only
   rw [zMe h _ _ (by omega)]
   rfl
  ·have h2:¬(cutI s 32+1+j=s.size∨byteV s (cutI s 32+1+j)=32):=by
    rintro (h2|h2)
    ·exact h1 (.inl (by omega))
    ·by_cases hj2:j<(rcut2 s 32).size
     ·exact h1 (.inr (by rw [zJG h hj2]; exact h2))
     ·exact h1 (.inl (by omega))
   rw [←Nat.add_assoc,zJo h2,ih,zJo h1]
theorem zG5 (s:ByteArray):zBx s=if zAy s 32=true then rcut1 s 32::zBx (rcut2 s 32) else [s]:=by
 by_cases h:zAy s 32=true
 ·rw [if_pos h]
  have hs:=zJh h
  have e:=zNn h ((rcut2 s 32).size+1) (Nat.le_refl _)
  unfold zBx
  rw [show s.size+1=cutI s 32+1+((rcut2 s 32).size+1) by omega,e]
 ·rw [if_neg h]
  have hh:¬cutI s 32<s.size:=fun e=>h (decide_eq_true e)
  have h4:=(zBo s 32 s.size 0 (by omega)).2.2.2
  have h5:cutI s 32=s.size:=by unfold cutI at hh ⊢; omega
  unfold zBx
  rw [zH2 (.inl rfl),zJn s s.size (by omega) (Nat.le_refl _)]
  show [s.extract 0 s.size]=[s]
  congr 1
  refine zE3 ?_
  rw [zCG,List.drop_zero,List.take_of_length_le (by rw [Array.length_toList]; exact Nat.le_refl _)]
end Go.Proofs.YtekfodeknpnkbaaGreatDoor
namespace Go.Proofs.YtekfodeknpnkbaaGreatDoor
open Go.RowKit Go.VS Go.OT Go.LC
structure LwB (N:Nat) (m:Int) (s:LL):Prop where
 l1:s.far.length=N
 l2:s.by'.length=N
 bnd:∀ v,v<N → -1000000*m≤s.far.getD v 0∧s.far.getD v 0≤0
theorem LwB.mono {N:Nat} {m m':Int} {s:LL} (h:LwB N m s) (hm:m≤m'):LwB N m' s:=⟨h.l1,h.l2,fun v hv=>by have:=h.bnd v hv; omega⟩
theorem LwB.set {N:Nat} {m:Int} {s:LL} (h:LwB N m s) {v:Nat} (hv:v<N) {x y z:Int} (hb : -1000000*(m+1)≤x∧x≤0):LwB N (m+1) ⟨s.far.set v x,s.by'.set v y,z⟩:=by
 refine ⟨by simp [h.l1],by simp [h.l2],fun k hk=>?_⟩
 show _≤(s.far.set v x).getD k 0∧(s.far.set v x).getD k 0≤0
 rw [zBw (by rw [h.l1]; exact hv)]
 have:=h.bnd k hk
 split<;>omega
section
variable {R C:Nat} {m:Int} {s:LL}
theorem LwB.lwC (h:LwB (R+C) m s) {c:Int} {i j:Nat} (hi:i<R) (hj:j<C) (hc:0≤c∧c≤1000000):LwB (R+C) (m+1) (lwC R c i j s):=by
 unfold Go.LC.lwC
 split
 ·have b1:=h.bnd i (by omega)
  have b2:=h.bnd (R+j) (by omega)
  exact h.set (by omega) (by omega)
 ·exact h.mono (by omega)
theorem LwB.lwR (h:LwB (R+C) m s) {c n:Int} {i j:Nat} (hi:i<R) (hj:j<C) (hc:0≤c∧c≤1000000):LwB (R+C) (m+1) (lwR R c n i j s):=by
 unfold Go.LC.lwR
 split
 ·have b1:=h.bnd i (by omega)
  have b2:=h.bnd (R+j) (by omega)
  exact h.set (by omega) (by omega)
 ·exact h.mono (by omega)
variable {c p:List (List Int)}
theorem LwB.row (hc:Tb R C 0 1000000 c) (h:LwB (R+C) m s) {i:Nat} (hi:i<R):∀ j,j≤C→LwB (R+C) (m+2*j) (upto (lw2 c p i) j s)
 | 0,_=>h.mono (by omega)
 | j+1,hj=>by
  have h1:=LwB.row hc h hi j (by omega)
  have h2:=(h1.lwC (c:=(c.getD i []).getD j 0) hi (by omega:j<C) (hc.at' i j hi (by omega))).lwR (c:=(c.getD i []).getD j 0) (n:=(p.getD i []).getD j 0) hi (by omega:j<C) (hc.at' i j hi (by omega))
  show LwB (R+C) (m+2*((j+1:Nat):Int)) (lw2 c p i j (upto (lw2 c p i) j s))
  have e:lw2 c p i j (upto (lw2 c p i) j s)=Go.LC.lwR c.length ((c.getD i []).getD j 0) ((p.getD i []).getD j 0) i j (Go.LC.lwC c.length ((c.getD i []).getD j 0) i j (upto (lw2 c p i) j s)):=rfl
  rw [e,hc.rows]
  have h3:=LwB.mono (m':=m+2*((j+1:Nat):Int)) h2 (by omega)
  exact h3
theorem LwB.tab (hc:Tb R C 0 1000000 c) (hC:C≤6) (h:LwB (R+C) m s):∀ i,i≤R→LwB (R+C) (m+12*i) (upto (lwRow c p) i s)
 | 0,_=>h.mono (by omega)
 | i+1,hi=>by
  have h1:=LwB.row (p:=p) hc (LwB.tab hc hC h i (by omega)) (i:=i) (by omega) C (Nat.le_refl _)
  show LwB (R+C) (m+12*((i+1:Nat):Int)) (upto (lw2 c p i) (c.getD i []).length (upto (lwRow c p) i s))
  rw [hc.cols i (by omega)]
  exact h1.mono (by omega)
end
section
variable {R:Nat} {c p:List (List Int)} {i j:Nat} {s:LL}
end
end Go.Proofs.YtekfodeknpnkbaaGreatDoor
namespace Go.Proofs.YtekfodeknpnkbaaGreatDoor
open Go.RowKit Go.VS Go.OT Go.LC
structure Rd (c p:List (List Int)) (N:Nat) (f:Nat→Nat) (by0:List Int) (x P:Nat):Prop where
 by':∀ v,v<N→by0.getD v 0=((f v:Nat):Int)∧f v<N
 lt:∀ m,it f m x<N
 rnd:Round (cw c.length (gt c)) (eTo c.length (wid c) (gt p) c.length) f x P
 le:P≤N
theorem Rd.next {c p:List (List Int)} {N:Nat} {f:Nat→Nat} {by0:List Int} {x P:Nat} (h:Rd c p N f by0 x P) (m:Nat):by0.getD (it f m x) 0=((it f (m+1) x:Nat):Int):=(h.by' _ (h.lt m)).1
end Go.Proofs.YtekfodeknpnkbaaGreatDoor
namespace Go.Proofs.YtekfodeknpnkbaaGreatDoor
open Go.RowKit Go.VS Go.OT
theorem zUH:∀ (l:List Int),sumL l=lsum l:=by
 intro l
 have h:∀ k,k≤l.length→sg k (ga l)=lsum (l.take k):=by
  intro k
  induction k with
  | zero=>intro _; rfl
  | succ k ih =>
   intro hk
   rw [zBH l k (by omega),←ih (by omega)]
   rfl
 have:=h l.length (Nat.le_refl _)
 rwa [List.take_length] at this
theorem zKZ (r s:List Int):∀ k,dotK r s k=sg k fun j=>r.getD j 0*s.getD j 0
 | 0=>rfl
 | k+1=>by simp only [dotK,sg,zKZ r s k]
theorem zGW {R C:Nat} {c t:List (List Int)} (h:Sz R C t):spend c t=cst R C (gt c) (gt t):=by
 have h1:∀ k,k≤R→zCP c t k=sg k fun i=>sg C fun j=>gt c i j*gt t i j:=by
  intro k
  induction k with
  | zero=>intro _; rfl
  | succ k ih =>
   intro hk
   simp only [zCP,sg]
   rw [ih (by omega),zKZ,h.cols k (by omega)]
   rfl
 unfold spend
 rw [h.rows]
 exact h1 R (Nat.le_refl _)
theorem worth_eq {a b:List Int} {p:zA3}:zDh a b p=worth a.length b.length (ga a) (ga b) (ga p.1) (ga p.2):=by
 unfold zDh worth
 rw [zKZ,zKZ]
 rfl
section
variable {a b:List Int} {c:List (List Int)}
theorem zGA (h:zFb a b c=0):Best a b c (cheapV a b c):=by
 obtain ⟨h1,h2⟩:=zQE h
 exact h1.mc.best (by rw [zUH,zUH,h2])
theorem zLW (h:zFb a b c=0):zPR a b c=cst a.length b.length (gt c) (gt (cheapV a b c)):=by
 rw [zVY h]
 exact zGW (zGA h).shp.tab.sz
theorem zVZ (h:zFb a b c=0) {q:List (List Int)} (hq:IsPlan a.length b.length (ga a) (ga b) (gt q)):zPR a b c≤cst a.length b.length (gt c) (gt q):=by
 rw [zLW h]
 obtain ⟨r,s,h1,h2,_⟩:=(zGA h).good
 exact (zGA h).plan.least h1 h2 hq
theorem least_of (h:zFb a b c=0) {q:List (List Int)} (hq:IsPlan a.length b.length (ga a) (ga b) (gt q)) {u v:Nat→Int} (h1:Holds a.length b.length (gt c) u v) (h2:Tight a.length b.length (gt c) (gt q) u v):zPR a b c=cst a.length b.length (gt c) (gt q):=by
 have k1:=zVZ h hq
 have k2:=hq.least h1 h2 (zGA h).plan
 rw [←zLW h] at k2
 omega
end
end Go.Proofs.YtekfodeknpnkbaaGreatDoor
namespace Go.Proofs.YtekfodeknpnkbaaGreatDoor
open Go.RowKit Go.VS Go.OT Go.LC
theorem zCw {l:List Int} (h:zB3 l=true):l.length≤5∧0≤lsum l∧lsum l≤150:=by
 unfold zB3 at h
 simp only [Bool.and_eq_true,decide_eq_true_eq,List.all_eq_true] at h
 obtain ⟨h1,h2⟩:=h
 have h3:=zEo 30 (by omega) l h2
 omega
section
variable {a b:List Int} {c:List (List Int)} {m d e:Int}
end
end Go.Proofs.YtekfodeknpnkbaaGreatDoor
