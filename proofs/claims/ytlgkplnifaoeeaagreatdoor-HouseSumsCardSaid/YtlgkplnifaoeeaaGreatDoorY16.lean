import Derived.Test.YtlgkplnifaoeeaaGreatDoorY11
import Derived.LaidEql
import Derived.Stop.Asserts
import Derived.RowKitTokens
import Derived.Tactics2
import Derived.Test.YtlgkplnifaoeeaaGreatDoorY4
set_option linter.unusedSimpArgs false
set_option linter.unusedVariables false
namespace Go.Proofs.YtlgkplnifaoeeaaGreatDoor
open Go.RowKit Go.VS Go.Extern.Stop Go.Stop Go.Extern
theorem zS6 (t : Value) (w : World) : Calls Tryz.prog 126 #[.nilIface, t] w fun e w' => e = .returned (.bool false) ∧ w' = w := by
  go_enter Tryz.func126, Tryz.ntmps126
  go_wp2
  go_ret
  exact ⟨rfl, rfl⟩
theorem as_vp (t : Addr) (w : World) : (ReflectliteValue.unpack (.iface 172 (.pointer (some t)))).run Tryz.prog w = .ok (.agg #[.pointer (some ⟨9, 172, none⟩), .pointer (some ⟨w.heap.size, 0, none⟩), .int .u64 150]) (w.alloc (.cells #[.pointer (some t)] 172)) := by kernel_rfl
theorem as_vr (n : Int) (w : World) : (ReflectliteValue.unpack (.iface 161 (.agg #[.int .i64 n]))).run Tryz.prog w = .ok (.agg #[.pointer (some ⟨9, 161, none⟩), .pointer (some ⟨w.heap.size, 0, none⟩), .int .u64 153]) (w.alloc (.cells #[.int .i64 n] 161)) := by kernel_rfl
theorem zTb (a : Addr) (w : World) : (ReflectliteValue.methodAny (ReflectliteValue.valueError "reflectlite.Value.Type" 0) (fun t _ _ _ => ReflectliteType.toType t) #[.agg #[.pointer (some ⟨9, 172, none⟩), .pointer (some a), .int .u64 150]]).run Tryz.prog w = .ok (.iface 238 (.agg #[.pointer (some ⟨9, 172, none⟩)])) w := by kernel_rfl
theorem as_mk (h : Value) (w : World) : (Go.method 418 238 (.agg #[h]) "Kind").run Tryz.prog w = .ok (260, h) w := by kernel_rfl
theorem as_kp (w : World) : ((ReflectliteType.abiMethod fun t => (fun a : Nat => Value.int IntKind.u8 (a : Int)) <$> Rtype.kind t) #[.pointer (some ⟨9, 172, none⟩)]).run Tryz.prog w = .ok (.int .u8 22) w := by kernel_rfl
theorem as_kr (w : World) : ((ReflectliteType.abiMethod fun t => (fun a : Nat => Value.int IntKind.u8 (a : Int)) <$> Rtype.kind t) #[.pointer (some ⟨9, 161, none⟩)]).run Tryz.prog w = .ok (.int .u8 25) w := by kernel_rfl
theorem zRJ (z : Sem Value) (f : TypeId → Addr → Nat → Nat → Sem Value) (v : Value) : ReflectliteValue.method z f #[v] = (do match ← ReflectliteValue.parts v with | none => z | some (t, a, fl) => f t a fl (fl % 32)) := rfl
theorem as_pp (a : Addr) (w : World) : (ReflectliteValue.parts (.agg #[.pointer (some ⟨9, 172, none⟩), .pointer (some a), .int .u64 150])).run Tryz.prog w = .ok (some (172, a, 150)) w := by kernel_rfl
theorem zQs (a p : Addr) (W : World) (ha : W.cell? a = some (.pointer (some p))) : (ReflectliteValue.method (ReflectliteValue.valueError "reflectlite.Value.IsNil" 0) ReflectliteValue.isNil #[.agg #[.pointer (some ⟨9, 172, none⟩), .pointer (some a), .int .u64 150]]).run Tryz.prog W = .ok (.bool false) W := by
  rw [zRJ]
  simp only [Sem.run_bind, as_pp, Result.andThen]
  simp [ReflectliteValue.isNil, loadVar, isAgg, underlying, Tryz.underlying172, ha, Result.andThen]
theorem as_me (h : Value) (w : World) : (Go.method 418 238 (.agg #[h]) "Elem").run Tryz.prog w = .ok (273, .agg #[h]) w := by kernel_rfl
theorem as_mi (h : Value) (w : World) : (Go.method 418 238 (.agg #[h]) "Implements").run Tryz.prog w = .ok (274, .agg #[h]) w := by kernel_rfl
theorem as_ma (h : Value) (w : World) : (Go.method 418 238 (.agg #[h]) "AssignableTo").run Tryz.prog w = .ok (271, .agg #[h]) w := by kernel_rfl
theorem as_ep (w : World) : (ReflectliteType.method ReflectliteType.elem #[.agg #[.pointer (some ⟨9, 172, none⟩)]]).run Tryz.prog w = .ok (.iface 238 (.agg #[.pointer (some ⟨9, 161, none⟩)])) w := by kernel_rfl
theorem as_ir (w : World) : (ReflectliteType.relation "Implements" ReflectliteType.implements_ #[.agg #[.pointer (some ⟨9, 161, none⟩)], .iface 238 (.agg #[.pointer (some ⟨9, 116, none⟩)])]).run Tryz.prog w = .ok (.bool true) w := by kernel_rfl
theorem as_to (v : Value) (w : World) : (ReflectliteType.typeOf #[.iface 161 v]).run Tryz.prog w = .ok (.iface 238 (.agg #[.pointer (some ⟨9, 161, none⟩)])) w := by kernel_rfl
theorem as_ar (w : World) : (ReflectliteType.relation "AssignableTo" ReflectliteType.assignableTo #[.agg #[.pointer (some ⟨9, 161, none⟩)], .iface 238 (.agg #[.pointer (some ⟨9, 161, none⟩)])]).run Tryz.prog w = .ok (.bool true) w := by kernel_rfl
theorem as_eo (w : World) : (Rtype.elem? 172).run Tryz.prog w = .ok (some 161) w := by kernel_rfl
theorem zS5 (p : Addr) (w : World) : (ReflectliteValue.mk 161 p ReflectliteValue.flagAddr).run Tryz.prog w = .ok (.agg #[.pointer (some ⟨9, 161, none⟩), .pointer (some p), .int .u64 409]) w := by kernel_rfl
theorem as_ev (a p : Addr) (W : World) (ha : W.cell? a = some (.pointer (some p))) : (ReflectliteValue.method (ReflectliteValue.valueError "reflectlite.Value.Elem" 0) ReflectliteValue.elem #[.agg #[.pointer (some ⟨9, 172, none⟩), .pointer (some a), .int .u64 150]]).run Tryz.prog W = .ok (.agg #[.pointer (some ⟨9, 161, none⟩), .pointer (some p), .int .u64 409]) W := by
  rw [zRJ]
  simp only [Sem.run_bind, as_pp, Result.andThen]
  simp [ReflectliteValue.elem, loadVar, isAgg, underlying, Tryz.underlying172, ha, Result.andThen, as_eo, zS5]
theorem zS9 (v x : Value) : ReflectliteValue.set #[v, x] = (do
    let (some (dst, a, fl), some (src, b, _)) := (← ReflectliteValue.parts v, ← ReflectliteValue.parts x)
      | unsupported (.noEntry "extern/(internal/reflectlite.Value).Set.zeroValue")
    if fl / ReflectliteValue.flagAddr % 2 == 0 then unsupported (.noEntry "extern/(internal/reflectlite.Value).Set.unaddressable")
    let val ← loadVar src b
    if ← Rtype.directlyAssignable dst src then storeVar dst a val
    else if ← Rtype.implements dst src then
      if (← Rtype.kind src) == 20 then
        match val with
        | .nilIface => unsupported (.noEntry "extern/reflectlite: a nil value of one interface type handed on as a value of another")
        | _ => storeVar dst a val
      else storeVar dst a (.iface src val)
    else panicString ("reflectlite.Set: value of type " ++ (← Rtype.spelt src) ++ " is not assignable to type " ++ (← Rtype.spelt dst))
    pure (.tuple #[])) := rfl
theorem zS7 (a : Addr) (w : World) : (ReflectliteValue.parts (.agg #[.pointer (some ⟨9, 161, none⟩), .pointer (some a), .int .u64 409])).run Tryz.prog w = .ok (some (161, a, 409)) w := by kernel_rfl
theorem zS8 (a : Addr) (w : World) : (ReflectliteValue.parts (.agg #[.pointer (some ⟨9, 161, none⟩), .pointer (some a), .int .u64 153])).run Tryz.prog w = .ok (some (161, a, 153)) w := by kernel_rfl
theorem as_dr (w : World) : (Rtype.directlyAssignable 161 161).run Tryz.prog w = .ok true w := by kernel_rfl
theorem as_sz (w : World) : (sizeOf 161).run Tryz.prog w = .ok 1 w := by kernel_rfl
theorem as_ag (w : World) : (isAgg 161).run Tryz.prog w = .ok true w := by kernel_rfl
theorem zTa (t b : Addr) (n : Int) (old : Value) (W : World) (hb : W.cell? b = some (.int .i64 n)) (ht : W.cell? t = some old) (hf : W.frozen? t = false) :
    (ReflectliteValue.set #[.agg #[.pointer (some ⟨9, 161, none⟩), .pointer (some t), .int .u64 409], .agg #[.pointer (some ⟨9, 161, none⟩), .pointer (some b), .int .u64 153]]).run Tryz.prog W = .ok (.tuple #[]) (W.setCell t (.int .i64 n)) := by
  rw [zS9]
  simp only [Sem.run_bind, zS7, zS8, Result.andThen]
  simp [ReflectliteValue.flagAddr, loadVar, as_ag, as_sz, loadCells, loadCellsFrom, Addr.add, hb, Result.andThen, as_dr, storeVar, Value.cells, storeCells]
  rw [run_store Tryz.prog W t _ _ (by rfl)]
  simp [ht, hf]
set_option maxHeartbeats 4000000 in
theorem zS4 (n : Int) (t : Addr) (old : Value) (w : World) (hg : w.cell? ⟨0, 0, none⟩ = some (.iface 238 (.agg #[.pointer (some ⟨9, 116, none⟩)]))) (ht0 : w.cell? t = some old) (hf0 : w.frozen? t = false) :
    Calls Tryz.prog 126 #[.iface 161 (.agg #[.int .i64 n]), .iface 172 (.pointer (some t))] w fun ev w' => ev = .returned (.bool true) ∧ w' = ((((w.alloc (.cells #[.pointer (some t)] 172)).alloc (.cells #[.pointer (some ⟨9, 172, none⟩), .pointer (some ⟨w.heap.size, 0, none⟩), .int .u64 150] 206)).alloc (.cells #[.pointer (some ⟨9, 172, none⟩), .pointer (some ⟨w.heap.size, 0, none⟩), .int .u64 150] 206)).alloc (.cells #[.int .i64 n] 161)).setCell t (.int .i64 n) := by
  have h6 := @run_callFunc_extern Tryz.prog 171 _ (fun args => ReflectliteValue.unpack (args.getD 0 (.tuple #[]))) Tryz.func171 (by kernel_rfl) (by kernel_rfl) (by kernel_rfl) (by kernel_rfl)
  have h7 := @run_callFunc_extern Tryz.prog 172 _ (ReflectliteValue.methodAny (ReflectliteValue.valueError "reflectlite.Value.Type" 0) (fun t _ _ _ => ReflectliteType.toType t)) Tryz.func172 (by kernel_rfl) (by kernel_rfl) (by kernel_rfl) (by kernel_rfl)
  have h8 := @run_callFunc_extern Tryz.prog 173 _ (ReflectliteValue.method (ReflectliteValue.valueError "reflectlite.Value.IsNil" 0) ReflectliteValue.isNil) Tryz.func173 (by kernel_rfl) (by kernel_rfl) (by kernel_rfl) (by kernel_rfl)
  have h27 := @run_callFunc_extern Tryz.prog 260 _ (ReflectliteType.abiMethod fun t => do pure (.int .u8 (← Rtype.kind t))) Tryz.func260 (by kernel_rfl) (by kernel_rfl) (by kernel_rfl) (by kernel_rfl)
  have h37 := @run_callFunc_extern Tryz.prog 273 _ (ReflectliteType.method ReflectliteType.elem) Tryz.func273 (by kernel_rfl) (by kernel_rfl) (by kernel_rfl) (by kernel_rfl)
  have h38 := @run_callFunc_extern Tryz.prog 274 _ (ReflectliteType.relation "Implements" ReflectliteType.implements_) Tryz.func274 (by kernel_rfl) (by kernel_rfl) (by kernel_rfl) (by kernel_rfl)
  have h10 := @run_callFunc_extern Tryz.prog 206 _ ReflectliteType.typeOf Tryz.func206 (by kernel_rfl) (by kernel_rfl) (by kernel_rfl) (by kernel_rfl)
  have h35 := @run_callFunc_extern Tryz.prog 271 _ (ReflectliteType.relation "AssignableTo" ReflectliteType.assignableTo) Tryz.func271 (by kernel_rfl) (by kernel_rfl) (by kernel_rfl) (by kernel_rfl)
  have h11 := @run_callFunc_extern Tryz.prog 207 _ (ReflectliteValue.method (ReflectliteValue.valueError "reflectlite.Value.Elem" 0) ReflectliteValue.elem) Tryz.func207 (by kernel_rfl) (by kernel_rfl) (by kernel_rfl) (by kernel_rfl)
  have h12 := @run_callFunc_extern Tryz.prog 208 _ ReflectliteValue.set Tryz.func208 (by kernel_rfl) (by kernel_rfl) (by kernel_rfl) (by kernel_rfl)
  have tO := as_to
  have mA := as_ma
  have aR := as_ar
  have vR := as_vr
  have f6 := as_vp
  have f7 := zTb
  have mK := as_mk
  have mE := as_me
  have mI := as_mi
  have kP := as_kp
  have kR := as_kr
  have eP := as_ep
  have iR := as_ir
  have n8 := zQs ⟨w.heap.size, 0, none⟩ t ((w.alloc (.cells #[.pointer (some t)] 172)).alloc (.cells #[.pointer (some ⟨9, 172, none⟩), .pointer (some ⟨w.heap.size, 0, none⟩), .int .u64 150] 206)) (by simp)
  have hlt : 0 < w.heap.size := by
    rcases Nat.lt_or_ge 0 w.heap.size with h | h
    · exact h
    · simp [World.cell?, Array.getElem?_eq_none h] at hg
  have hg2 : ((w.alloc (.cells #[.pointer (some t)] 172)).alloc (.cells #[.pointer (some ⟨9, 172, none⟩), .pointer (some ⟨w.heap.size, 0, none⟩), .int .u64 150] 206)).cell? ⟨0, 0, none⟩ = some (.iface 238 (.agg #[.pointer (some ⟨9, 116, none⟩)])) := by
    rw [World.cell?_alloc_lt _ _ ⟨0, 0, none⟩ (by simp), World.cell?_alloc_lt _ _ ⟨0, 0, none⟩ hlt]; exact hg
  have htl : t.block < w.heap.size := by
    rcases Nat.lt_or_ge t.block w.heap.size with h | h
    · exact h
    · simp [World.cell?, Array.getElem?_eq_none h] at ht0
  have el := as_ev ⟨w.heap.size, 0, none⟩ t (((w.alloc (.cells #[.pointer (some t)] 172)).alloc (.cells #[.pointer (some ⟨9, 172, none⟩), .pointer (some ⟨w.heap.size, 0, none⟩), .int .u64 150] 206)).alloc (.cells #[.pointer (some ⟨9, 172, none⟩), .pointer (some ⟨w.heap.size, 0, none⟩), .int .u64 150] 206)) (by rw [World.cell?_alloc_lt _ _ ⟨w.heap.size, 0, none⟩ (by simp; omega)]; simp)
  have st := zTa t ⟨w.heap.size + 1 + 1 + 1, 0, none⟩ n old ((((w.alloc (.cells #[.pointer (some t)] 172)).alloc (.cells #[.pointer (some ⟨9, 172, none⟩), .pointer (some ⟨w.heap.size, 0, none⟩), .int .u64 150] 206)).alloc (.cells #[.pointer (some ⟨9, 172, none⟩), .pointer (some ⟨w.heap.size, 0, none⟩), .int .u64 150] 206)).alloc (.cells #[.int .i64 n] 161))
    (by rw [World.cell?_alloc_at _ _ _ _ (by simp)]; rfl)
    (by rw [World.cell?_alloc_lt _ _ t (by simp; omega), World.cell?_alloc_lt _ _ t (by simp; omega), World.cell?_alloc_lt _ _ t (by simp; omega), World.cell?_alloc_lt _ _ t htl]; exact ht0)
    (by rw [World.frozen?_alloc_old _ _ t (by simp; omega), World.frozen?_alloc_old _ _ t (by simp; omega), World.frozen?_alloc_old _ _ t (by simp; omega), World.frozen?_alloc_old _ _ t (Nat.ne_of_lt htl)]; exact hf0)
  go_enter Tryz.func126, Tryz.ntmps126
  go_wp2
  refine wp_loop_rounds 1 ?_
  rw [rounds_succ]
  go_wp2
  go_ret
  exact ⟨rfl, rfl⟩
end Go.Proofs.YtlgkplnifaoeeaaGreatDoor
namespace Go.Proofs.YtlgkplnifaoeeaaGreatDoor
open Go.RowKit Go.VS
set_option maxRecDepth 20000
theorem et_rt : (Tryz.prog.cutTypes.find? (·.1 == "internal/reflectlite.rtype")).map (·.2) = some 238 := by kernel_rfl
theorem zTj : ((List.range 318).filter fun t => Tryz.prog.rowNamed t [101, 114, 114, 111, 114]) = [116] := by kernel_rfl
theorem zSi : Tryz.prog.types.size = 318 := by kernel_rfl
theorem et_g : Tryz.prog.globalNamed "errors.errorType" = some 0 := by kernel_rfl
theorem zSh {w : World} (h : Gd Tryz.prog w) : w.cell? ⟨0, 0, none⟩ = some (.iface 238 (.agg #[.pointer (some ⟨9, 116, none⟩)])) := by
  obtain ⟨u, ty, e2, e3, e4, e5⟩ := h.typ _ et_g
  obtain rfl := Option.some.inj (et_rt.symm.trans e2)
  have hm : ty ∈ (List.range 318).filter fun t => Tryz.prog.rowNamed t [101, 114, 114, 111, 114] := List.mem_filter.2 ⟨List.mem_range.2 (by rw [← zSi]; exact e3), e4⟩
  rw [zTj] at hm
  obtain rfl := List.mem_singleton.1 hm
  have hh : typeHandle Tryz.prog 116 = .pointer (some ⟨9, 116, none⟩) := by kernel_rfl
  rw [hh] at e5
  simpa using World.var?_cell et_g e5 0
theorem zR8 (n : Int) (t : Addr) (old : Value) (w : World) (hgd : Gd Tryz.prog w) (ht0 : w.cell? t = some old) (hf0 : w.frozen? t = false) :
    Calls Tryz.prog 126 #[.iface 161 (.agg #[.int .i64 n]), .iface 172 (.pointer (some t))] w fun ev w' => ev = .returned (.bool true) ∧ w'.cell? t = some (.int .i64 n) ∧ Keep (fun k => k = t.block) w w' := by
  refine (zS4 n t old w (zSh hgd) ht0 hf0).mono ?_
  rintro e w' ⟨rfl, rfl⟩
  have htl : t.block < w.heap.size := by
    rcases Nat.lt_or_ge t.block w.heap.size with h | h
    · exact h
    · simp [World.cell?, Array.getElem?_eq_none h] at ht0
  refine ⟨rfl, World.cell?_setCell_same _ t _ (u := old) ?_, ?_⟩
  · rw [World.cell?_alloc_lt _ _ t (by simp; omega), World.cell?_alloc_lt _ _ t (by simp; omega), World.cell?_alloc_lt _ _ t (by simp; omega), World.cell?_alloc_lt _ _ t htl]; exact ht0
  · have k4 : Keep (fun k => k = t.block) w ((((w.alloc (.cells #[.pointer (some t)] 172)).alloc (.cells #[.pointer (some ⟨9, 172, none⟩), .pointer (some ⟨w.heap.size, 0, none⟩), .int .u64 150] 206)).alloc (.cells #[.pointer (some ⟨9, 172, none⟩), .pointer (some ⟨w.heap.size, 0, none⟩), .int .u64 150] 206)).alloc (.cells #[.int .i64 n] 161)) :=
      ⟨rfl, rfl, rfl, by simp; omega, fun k hk _ => by
        rw [Below.heap_alloc _ _ k (by simp; omega), Below.heap_alloc _ _ k (by simp; omega), Below.heap_alloc _ _ k (by simp; omega), Below.heap_alloc _ _ k hk]⟩
    refine k4.step (M := fun k => k = t.block) ⟨rfl, rfl, rfl, ?_, fun k hk hne => ?_⟩ (fun b hb _ => hb)
    · simp [World.setCell]
    · exact Below.heap_setCell _ _ _ k hne
set_option maxHeartbeats 2000000 in
theorem zM6 (n : Int) (w : World) (hg : Gd Tryz.prog w) : Calls Tryz.prog 78 #[errV 161 n] w fun e w' => e = .returned (.int .i64 n) ∧ Keep (fun _ => False) w w' := by
  have hkA : Keep (fun _ => False) w (w.alloc (.cells #[.int .i64 0] 161)) := ⟨rfl, rfl, rfl, by simp, fun k hk _ => Below.heap_alloc w _ k hk⟩
  by_cases hn : n = 0
  · subst hn
    rw [show errV 161 0 = .nilIface from rfl]
    go_enter Tryz.func78, Tryz.ntmps78
    go_wp2_with (go_at_call 126; refine (zS6 _ _).mono ?_; rintro e w' ⟨rfl, rfl⟩)
    go_ret
    exact ⟨rfl, hkA⟩
  · rw [show errV 161 n = .iface 161 (.agg #[.int .i64 n]) from if_neg hn]
    have hgA := hg.later hkA
    have hnew := heap_alloc_new w (.cells #[.int .i64 0] 161)
    have c0 : (w.alloc (.cells #[.int .i64 0] 161)).cell? ⟨w.heap.size, 0, none⟩ = some (.int .i64 0) := by simp only [World.cell?, hnew]; rfl
    have z0 : (w.alloc (.cells #[.int .i64 0] 161)).frozen? ⟨w.heap.size, 0, none⟩ = false := by simp only [World.frozen?, hnew]; rfl
    have hcall := zR8 n ⟨w.heap.size, 0, none⟩ _ _ hgA c0 z0
    clear hnew c0 z0 hgA
    go_enter Tryz.func78, Tryz.ntmps78
    go_wp2_with (go_at_call 126; refine hcall.mono ?_; rintro e w' ⟨rfl, hc, hk⟩)
    go_ret
    exact ⟨rfl, hkA.step hk (fun b hb hlt => by have : b = w.heap.size := hb; omega)⟩
@[push_cast] def zIm : Con := ⟨[.dat (.err 161)], fun _ => True, fun (x : Int × Unit) => { res := [.val .int x.1] }⟩
theorem zOx : FnSpec Tryz.prog 78 zIm := by
  refine zBm ⟨_, Tryz.func78, by kernel_rfl, rfl⟩ (fun _ => rfl) (fun _ => rfl) fun C γ x vs hpre hen => ?_
  have hg := hen.ds.2.gd
  rw [hen.P] at hg
  have hargs := hen.args
  obtain ⟨(n : Int), _⟩ := x
  obtain ⟨v0, _, rfl, h0, rfl⟩ := hargs
  obtain rfl : v0 = errV 161 n := zLu h0
  refine (zM6 n C.w0 hg).mono ?_
  rintro e w' ⟨rfl, hk⟩
  exact ⟨[_], rfl, ⟨_, [], rfl, ⟨[.int .i64 n], rfl, rfl⟩, rfl, rfl, rfl⟩, hk⟩
end Go.Proofs.YtlgkplnifaoeeaaGreatDoor
