import Derived.Test.YtekfodeknpnkbaaGreatDoorT4
import Derived.Laws.CopyOwn
set_option linter.unusedSimpArgs false
set_option linter.unusedVariables false
namespace Go.VS
open Go.RowKit
section
variable {C:Ctx} {Q:Exit→AS→Prop} {E:Know} {ops:Array Oper}
theorem FnSpec.of_triP {P:Program} {E:Know} (hE:KnowOK P E) {f:FuncId} {fn:Func} {c:Con} {code:Code} (hf:P.funcs[f]?=some fn) (hname:(fn.name == "runtime.NumGoroutine")=false) (hb:fn.body=some code)
 (hn:Nat.ble c.as_.length fn.ntmps=true)
 (h:∀ (C:Ctx) (x:TupA c.as_),C.P=P→KnowOK C.P E→C.nl=lends c.as_→zCB c.as_ x→c.pre x→tri C fn.ntmps code (retQ E (lends c.as_) fn.results.toList (c.post x)) (entry c.as_ x)):FnSpec P f c:=by
 refine ⟨⟨fn,hf,hname,by rw [hb]; rfl⟩,fun C γ x vs hpre hen=>?_⟩
 obtain rfl:=hen.P
 refine calls_of_wp hf hb ?_
 have hlen:=zA0 _ _ hen.args
 have hle:(zAP 0 c.as_ x).length≤fn.ntmps:=by rw [zBY]; exact Nat.le_of_ble_eq_true hn
 have hr:=zEi hen (fn.ntmps - vs.length)
 refine wp_mono ((h C x rfl hE hen.nl (zBF _ _ _ _ hen.args) hpre).run γ _ _ (by simpa using hr) (by simp; omega)) ?_
 rintro e a' w' ⟨s',γ',h1,h2,h3⟩
 rw [←hen.nl] at h3
 cases e with
 | normal =>
  obtain ⟨v,γ2,k1,k2⟩:=zDT hE h1 (fn:=fn) h3
  exact ⟨h1.defers.1.trans hen.ds.1,v,k1,v,γ2,rfl,k2,h1.keep⟩
 | ret =>
  obtain ⟨v,γ2,k1,k2⟩:=zDT hE h1 (fn:=fn) h3
  exact ⟨h1.defers.1.trans hen.ds.1,v,k1,v,γ2,rfl,k2,h1.keep⟩
 | exit id=>exact h3.elim
 | goto l=>exact h3.elim
 | panic c=>exact h3.elim
 | outgrown=>exact h3.elim
end
end Go.VS
