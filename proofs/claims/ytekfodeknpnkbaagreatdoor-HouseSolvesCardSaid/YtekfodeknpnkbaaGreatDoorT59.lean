import Derived.Test.YtekfodeknpnkbaaGreatDoorT15
import Derived.Test.YtekfodeknpnkbaaGreatDoorT28
import Derived.Test.YtekfodeknpnkbaaGreatDoorT31
set_option linter.unusedSimpArgs false
set_option linter.unusedVariables false
namespace Go.Proofs.YtekfodeknpnkbaaGreatDoor
open Go.RowKit Go.VS Go.OT
@[push_cast] def zVT:Con:=⟨[.dat (.sl .int),.dat (.sl .int),.dat (.sl (.sl .int)),.dat .int,.dat (.sl (.sl .int))],fun _=>True,fun (x:List Int×List Int×List (List Int)×Int×List (List Int)×Unit)=>{res:=[.val .int (costL x.1 x.2.1 x.2.2.1 x.2.2.2.1 x.2.2.2.2.1),.val .int (errLC x.1 x.2.1 x.2.2.1 x.2.2.2.1 x.2.2.2.2.1)]}⟩
theorem zRb:FnSpec Tryz.prog 32 zVT:=by
 refine FnSpec.of_tri' (E:=know _ [] [] []) (zAl (kc zDX (kc zTB (kc zIY (kc zKn (kc zPX (kc zIA all_nil)))))) all_nil all_nil) Tryz.func32 rfl rfl (by kernel_rfl) ?_
 intro C x hE hnl hfit hpre
 simp only [Tryz.ntmps32,Tryz.results32,maxLen,seval,push_cast] at hnl hfit hpre ⊢
 obtain ⟨(a:List Int),(b:List Int),(c:List (List Int)),(w:Int),(t:List (List Int)),_⟩:=x
 dsimp only at hfit hpre ⊢
 have h0:orV [errWd a b c w,errLo a b t]=errLC a b c w t:=zT5
 by_cases he:errLC a b c w t=0
 ·obtain ⟨hw,hp,hl⟩:=zK4 he
  obtain ⟨hf,hw0,hw99⟩:=zBE hw
  have hfit2:=zTA hf hp hl
  obtain ⟨s1,s2,s3,s4⟩:=MC.sums hf
  have h1:=zFO hp _ (Nat.le_refl _)
  have h2:=hfit2.spend t.length (Nat.le_refl _)
  have h3:=hp.rows
  have e1:costL a b c w t=spend c t+w*(lsum a+lsum b - 2*movK t t.length):=if_pos he
  have hfp:FullP a b w (spend c t) (movK t t.length):=⟨s1,s2,s3,s4,⟨hw0,hw99⟩,by show 0≤zCP c t t.length∧zCP c t t.length≤_; omega,by omega⟩
  replace hnl:=And.intro hnl (And.intro h0 (And.intro he (And.intro hfit2 (And.intro hp (And.intro (eq_true hfp) e1)))))
  exact auB
 ·have e1:costL a b c w t=0:=if_neg he
  replace hnl:=And.intro hnl (And.intro h0 (And.intro (eq_false he) e1))
  exact auB
end Go.Proofs.YtekfodeknpnkbaaGreatDoor
