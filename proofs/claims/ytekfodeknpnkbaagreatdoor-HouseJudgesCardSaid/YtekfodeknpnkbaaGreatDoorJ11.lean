import Derived.Test.YtekfodeknpnkbaaGreatDoorJ10
import Derived.Carry
import Derived.ChangeMaps5
import Derived.MapKept
import Derived.Tactics2
set_option linter.unusedSimpArgs false
set_option linter.unusedVariables false
namespace Go.Proofs.YtekfodeknpnkbaaGreatDoor
open Go.RowKit Go.VS Go.OT
def LowP (w:Int) (p:zBp):Prop:=∀ n∈p.1++p.2,n<=w
instance (w:Int) (p:zBp):Decidable (LowP w p):=by unfold LowP; infer_instance
def zBe (c:List (List Int)) (w:Int) (p:zBp):Int:=if zAH c=0/\errW w=0 then if errPr c p=0 then if LowP w p then 0 else 7 else errPr c p else 1
theorem zVt (w:Int):errW w=0\/errW w=1:=by unfold errW; split<;>simp
theorem zVX (w:Int) (u v:List Int):([u,v].flatten.any fun n=>decide (w<n))=!decide (LowP w (u,v)):=by
 have e:[u,v].flatten=u++v:=by simp
 rw [e]
 by_cases h:LowP w (u,v)
 ·rw [aD h,Bool.not_true,cR]
  intro n hn
  have:=h n hn
  simp only [au]
  omega
 ·rw [aF h,Bool.not_false,cg]
  apply aO
  intro h2
  refine h fun n hn=>?_
  apply aO
  intro h3
  exact h2 ⟨n,hn,aD (by omega)⟩
theorem zIy {c:List (List Int)} {u v:List Int} (h:errPr c (u,v)=0):CatP [u,v]:=by
 obtain ⟨h1,h2,_⟩:=zNY h
 have h3:=h2.row.1
 have h4:=h2.col.1
 have h5:=h1.rows
 have h6:=h1.cols
 dsimp only at h3 h4
 refine ⟨by simp,fun k hk=>?_,?_⟩
 ·match k with
  | 0=>show u.length<=100; omega
  | 1=>show v.length<=100; omega
  | k+2=>exact absurd hk (by simp)
 ·simp only [List.flatten_cons,List.flatten_nil,List.append_nil,aL]
  omega
@[push_cast] def zVg:Con:=⟨[.dat .int,.ptr .int],fun _=>True,fun (x:Int×Int×Unit)=>{res:=[.val .bool (decide (x.2.1<x.1))]}⟩
@[push_cast] def zQA:Clo:=⟨[.int],[.int],.bool,fun _ _=>True,fun (y:Int×Unit) (x:Int×Unit)=>decide (y.1<x.1)⟩
theorem zVh:FnSpec Tryz.prog 167 zVg:=by
 refine FnSpec.of_tri' (E:=know [] [] [] []) (zAl all_nil all_nil all_nil) Tryz.func167 rfl rfl kr ?_
 intro C x hE hnl hfit hpre
 simp only [Tryz.ntmps167,Tryz.results167,maxLen,seval,push_cast] at hnl hfit hpre ⊢
 obtain ⟨(n:Int),(w:Int),_⟩:=x
 dsimp only at hfit hpre ⊢
 exact auB
theorem zQB:CloSpec Tryz.prog 167 zQA:=CloSpec.of zVh
@[push_cast] def zUU:Con:=⟨[.dat (.sl (.sl .int)),.dat .int,.dat (.prod (.sl .int) (.sl .int))],fun _=>True,fun (x:List (List Int)×Int×zBp×Unit)=>{res:=[.val .int (zBe x.1 x.2.1 x.2.2.1)]}⟩
theorem zTQ:FnSpec Tryz.prog 119 zUU:=by
 refine FnSpec.of_tri' (E:=know [(42,zHs),(114,zUQ),(69,orCon),(165,prCon),(166,zKA),(133,zCv)] [(167,zQA)] [] []) (zAl (all_cons zEW (all_cons zGF (all_cons zJ5 (all_cons zT7 (all_cons zMk (all_cons zCk all_nil)))))) (all_cons zQB all_nil) all_nil) Tryz.func119 rfl rfl kr ?_
 intro C x hE hnl hfit hpre
 simp only [Tryz.ntmps119,Tryz.results119,maxLen,seval,push_cast] at hnl hfit hpre ⊢
 obtain ⟨(c:List (List Int)),(w:Int),⟨(u:List Int),(v:List Int)⟩,_⟩:=x
 dsimp only at hfit hpre ⊢
 have h1:=zV9 (x:=zAH c) (y:=errW w)
 have h01:=zIF c
 have h02:=zVt w
 have hl:=zVX w u v
 by_cases hc:zAH c=0/\errW w=0
 ·have e1:orV [zAH c,errW w]=0:=by rw [h1,ah hc.1]; exact hc.2
  by_cases hp:errPr c (u,v)=0
  ·have e2:zBe c w (u,v)=if LowP w (u,v) then 0 else 7:=by rw [zBe,ah hc,ah hp]
   by_cases hw:LowP w (u,v)
   ·have e3:zBe c w (u,v)=0:=by rw [e2,ah hw]
    have e4:([u,v].flatten.any fun n=>decide (w<n))=false:=by rw [hl,aD hw]; rfl
    replace hnl:=aa hnl (aa e1 (aa hp (aa e3 (aa (aG (zIy hp)) e4))))
    exact auB
   ·have e3:zBe c w (u,v)=7:=by rw [e2,ae hw]
    have e4:([u,v].flatten.any fun n=>decide (w<n))=true:=by rw [hl,aF hw]; rfl
    replace hnl:=aa hnl (aa e1 (aa hp (aa e3 (aa (aG (zIy hp)) e4))))
    exact auB
  ·have e2:zBe c w (u,v)=errPr c (u,v):=by rw [zBe,ah hc,ae hp]
   replace hnl:=aa hnl (aa e1 (aa e2 (aB hp)))
   exact auB
 ·have e1:orV [zAH c,errW w]=1:=by
   rw [h1]
   split<;>omega
  have e2:zBe c w (u,v)=1:=by rw [zBe,ae hc]
  replace hnl:=aa hnl (aa e1 e2)
  exact auB
theorem zMK:FnSpec Tryz.prog 120 zOE:=by
 refine FnSpec.of_tri' (E:=know [] [] [] []) (zAl all_nil all_nil all_nil) Tryz.func120 rfl rfl kr ?_
 intro C x hE hnl hfit hpre
 simp only [Tryz.ntmps120,Tryz.results120,maxLen,seval,push_cast] at hnl hfit hpre ⊢
 obtain ⟨(a:List Int),(b:List Int),⟨(u:List Int),(v:List Int)⟩,_⟩:=x
 dsimp only at hfit hpre ⊢
 obtain ⟨ha6,hb6,hla,hlb,ha,hb2,hp,hq⟩:=hpre
 dsimp only at hla hlb hp hq
 repeat' (first|(refine goK (by assumption) ?_; iterate 4 (try clear hK K))|(refine zAb fun K hK=>?_)|(refine zAa hE rfl ?_; simp +contextual only [hnl,↓kA,push_cast,seval,reduceCtorEq,cI])|refine zAc ?_|refine andS ?_|fail)
 refine zAk (fun k:Nat=>AS.of [(0,.one (.val (.sl .int) a)),(1,.one (.val (.sl .int) b)),(5,.one (.box 5)),(7,.I (dotK a u k)),(12,.one (.val (.sl .int) a)),(13,.I a.length),(14,.I k)] [] [(5,.one (.val (.prod (.sl .int) (.sl .int)) (u,v)))]) (fun k=>k<=a.length) (fun k=>a.length - k) 0 (aq _) ?_ ?_
 ·refine zAf ?_ ?_ ?_<;>simp only [push_cast,seval,reduceCtorEq,cI]
  all_goals first|rfl|skip
 intro k hk K' hL
 have h1:=zHu ha hp k hk
 have h2:=ha k
 have h3:=hp k
 repeat' (first|(refine goK (by assumption) ?_; iterate 4 (try clear hK K))|(refine zAb fun K hK=>?_)|(refine zAa hE rfl ?_; simp +contextual only [hnl,↓kA,push_cast,seval,reduceCtorEq,cI])|refine zAc ?_|((first|refine zAg ?_|refine zAj ?_); simp only [thenQ,zAh,if_true,if_false,Nat.reduceEqDiff,reduceCtorEq])|(refine zAe (by rfl) (fun hb=>?_) (fun hb=>?_)<;>(try simp only [bq,reduceCtorEq] at hb)<;>(try omega))|refine andS ?_|fail)
 ·have h4:=zF8 (h2 (by omega)) (h3 (by omega))
  refine ⟨by unfold InR; omega,by unfold InR; omega,?_⟩
  repeat' (first|(refine goK (by assumption) ?_; iterate 4 (try clear hK K))|(refine zAa hE rfl ?_; simp +contextual only [hnl,↓kA,push_cast,seval,reduceCtorEq,cI])|refine andS ?_|fail)
  refine hL _ (k+1) (by omega) (by omega) ?_
  refine zAf ?_ ?_ ?_<;>simp only [push_cast,seval,reduceCtorEq,cI]
  all_goals first|rfl|skip
 obtain rfl:k=a.length:=by omega
 refine zAk (fun k:Nat=>AS.of [(1,.one (.val (.sl .int) b)),(5,.one (.box 5)),(7,.I (dotK a u a.length+dotK b v k)),(29,.one (.val (.sl .int) b)),(30,.I b.length),(31,.I k)] [] [(5,.one (.val (.prod (.sl .int) (.sl .int)) (u,v)))]) (fun k=>k<=b.length) (fun k=>b.length - k) 0 (aq _) ?_ ?_
 ·refine zAf ?_ ?_ ?_<;>simp only [push_cast,seval,reduceCtorEq,cI]
  all_goals first|rfl|simp [dotK]|skip
 intro k hk2 K2 hL2
 have g1:=zHu hb2 hq k hk2
 have g2:=hb2 k
 have g3:=hq k
 repeat' (first|(refine goK (by assumption) ?_; iterate 4 (try clear hK K))|(refine zAb fun K hK=>?_)|((first|refine zAa hE rfl ?_|refine zAi ?_); simp +contextual only [hnl,↓kA,push_cast,seval,reduceCtorEq,cI])|refine zAc ?_|((first|refine zAg ?_|refine zAj ?_); simp only [thenQ,zAh,if_true,if_false,Nat.reduceEqDiff,reduceCtorEq])|(refine zAe (by rfl) (fun hb=>?_) (fun hb=>?_)<;>(try simp only [bq,reduceCtorEq] at hb)<;>(try omega))|refine andS ?_|fail)
 ·have g4:=zF8 (g2 (by omega)) (g3 (by omega))
  refine ⟨by unfold InR; omega,by unfold InR; omega,?_⟩
  repeat' (first|(refine goK (by assumption) ?_; iterate 4 (try clear hK K))|(refine zAa hE rfl ?_; simp +contextual only [hnl,↓kA,push_cast,seval,reduceCtorEq,cI])|refine andS ?_|fail)
  refine hL2 _ (k+1) (by omega) (by omega) ?_
  refine zAf ?_ ?_ ?_<;>simp only [push_cast,seval,reduceCtorEq,cI]
  rw [dotK,Int.add_assoc]
 ·obtain rfl:k=b.length:=by omega
  rfl
end Go.Proofs.YtekfodeknpnkbaaGreatDoor
namespace Go.Proofs.YtekfodeknpnkbaaGreatDoor
open Go.RowKit Go.VS Go.OT
def zBq (a b:List Int) (c:List (List Int)) (w:Int):Int:=if errWd a b c w=0 then zB0 a b c w else 0
def zHo (a b:List Int) (c:List (List Int)) (w:Int):List (List Int):=if errWd a b c w=0 then stepP a b c (fewK a b c w) else []
@[push_cast] def zKS:Con:=⟨[.dat (.sl .int),.dat (.sl .int),.dat (.sl (.sl .int)),.dat .int],fun _=>True,fun (x:List Int×List Int×List (List Int)×Int×Unit)=>{res:=[.val .int (zBq x.1 x.2.1 x.2.2.1 x.2.2.2.1),.val .int (errWd x.1 x.2.1 x.2.2.1 x.2.2.2.1)]}⟩
@[push_cast] def zRi:Con:=⟨[.dat (.sl .int),.dat (.sl .int),.dat (.sl (.sl .int)),.dat .int],fun _=>True,fun (x:List Int×List Int×List (List Int)×Int×Unit)=>{res:=[.val (.sl (.sl .int)) (zHo x.1 x.2.1 x.2.2.1 x.2.2.2.1),.val .int (errWd x.1 x.2.1 x.2.2.1 x.2.2.2.1)]}⟩
theorem zMF:FnSpec Tryz.prog 29 zKS:=by
 refine FnSpec.of_tri' (E:=know _ [] [] []) (zAl (kc zEf (kc zMI all_nil)) all_nil all_nil) Tryz.func29 rfl rfl kr ?_
 intro C x hE hnl hfit hpre
 simp only [Tryz.ntmps29,Tryz.results29,maxLen,seval,push_cast] at hnl hfit hpre ⊢
 obtain ⟨(a:List Int),(b:List Int),(c:List (List Int)),(w:Int),_⟩:=x
 dsimp only at hfit hpre ⊢
 by_cases he:errWd a b c w=0
 ·have h1:=zCn he
  have h3:zBq a b c w=zB0 a b c w:=ah he
  replace hnl:=aa hnl (aa he (aa h3 (aa h1.1 h1.2)))
  exact auB
 ·have h3:zBq a b c w=0:=ae he
  replace hnl:=aa hnl (aa h3 (aB he))
  exact auB
theorem zME:FnSpec Tryz.prog 74 zRi:=by
 refine FnSpec.of_tri' (E:=know _ [] [] []) (zAl (kc zEf (kc zHC all_nil)) all_nil all_nil) Tryz.func74 rfl rfl kr ?_
 intro C x hE hnl hfit hpre
 simp only [Tryz.ntmps74,Tryz.results74,maxLen,seval,push_cast] at hnl hfit hpre ⊢
 obtain ⟨(a:List Int),(b:List Int),(c:List (List Int)),(w:Int),_⟩:=x
 dsimp only at hfit hpre ⊢
 by_cases he:errWd a b c w=0
 ·have h1:=zCn he
  have hm:=h1.1.mc
  have h3:zHo a b c w=stepP a b c (fewK a b c w):=ah he
  replace hnl:=aa hnl (aa he (aa h3 (aa hm h1.2)))
  exact auB
 ·have h3:zHo a b c w=[]:=ae he
  replace hnl:=aa hnl (aa h3 (aB he))
  exact auB
end Go.Proofs.YtekfodeknpnkbaaGreatDoor
namespace Go.Proofs.YtekfodeknpnkbaaGreatDoor
open Go.RowKit Go.VS
abbrev Line:=ByteArray×Int
def lineV (before:Int) (x:Line):ByteArray:=itoaV (sumV before (textV x.2 x.1))++spS++textV x.2 x.1
structure LinePre (x:Line):Prop where
 order:x.1.size<=1000
 least:InR x.2
abbrev State:=List (List Int)×List Int×List Int×Int
@[push_cast] def zDJ:Con:=⟨[.dat (.prod (.sl (.sl .int)) (.prod (.sl .int) (.prod (.sl .int) .int)))],fun _=>True,fun (x:State×Unit)=>{res:=[.val .int (zBq x.1.2.1 x.1.2.2.1 x.1.1 x.1.2.2.2)]}⟩
theorem zFo:FnSpec Tryz.prog 57 zDJ:=by
 refine FnSpec.of_tri' (E:=know _ [] [] []) (zAl (kc zMF all_nil) all_nil all_nil) Tryz.func57 rfl rfl kr ?_
 intro C x hE hnl hfit hpre
 simp only [Tryz.ntmps57,Tryz.results57,maxLen,seval,push_cast] at hnl hfit hpre ⊢
 obtain ⟨⟨(c:List (List Int)),(a:List Int),(b:List Int),(w:Int)⟩,_⟩:=x
 dsimp only at hfit hpre ⊢
 exact auC
end Go.Proofs.YtekfodeknpnkbaaGreatDoor
namespace Go.Proofs.YtekfodeknpnkbaaGreatDoor
open Go.RowKit Go.VS
theorem zSx {C:Ctx} {f:FuncId} {fn:Func} {code:Code} {s0:AS} {γ:Gam} {w:World} {vs:List Value} {Q:Exit->AS->Prop} (hf:C.P.funcs[f]?=some fn) (hb:fn.body=some code) (hds:C.ds=[]) (hle:vs.length<=fn.ntmps)
 (hr:Rel C γ s0 {tmps:=vs.toArray++Array.replicate (fn.ntmps - vs.length) undef,defers:=[]} w) (h:tri C fn.ntmps code Q s0) (hQ:∀ e s,Q e s->e=.normal\/e=.ret) {R:Ending->World->Prop}
 (hR:∀ e s' γ' a' w',Rel C γ' s' a' w'->Q e s'->∃ v,(results fn a'.tmps).run C.P w'=.ok v w'/\R (.returned v) w'):Calls C.P f vs.toArray w R:=by
 refine calls_of_wp hf hb ?_
 refine wp_mono (h.run γ _ _ hr (by simp; omega)) ?_
 rintro e a' w' ⟨s',γ',h1,h2,h3⟩
 obtain ⟨v,k1,k2⟩:=hR e s' γ' a' w' h1 h3
 rcases hQ e s' h3 with rfl|rfl
 ·exact ⟨h1.defers.1.trans hds,v,k1,k2⟩
 ·exact ⟨h1.defers.1.trans hds,v,k1,k2⟩
def doV (k:Nat) (l:List Int) (s:State):Int×State :=
 if k=0 then (chgE s.2.1 (l.getD 0 0) (l.getD 1 0) (l.getD 1 0),s.1,chgL s.2.1 (l.getD 0 0) (l.getD 1 0) (l.getD 1 0),s.2.2)
 else if k=1 then (chgE s.2.1 (l.getD 0 0) (l.getD 1 0) (-(l.getD 1 0)),s.1,chgL s.2.1 (l.getD 0 0) (l.getD 1 0) (-(l.getD 1 0)),s.2.2)
 else if k=2 then (chgE s.2.2.1 (l.getD 0 0) (l.getD 1 0) (l.getD 1 0),s.1,s.2.1,chgL s.2.2.1 (l.getD 0 0) (l.getD 1 0) (l.getD 1 0),s.2.2.2)
 else if k=3 then (chgE s.2.2.1 (l.getD 0 0) (l.getD 1 0) (-(l.getD 1 0)),s.1,s.2.1,chgL s.2.2.1 (l.getD 0 0) (l.getD 1 0) (-(l.getD 1 0)),s.2.2.2)
 else if k=4 then (if (s.2.1.length:Int)<=l.getD 0 0\/(s.2.2.1.length:Int)<=l.getD 1 0 then (4,s) else if 99<l.getD 2 0 then (1,s) else (0,s.1.set (l.getD 0 0).toNat ((s.1.getD (l.getD 0 0).toNat []).set (l.getD 1 0).toNat (l.getD 2 0)),s.2))
 else if k=5 then (if 99<l.getD 0 0 then (1,s) else (0,s.1,s.2.1,s.2.2.1,l.getD 0 0))
 else (if zBq s.2.1 s.2.2.1 s.1 s.2.2.2=l.getD 0 0 then (0,s) else (7,s))
theorem doV4 (l:List Int) (c:List (List Int)) (a b:List Int) (w:Int):doV 4 l (c,a,b,w)=if (a.length:Int)<=l.getD 0 0\/(b.length:Int)<=l.getD 1 0 then (4,(c,a,b,w)) else if 99<l.getD 2 0 then (1,(c,a,b,w)) else (0,(c.set (l.getD 0 0).toNat ((c.getD (l.getD 0 0).toNat []).set (l.getD 1 0).toNat (l.getD 2 0)),a,b,w)):=rfl
theorem doV5 (l:List Int) (c:List (List Int)) (a b:List Int) (w:Int):doV 5 l (c,a,b,w)=if 99<l.getD 0 0 then (1,(c,a,b,w)) else (0,(c,a,b,l.getD 0 0)):=rfl
theorem doV6 (l:List Int) (c:List (List Int)) (a b:List Int) (w:Int):doV 6 l (c,a,b,w)=if zBq a b c w=l.getD 0 0 then (0,(c,a,b,w)) else (7,(c,a,b,w)):=rfl
structure DoPre (k:Nat) (l:List Int) (s:State):Prop where
 kind:k<=6
 len:l.length=if k=4 then 3 else if k<=3 then 2 else 1
 num:∀ i,i<l.length->0<=l.getD i 0/\l.getD i 0<=99999
 tab:InTab 0 99 s.1
 la:s.2.1.length=s.1.length
 lb:s.2.2.1.length=wid s.1
 a:∀ i,i<s.2.1.length->0<=s.2.1.getD i 0/\s.2.1.getD i 0<=30
 b:∀ i,i<s.2.2.1.length->0<=s.2.2.1.getD i 0/\s.2.2.1.getD i 0<=30
def doIn (k:Nat) (l:List Int) (s:State):AS:=AS.of [(0,.one (.box 0)),(1,.one (.val .int (k:Int))),(2,.one (.val (.sl .int) l))] [(1,.deep 38 3 .int s.1),(2,.flat 3 .int s.2.1),(3,.flat 3 .int s.2.2.1)] [(0,.rcd [.ref 1,.ref 2,.ref 3,.val .int s.2.2.2])]
def doOut (k:Nat) (l:List Int) (s:State):AS:=AS.of [(6,.one (.val (.err 147) (doV k l s).1))] [] [(0,.rcd [.val (.sl (.sl .int)) (doV k l s).2.1,.val (.sl .int) (doV k l s).2.2.1,.val (.sl .int) (doV k l s).2.2.2.1,.val .int (doV k l s).2.2.2.2])]
structure DoQ (nl:Nat) (k:Nat) (l:List Int) (s:State) (e:Exit) (t:AS):Prop where
 e:e=.normal\/e=.ret
 h:Weak nl t (doOut k l s)
def zWY:Know:=know [(104,zQz),(57,zDJ)] []
theorem zQR:KnowOK Tryz.prog zWY:=zAl (all_cons zS5 (all_cons zFo all_nil)) all_nil all_nil
set_option maxHeartbeats 4000000 in
theorem zW1 {C:Ctx} (hP:C.P=Tryz.prog) (hE:KnowOK C.P (know [(104,zQz),(57,zDJ)] [])) (hnl:C.nl=4) (k:Nat) (l:List Int) (s:State) (hpre:DoPre k l s) {code:Code} (hb:Tryz.f55.body=some code) :
 tri C 146 code (DoQ 4 k l s) (doIn k l s):=by
 obtain ⟨c,a,b,wst⟩:=s
 obtain ⟨hk,hl,hn,ht,hla,hlb,ha,hbb⟩:=hpre
 dsimp only at *
 unfold doIn
 dsimp only
 have hb':code=(Tryz.f55.body).getD .skip:=by rw [hb]; rfl
 subst hb'
 clear hb
 show tri C 146 _ _ _
 dsimp only [Tryz.f55]
 simp only [bB]
 have hn0:=hn 0
 have hn1:=hn 1
 have hrs:=ht.rows
 have hcs:=ht.cols
 obtain rfl|rfl|rfl|rfl|rfl|rfl|rfl:k=0\/k=1\/k=2\/k=3\/k=4\/k=5\/k=6:=by omega
 ·have hl':l.length=2:=hl
  have hp:ChgPre (.flat 3 .int a) (l.getD 0 0) (l.getD 1 0):=⟨by rw [zAU],by rw [zAU]; omega,by rw [zAU]; exact ha,by have:=hn0 (by omega); omega,by have:=hn1 (by omega); omega⟩
  have e:doV 0 l (c,a,b,wst)=(chgE a (l.getD 0 0) (l.getD 1 0) (l.getD 1 0),c,chgL a (l.getD 0 0) (l.getD 1 0) (l.getD 1 0),b,wst):=rfl
  replace hnl:=aa hnl (aa (aG hp) hl')
  repeat' (first|(refine zAd hE 2 rfl rfl (by decide +kernel) ?_; simp only [ao,List.length_nil,Nat.reduceAdd,Nat.reduceSub,ak,List.take_zero,al,ar]; simp +contextual only [hnl,↓kA,push_cast,seval,reduceCtorEq])|(first|(refine goK (by assumption) ?_; iterate 4 (try clear hK K))|(refine zAb fun K hK=>?_)|((first|refine zAa hE rfl ?_|refine zAi ?_|((first|refine zAd hE 1 rfl rfl kr ?_|refine zAd hE 2 rfl rfl kr ?_|refine zAd hE 3 rfl rfl kr ?_|refine zAd hE 4 rfl rfl kr ?_); simp only [ao,List.length_nil,Nat.reduceAdd,Nat.reduceSub,ak,List.take_zero,al,ar])); simp +contextual only [hnl,↓kA,push_cast,seval,reduceCtorEq])|refine zAc ?_|((first|refine zAg ?_|refine zAj ?_); simp only [thenQ,zAh,if_true,if_false,Nat.reduceEqDiff,reduceCtorEq])|(refine zAe (by rfl) (fun hb=>?_) (fun hb=>?_)<;>(try simp only [bq,reduceCtorEq] at hb)<;>(try omega))|refine zAF (by rfl) ?_ ?_|refine andS ?_|(refine ⟨fun hc=>?_,fun hc=>?_⟩)|(intro hc; try omega)))
  all_goals ((try refine zAi ?_); refine ⟨.inr rfl,?_⟩; unfold doOut; rw [e]; dsimp only; refine zAf ?_ ?_ ?_<;>simp only [push_cast,seval,reduceCtorEq])
 ·have hl':l.length=2:=hl
  have hp:ChgPre (.flat 3 .int a) (l.getD 0 0) (-(l.getD 1 0)):=⟨by rw [zAU],by rw [zAU]; omega,by rw [zAU]; exact ha,by have:=hn0 (by omega); omega,by have:=hn1 (by omega); omega⟩
  have e:doV 1 l (c,a,b,wst)=(chgE a (l.getD 0 0) (l.getD 1 0) (-(l.getD 1 0)),c,chgL a (l.getD 0 0) (l.getD 1 0) (-(l.getD 1 0)),b,wst):=rfl
  replace hnl:=aa hnl (aa (aG hp) hl')
  repeat' (first|(refine zAd hE 2 rfl rfl (by decide +kernel) ?_; simp only [ao,List.length_nil,Nat.reduceAdd,Nat.reduceSub,ak,List.take_zero,al,ar]; simp +contextual only [hnl,↓kA,push_cast,seval,reduceCtorEq])|(first|(refine goK (by assumption) ?_; iterate 4 (try clear hK K))|(refine zAb fun K hK=>?_)|((first|refine zAa hE rfl ?_|refine zAi ?_|((first|refine zAd hE 1 rfl rfl kr ?_|refine zAd hE 2 rfl rfl kr ?_|refine zAd hE 3 rfl rfl kr ?_|refine zAd hE 4 rfl rfl kr ?_); simp only [ao,List.length_nil,Nat.reduceAdd,Nat.reduceSub,ak,List.take_zero,al,ar])); simp +contextual only [hnl,↓kA,push_cast,seval,reduceCtorEq])|refine zAc ?_|((first|refine zAg ?_|refine zAj ?_); simp only [thenQ,zAh,if_true,if_false,Nat.reduceEqDiff,reduceCtorEq])|(refine zAe (by rfl) (fun hb=>?_) (fun hb=>?_)<;>(try simp only [bq,reduceCtorEq] at hb)<;>(try omega))|refine zAF (by rfl) ?_ ?_|refine andS ?_|(refine ⟨fun hc=>?_,fun hc=>?_⟩)|(intro hc; try omega)))
  all_goals ((try refine zAi ?_); refine ⟨.inr rfl,?_⟩; unfold doOut; rw [e]; dsimp only; refine zAf ?_ ?_ ?_<;>simp only [push_cast,seval,reduceCtorEq])
 ·have hl':l.length=2:=hl
  have hp:ChgPre (.flat 3 .int b) (l.getD 0 0) (l.getD 1 0):=⟨by rw [zAU],by rw [zAU]; omega,by rw [zAU]; exact hbb,by have:=hn0 (by omega); omega,by have:=hn1 (by omega); omega⟩
  have e:doV 2 l (c,a,b,wst)=(chgE b (l.getD 0 0) (l.getD 1 0) (l.getD 1 0),c,a,chgL b (l.getD 0 0) (l.getD 1 0) (l.getD 1 0),wst):=rfl
  replace hnl:=aa hnl (aa (aG hp) hl')
  repeat' (first|(refine zAd hE 2 rfl rfl (by decide +kernel) ?_; simp only [ao,List.length_nil,Nat.reduceAdd,Nat.reduceSub,ak,List.take_zero,al,ar]; simp +contextual only [hnl,↓kA,push_cast,seval,reduceCtorEq])|(first|(refine goK (by assumption) ?_; iterate 4 (try clear hK K))|(refine zAb fun K hK=>?_)|((first|refine zAa hE rfl ?_|refine zAi ?_|((first|refine zAd hE 1 rfl rfl kr ?_|refine zAd hE 2 rfl rfl kr ?_|refine zAd hE 3 rfl rfl kr ?_|refine zAd hE 4 rfl rfl kr ?_); simp only [ao,List.length_nil,Nat.reduceAdd,Nat.reduceSub,ak,List.take_zero,al,ar])); simp +contextual only [hnl,↓kA,push_cast,seval,reduceCtorEq])|refine zAc ?_|((first|refine zAg ?_|refine zAj ?_); simp only [thenQ,zAh,if_true,if_false,Nat.reduceEqDiff,reduceCtorEq])|(refine zAe (by rfl) (fun hb=>?_) (fun hb=>?_)<;>(try simp only [bq,reduceCtorEq] at hb)<;>(try omega))|refine zAF (by rfl) ?_ ?_|refine andS ?_|(refine ⟨fun hc=>?_,fun hc=>?_⟩)|(intro hc; try omega)))
  all_goals ((try refine zAi ?_); refine ⟨.inr rfl,?_⟩; unfold doOut; rw [e]; dsimp only; refine zAf ?_ ?_ ?_<;>simp only [push_cast,seval,reduceCtorEq])
 ·have hl':l.length=2:=hl
  have hp:ChgPre (.flat 3 .int b) (l.getD 0 0) (-(l.getD 1 0)):=⟨by rw [zAU],by rw [zAU]; omega,by rw [zAU]; exact hbb,by have:=hn0 (by omega); omega,by have:=hn1 (by omega); omega⟩
  have e:doV 3 l (c,a,b,wst)=(chgE b (l.getD 0 0) (l.getD 1 0) (-(l.getD 1 0)),c,a,chgL b (l.getD 0 0) (l.getD 1 0) (-(l.getD 1 0)),wst):=rfl
  replace hnl:=aa hnl (aa (aG hp) hl')
  repeat' (first|(refine zAd hE 2 rfl rfl (by decide +kernel) ?_; simp only [ao,List.length_nil,Nat.reduceAdd,Nat.reduceSub,ak,List.take_zero,al,ar]; simp +contextual only [hnl,↓kA,push_cast,seval,reduceCtorEq])|(first|(refine goK (by assumption) ?_; iterate 4 (try clear hK K))|(refine zAb fun K hK=>?_)|((first|refine zAa hE rfl ?_|refine zAi ?_|((first|refine zAd hE 1 rfl rfl kr ?_|refine zAd hE 2 rfl rfl kr ?_|refine zAd hE 3 rfl rfl kr ?_|refine zAd hE 4 rfl rfl kr ?_); simp only [ao,List.length_nil,Nat.reduceAdd,Nat.reduceSub,ak,List.take_zero,al,ar])); simp +contextual only [hnl,↓kA,push_cast,seval,reduceCtorEq])|refine zAc ?_|((first|refine zAg ?_|refine zAj ?_); simp only [thenQ,zAh,if_true,if_false,Nat.reduceEqDiff,reduceCtorEq])|(refine zAe (by rfl) (fun hb=>?_) (fun hb=>?_)<;>(try simp only [bq,reduceCtorEq] at hb)<;>(try omega))|refine zAF (by rfl) ?_ ?_|refine andS ?_|(refine ⟨fun hc=>?_,fun hc=>?_⟩)|(intro hc; try omega)))
  all_goals ((try refine zAi ?_); refine ⟨.inr rfl,?_⟩; unfold doOut; rw [e]; dsimp only; refine zAf ?_ ?_ ?_<;>simp only [push_cast,seval,reduceCtorEq])
 ·have hl':l.length=3:=hl
  have hn2:=hn 2
  by_cases h1:(a.length:Int)<=l.getD 0 0\/(b.length:Int)<=l.getD 1 0
  ·have e:doV 4 l (c,a,b,wst)=(4,(c,a,b,wst)):=by rw [doV4,ah h1]
   replace hnl:=aa hnl hl'
   repeat' (first|(refine goK (by assumption) ?_; iterate 4 (try clear hK K))|(refine zAb fun K hK=>?_)|((first|refine zAa hE rfl ?_|refine zAi ?_|((first|refine zAd hE 1 rfl rfl kr ?_|refine zAd hE 2 rfl rfl kr ?_|refine zAd hE 3 rfl rfl kr ?_|refine zAd hE 4 rfl rfl kr ?_); simp only [ao,List.length_nil,Nat.reduceAdd,Nat.reduceSub,ak,List.take_zero,al,ar])); simp +contextual only [hnl,↓kA,push_cast,seval,reduceCtorEq])|refine zAc ?_|(refine zAe (by rfl) (fun hb=>?_) (fun hb=>?_)<;>(try simp only [bq,reduceCtorEq] at hb)<;>(try omega))|(refine ⟨fun hc=>?_,fun hc=>?_⟩)|fail)
   all_goals ((try refine zAi ?_); refine ⟨.inr rfl,?_⟩; unfold doOut; rw [e]; dsimp only; refine zAf ?_ ?_ ?_<;>simp only [push_cast,seval,reduceCtorEq])
  by_cases h2:99<l.getD 2 0
  ·have e:doV 4 l (c,a,b,wst)=(1,(c,a,b,wst)):=by rw [doV4,ae h1,ah h2]
   replace hnl:=aa hnl hl'
   repeat' (first|(refine goK (by assumption) ?_; iterate 4 (try clear hK K))|(refine zAb fun K hK=>?_)|((first|refine zAa hE rfl ?_|refine zAi ?_|((first|refine zAd hE 1 rfl rfl kr ?_|refine zAd hE 2 rfl rfl kr ?_|refine zAd hE 3 rfl rfl kr ?_|refine zAd hE 4 rfl rfl kr ?_); simp only [ao,List.length_nil,Nat.reduceAdd,Nat.reduceSub,ak,List.take_zero,al,ar])); simp +contextual only [hnl,↓kA,push_cast,seval,reduceCtorEq])|refine zAc ?_|(refine zAg ?_; simp only [thenQ,zAh,if_true,if_false,Nat.reduceEqDiff,reduceCtorEq])|(refine zAe (by rfl) (fun hb=>?_) (fun hb=>?_)<;>(try simp only [bq,reduceCtorEq] at hb)<;>(try omega))|(refine ⟨fun hc=>?_,fun hc=>?_⟩)|fail)
   all_goals ((try refine zAi ?_); refine ⟨.inr rfl,?_⟩; unfold doOut; rw [e]; dsimp only; refine zAf ?_ ?_ ?_<;>simp only [push_cast,seval,reduceCtorEq])
  ·have e:doV 4 l (c,a,b,wst)=(0,(c.set (l.getD 0 0).toNat ((c.getD (l.getD 0 0).toNat []).set (l.getD 1 0).toNat (l.getD 2 0)),a,b,wst)):=by rw [doV4,ae h1,ae h2]
   have q0:=hn0 (by omega)
   have q1:=hn1 (by omega)
   have hrl:=ht.len (show (l.getD 0 0).toNat<c.length by omega)
   replace hnl:=aa hnl (aa hl' hrl)
   repeat' (first|(refine goK (by assumption) ?_; iterate 4 (try clear hK K))|(refine zAb fun K hK=>?_)|((first|refine zAa hE rfl ?_|refine zAi ?_|((first|refine zAd hE 1 rfl rfl kr ?_|refine zAd hE 2 rfl rfl kr ?_|refine zAd hE 3 rfl rfl kr ?_|refine zAd hE 4 rfl rfl kr ?_); simp only [ao,List.length_nil,Nat.reduceAdd,Nat.reduceSub,ak,List.take_zero,al,ar])); simp +contextual only [hnl,↓kA,push_cast,seval,reduceCtorEq])|refine zAc ?_|(refine zAg ?_; simp only [thenQ,zAh,if_true,if_false,Nat.reduceEqDiff,reduceCtorEq])|(refine zAe (by rfl) (fun hb=>?_) (fun hb=>?_)<;>(try simp only [bq,reduceCtorEq] at hb)<;>(try omega))|refine andS ?_|(refine ⟨fun hc=>?_,fun hc=>?_⟩)|fail)
   all_goals ((try refine zAi ?_); refine ⟨.inr rfl,?_⟩; unfold doOut; rw [e]; dsimp only; refine zAf ?_ ?_ ?_<;>simp only [push_cast,seval,reduceCtorEq]; exact ⟨_,rfl⟩)
 ·have hl':l.length=1:=hl
  by_cases h1:99<l.getD 0 0
  ·have e:doV 5 l (c,a,b,wst)=(1,(c,a,b,wst)):=by rw [doV5,ah h1]
   replace hnl:=aa hnl hl'
   repeat' (first|(refine goK (by assumption) ?_; iterate 4 (try clear hK K))|(refine zAb fun K hK=>?_)|((first|refine zAa hE rfl ?_|refine zAi ?_); simp +contextual only [hnl,↓kA,push_cast,seval,reduceCtorEq])|refine zAc ?_|(refine zAe (by rfl) (fun hb=>?_) (fun hb=>?_)<;>(try simp only [bq,reduceCtorEq] at hb)<;>(try omega))|fail)
   all_goals ((try refine zAi ?_); refine ⟨.inr rfl,?_⟩; unfold doOut; rw [e]; dsimp only; refine zAf ?_ ?_ ?_<;>simp only [push_cast,seval,reduceCtorEq])
  ·have e:doV 5 l (c,a,b,wst)=(0,(c,a,b,l.getD 0 0)):=by rw [doV5,ae h1]
   replace hnl:=aa hnl hl'
   repeat' (first|(refine goK (by assumption) ?_; iterate 4 (try clear hK K))|(refine zAb fun K hK=>?_)|((first|refine zAa hE rfl ?_|refine zAi ?_); simp +contextual only [hnl,↓kA,push_cast,seval,reduceCtorEq])|refine zAc ?_|(refine zAg ?_; simp only [thenQ,zAh,if_true,if_false,Nat.reduceEqDiff,reduceCtorEq])|(refine zAe (by rfl) (fun hb=>?_) (fun hb=>?_)<;>(try simp only [bq,reduceCtorEq] at hb)<;>(try omega))|fail)
   all_goals ((try refine zAi ?_); refine ⟨.inr rfl,?_⟩; unfold doOut; rw [e]; dsimp only; refine zAf ?_ ?_ ?_<;>simp only [push_cast,seval,reduceCtorEq]; exact ⟨_,rfl⟩)
 ·have hl':l.length=1:=hl
  refine zAr (t:=AS.of [(0,.one (.box 0)),(1,.one (.val .int ((6:Nat):Int))),(2,.one (.val (.sl .int) l))] [] [(0,.rcd [.val (.sl (.sl .int)) c,.val (.sl .int) a,.val (.sl .int) b,.val .int wst])]) (by refine zAf ?_ ?_ ?_<;>simp only [push_cast,seval,reduceCtorEq]) ?_
  by_cases h1:zBq a b c wst=l.getD 0 0
  ·have e:doV 6 l (c,a,b,wst)=(0,(c,a,b,wst)):=by rw [doV6,ah h1]
   replace hnl:=aa hnl (aa hl' h1)
   repeat' (first|(refine goK (by assumption) ?_; iterate 4 (try clear hK K))|(refine zAb fun K hK=>?_)|((first|refine zAa hE rfl ?_|refine zAi ?_|((first|refine zAd hE 1 rfl rfl kr ?_|refine zAd hE 2 rfl rfl kr ?_|refine zAd hE 3 rfl rfl kr ?_|refine zAd hE 4 rfl rfl kr ?_); simp only [ao,List.length_nil,Nat.reduceAdd,Nat.reduceSub,ak,List.take_zero,al,ar])); simp +contextual only [hnl,↓kA,push_cast,seval,reduceCtorEq])|refine zAc ?_|(refine zAg ?_; simp only [thenQ,zAh,if_true,if_false,Nat.reduceEqDiff,reduceCtorEq])|(refine zAe (by rfl) (fun hb=>?_) (fun hb=>?_)<;>(try simp only [bq,reduceCtorEq] at hb)<;>(try omega))|fail)
   all_goals ((try refine zAi ?_); refine ⟨.inr rfl,?_⟩; unfold doOut; rw [e]; dsimp only; refine zAf ?_ ?_ ?_<;>simp only [push_cast,seval,reduceCtorEq]; exact ⟨_,rfl⟩)
  ·have e:doV 6 l (c,a,b,wst)=(7,(c,a,b,wst)):=by rw [doV6,ae h1]
   replace hnl:=aa hnl (aa hl' (aB h1))
   repeat' (first|(refine goK (by assumption) ?_; iterate 4 (try clear hK K))|(refine zAb fun K hK=>?_)|((first|refine zAa hE rfl ?_|refine zAi ?_|((first|refine zAd hE 1 rfl rfl kr ?_|refine zAd hE 2 rfl rfl kr ?_|refine zAd hE 3 rfl rfl kr ?_|refine zAd hE 4 rfl rfl kr ?_); simp only [ao,List.length_nil,Nat.reduceAdd,Nat.reduceSub,ak,List.take_zero,al,ar])); simp +contextual only [hnl,↓kA,push_cast,seval,reduceCtorEq])|refine zAc ?_|(refine zAe (by rfl) (fun hb=>?_) (fun hb=>?_)<;>(try simp only [bq,reduceCtorEq] at hb)<;>(try omega))|fail)
   all_goals ((try refine zAi ?_); refine ⟨.inr rfl,?_⟩; unfold doOut; rw [e]; dsimp only; refine zAf ?_ ?_ ?_<;>simp only [push_cast,seval,reduceCtorEq])
end Go.Proofs.YtekfodeknpnkbaaGreatDoor
namespace Go.Proofs.YtekfodeknpnkbaaGreatDoor
open Go.RowKit Go.VS
def zCR (s:ByteArray) (y:Nat):Nat->Nat->Nat
 | 0,_=>s.size
 | n+1,k=>if byteV s k=y then k else zCR s y n (k+1)
def cutI (s:ByteArray) (y:Nat):Nat:=zCR s y s.size 0
def zAM (s:ByteArray) (y:Nat):Bool:=decide (cutI s y<s.size)
def rcut1 (s:ByteArray) (y:Nat):ByteArray:=if zAM s y=true then s.extract 0 (cutI s y) else s
def rcut2 (s:ByteArray) (y:Nat):ByteArray:=if zAM s y=true then s.extract (cutI s y+1) s.size else ByteArray.empty
end Go.Proofs.YtekfodeknpnkbaaGreatDoor
namespace Go.Proofs.YtekfodeknpnkbaaGreatDoor
open Go.RowKit Go.VS
def zRS (book:ByteArray):ByteArray:=rcut1 book 10
def zRR (book:ByteArray):ByteArray:=rcut2 (rcut1 book 10) 32
def zI1 (book:ByteArray):ByteArray:=rcut1 (rcut2 (rcut1 book 10) 32) 32
def zGm (book:ByteArray):ByteArray:=rcut2 (rcut2 (rcut1 book 10) 32) 32
def zI0 (book:ByteArray):Line:=(zGm book,numRV (zI1 book))
def nxIs (book:ByteArray):Bool:=zBu (zI1 book) && decide (numRV (zI1 book)<=999999)
def zRQ (book:ByteArray):Bool:=zAM book 10 && (zAM (zRS book) 32 && (zAM (zRR book) 32 && (nxIs book && decide (1<=((zGm book).size:Int)/\((zGm book).size:Int)<=30))))
end Go.Proofs.YtekfodeknpnkbaaGreatDoor
namespace Go.Proofs.YtekfodeknpnkbaaGreatDoor
open Go.RowKit Go.VS
def nxOK (b:ByteArray) (s:Int):Bool:=zRQ b && decide (lineV s (zI0 b)=zRS b)
def nxSum (b:ByteArray) (s:Int):Int:=sumV s (textV (numRV (zI1 b)) (zGm b))
def zFN:Nat->ByteArray->Int->List Line×ByteArray
 | 0,b,_=>([],b)
 | n+1,b,s=>if nxOK b s=true then (zI0 b::(zFN n (rcut2 b 10) (nxSum b s)).1,(zFN n (rcut2 b 10) (nxSum b s)).2) else ([],b)
theorem zPk {n:Nat} {b:ByteArray} {s:Int} (h:nxOK b s=true):zFN (n+1) b s=(zI0 b::(zFN n (rcut2 b 10) (nxSum b s)).1,(zFN n (rcut2 b 10) (nxSum b s)).2):=ah h
theorem zMH {n:Nat} {b:ByteArray} {s:Int} (h:¬nxOK b s=true):zFN n b s=([],b):=by
 cases n with
 | zero=>rfl
 | succ n=>exact ae h
end Go.Proofs.YtekfodeknpnkbaaGreatDoor
namespace Go.Proofs.YtekfodeknpnkbaaGreatDoor
open Go.RowKit Go.VS Go.ChangeMaps Go.MapKept
def formsL:List (ByteArray×Int×Int):=[(pPut,0,2),(pTake,1,2),(pWant,2,2),(pDrop,3,2),(pCost,4,3),(zHP,5,1),(zHO,6,1)]
structure MapAt (w0 w:World) (b:Nat) (l:List (ByteArray×Int×Int)):Prop where
 new:w0.heap.size<=b
 keep:Keep (fun _=>False) w0 w
 at':∃ es clock,w.heap[b]?=some (.map es clock)/\MapIs es l
theorem zRB (w:World):MapAt w (w.alloc (.map #[] 0)) w.heap.size [] :=
 ⟨ap _,⟨rfl,rfl,rfl,by simp,fun k hk _=>Below.heap_alloc w _ k hk⟩,#[],0,heap_alloc_new w _,rfl⟩
theorem zVM {P:Program} {t k e:TypeId} (ht:P.underlying t=some (.map k e)) (hk:P.underlying k=some .string) {w0 w:World} {b:Nat} {l:List (ByteArray×Int×Int)} (h:MapAt w0 w b l) (s:ByteArray) (y:Int×Int) (hs:smHas l s=false) :
 ∃ w',(Instr.mapUpdate t (.map (some b)) (.string s) (.agg #[.int .i64 y.1,.int .i64 y.2])).run P w=.ok () w'/\MapAt w0 w' b (l++[(s,y)]):=by
 obtain ⟨h1,h2,es,cl,hb,hm⟩:=h
 have hck:(Instr.checkKey false 10000 k (.string s)).run P w=.ok () w:=by rw [show (10000:Nat)=9999+1 from rfl]; unfold Instr.checkKey; simp only [aJ,aH hk,az,bo]
 have hf:Instr.findNow .string (.string s) es.toList 0=some none:=by
  rcases zFk s es.toList l 0 hm with ⟨h5,_⟩|⟨j,p,_,h6⟩
  ·exact h5
  ·rw [smHas,h6] at hs; cases hs
 have hfind:(Instr.findKey k (.string s) es.toList).run P w=.ok none w:=by
  simp only [Instr.findKey,aJ,aH hk,az,hf,bo]
 refine ⟨setBlock w b (.map (es.push ⟨.string s,.agg #[.int .i64 y.1,.int .i64 y.2],cl⟩) (cl+1)),?_,h1,?_,_,_,heap_setBlock_same hb _,?_⟩
 ·have hset:(setObj b (.map (es.push ⟨.string s,.agg #[.int .i64 y.1,.int .i64 y.2],cl⟩) (cl+1))).run P w=.ok () (setBlock w b (.map (es.push ⟨.string s,.agg #[.int .i64 y.1,.int .i64 y.2],cl⟩) (cl+1))):=by
   exact run_setObj_map _ hb
  simp only [Instr.mapUpdate,aJ,aH ht,az,run_getObj_map w b es cl hb,hck,hfind]
  exact hset
 ·exact h2.step (M:=fun k=>k=b) ⟨rfl,rfl,rfl,by simp [setBlock],fun k hk hne=>heap_setBlock_other hb _ hne⟩ (fun k hk hlt=>by omega)
 ·show ((es.push _).toList.map _)=_
  rw [Array.toList_push,bF,bF,hm]
  rfl
theorem zP6 {P:Program} {ops:Array Oper} {rest:List Oper} {o:Oper} {a:Act} {w w0:World} {Q:Exit->Act->World->Prop} (hg:o.guard=none) {t:TypeId} {mo x v:Operand} (hop:o.op=.insert t mo x v) {k e:TypeId}
 (ht:P.underlying t=some (.map k e)) (hk:P.underlying k=some .string) {b:Nat} {s:ByteArray} {n m:Int} {l:List (ByteArray×Int×Int)} (hm:a.eval mo=.map (some b)) (hx:a.eval x=.string s) (hv:a.eval v=.agg #[.int .i64 n,.int .i64 m])
 (h:MapAt w0 w b l) (hs:smHas l s=false) (K:∀ w',MapAt w0 w' b (l++[(s,n,m)])->wpList P ops Q rest (a.put o.dst undef) w'):wpList P ops Q (o::rest) a w:=by
 refine wpList_plain hg fun K' hK'=>?_
 obtain ⟨w',hrun,h'⟩:=zVM ht hk h s (n,m) hs
 unfold Oper.wp
 simp [execOp,hop,hm,hx,hv,hrun,Result.andThen]
 exact hK' _ _ (K w' h')
theorem zO4 (n m:Int) (w:World):(Instr.build 150 #[(0,.int .i64 n),(1,.int .i64 m)]).run Tryz.prog w=.ok (.agg #[.int .i64 n,.int .i64 m]) w:=by kernel_rfl
set_option maxRecDepth 20000 in
set_option maxHeartbeats 1000000 in
theorem zMx (w:World):Calls Tryz.prog 99 #[] w fun e w'=>∃ b,e=.returned (.map (some b))/\MapAt w w' b formsL:=by
 have h0:=zRB w
 have hb:=zO4
 have hmk:=fun w=>run_makeMap (P:=Tryz.prog) 152 w
 go_enter Tryz.func99,Tryz.ntmps99
 go_wp2_with (refine zP6 rfl rfl Tryz.underlying152 Tryz.underlying9 (b:=w.heap.size) rfl rfl rfl (by assumption) (by decide +kernel) ?_; intro w' h0')
 go_ret
 exact ⟨_,rfl,by assumption⟩
@[push_cast] def zTn:Con:=⟨[],fun _=>True,fun _=>{res:=[.val .smap formsL]}⟩
theorem zO6:FnSpec Tryz.prog 99 zTn:=by
 refine zBE ⟨_,Tryz.func99,by kernel_rfl,rfl⟩ (fun _=>rfl) (fun _=>rfl) fun C γ x vs hpre hen=>?_
 have hlt:=hen.ownlt
 have hargs:=hen.args
 obtain rfl:vs=[]:=hargs
 refine (zMx C.w0).mono ?_
 rintro e w' ⟨b,rfl,h1,h2,es,cl,hb,hm⟩
 refine ⟨[_],rfl,⟨_,[],rfl,⟨_,⟨b,es,cl,rfl,⟨.inr (.inl h1),?_⟩,?_,hb,hm⟩,rfl⟩,rfl,rfl,rfl⟩,h2⟩
 ·cases ho:γ.own b with
  | none=>rfl
  | some l=>have:=hlt b l ho; omega
 ·exact (aP.1 hb).1
end Go.Proofs.YtekfodeknpnkbaaGreatDoor
namespace Go.Proofs.YtekfodeknpnkbaaGreatDoor
open Go.RowKit Go.VS
theorem zA2 {x y:Bool} (o:x=true->y=true) (h:y=false):x=false:=by
 cases x with
 | false=>rfl
 | true=>rw [o rfl] at h; cases h
structure StateSz (s:State):Prop where
 c:s.1.length<=1000
 row:∀ k,k<s.1.length->(s.1.getD k []).length<=1000
 a:s.2.1.length<=1000
 b:s.2.2.1.length<=1000
abbrev stSh:Sh:=.prod (.sl (.sl .int)) (.prod (.sl .int) (.prod (.sl .int) .int))
def zCC (s:State):AS:=AS.of [(2,.one (.box 2))] [(27,.deep 38 3 .int s.1),(8,.flat 3 .int s.2.1),(11,.flat 3 .int s.2.2.1)] [(2,.rcd [.ref 27,.ref 8,.ref 11,.val .int s.2.2.2])]
def zJF (s:State):AS:=AS.of [(2,.one (.box 2))] [] [(2,.rcd [.val (.sl (.sl .int)) s.1,.val (.sl .int) s.2.1,.val (.sl .int) s.2.2.1,.val .int s.2.2.2])]
structure CloneQ (nl:Nat) (s:State) (e:Exit) (t:AS):Prop where
 e:e=.normal\/e=.ret
 h:Weak nl t (zCC s)
set_option maxHeartbeats 4000000 in
theorem zKx {C:Ctx} (hE:KnowOK C.P (know [(103,zFC)] [])) (hnl:C.nl=0) (s:State) (hs:StateSz s) {code:Code} (hb:Tryz.f54.body=some code) :
 tri C 31 code (CloneQ 0 s) (AS.of [(0,.one (.val stSh s))] [] []):=by
 obtain ⟨c,a,b,w⟩:=s
 obtain ⟨hc,hrow,ha,hbl⟩:=hs
 dsimp only at *
 have hb':code=(Tryz.f54.body).getD .skip:=by rw [hb]; rfl
 subst hb'
 clear hb
 show tri C 31 _ _ _
 dsimp only [Tryz.f54]
 simp only [bB]
 have hnl0:=hnl
 replace hnl:=aa hnl (aa ha hbl)
 repeat' (first|(refine goK (by assumption) ?_; iterate 4 (try clear hK K))|(refine zAb fun K hK=>?_)|(refine zAa hE rfl ?_; simp +contextual only [hnl,↓kA,push_cast,seval,reduceCtorEq])|refine andS ?_|fail)
 refine zB8 hE (fun D s=>(D 8=true->D 2=true) /\
  (D 8=true->D 5=true) /\
  (D 10=true->D 8=true) /\
  (D 10=true->D 9=true) /\
  s.boxes 1=some (.one (.val (.prod (.sl (.sl .int)) (.prod (.sl .int) (.prod (.sl .int) .int))) (c,a,b,w))) /\
  s.boxes 2=some (.rcd [.nils,.nils,.nils,.val .int 0]) /\
  s.env 1=.one (.box 1) /\
  s.env 2=.one (.box 2) /\
  (D 2=true->s.roots 8=some (.flat 3 .int a)) /\
  (D 5=true->s.roots 11=some (.flat 3 .int b)) /\
  (D 0=true->s.env 6=.one (.boxf 1 4 1 1)) /\
  (D 1=true->s.env 7=.one (.val (.sl .int) a)) /\
  (D 2=true->s.env 8=.one (.ref 8)) /\
  (D 3=true->s.env 9=.one (.boxf 1 4 2 2)) /\
  (D 4=true->s.env 10=.one (.val (.sl .int) b)) /\
  (D 5=true->s.env 11=.one (.ref 11)) /\
  (D 6=true->s.env 12=.one (.boxf 1 4 3 3)) /\
  (D 7=true->s.env 13=.one (.val .int w)) /\
  (D 8=true->s.env 14=.rcd [.nils,.ref 8,.ref 11,.val .int w]) /\
  (D 9=true->s.env 3=.one (.box 3)) /\
  (D 9=true->D 10=false->s.boxes 3=some (.rcd [.nils,.nils,.nils,.val .int 0])) /\
  (D 10=true->s.boxes 3=some (.rcd [.nils,.ref 8,.ref 11,.val .int w]))) rfl kr ?_ ?_ ?_
 ·dsimp only
  simp only [push_cast,seval,reduceCtorEq]
 ·refine ⟨fun D s h0 hp hI=>?_,fun D s h0 hp hI=>?_,fun D s h0 hp hI=>?_,fun D s h0 hp hI=>?_,fun D s h0 hp hI=>?_,fun D s h0 hp hI=>?_,fun D s h0 hp hI=>?_,fun D s h0 hp hI=>?_,fun D s h0 hp hI=>?_,fun D s h0 hp hI=>?_,fun D s h0 hp hI=>?_,trivial⟩
  all_goals obtain ⟨o1,o2,o3,o4,q1,q2,e1,e2,r8,r11,f0,f1,f2,f3,f4,f5,f6,f7,f8,f9,g9,f10⟩:=hI
  all_goals replace hp:=ay.1 hp
  ·simp +contextual only [hnl,h0,o1,o2,o3,o4,q1,q2,e1,e2,r8,r11,f0,f1,f2,f3,f4,f5,f6,f7,f8,f9,g9,f10,setD,↓kN,↓kP,push_cast,seval,reduceCtorEq]
  ·have d0:=hp 0 (by decide)
   simp +contextual only [d0,hnl,h0,o1,o2,o3,o4,q1,q2,e1,e2,r8,r11,f0,f1,f2,f3,f4,f5,f6,f7,f8,f9,g9,f10,setD,↓kN,↓kP,push_cast,seval,reduceCtorEq]
  ·have d1:=hp 1 (by decide)
   have n8:=zA2 o1 h0
   have n10:=zA2 o3 n8
   simp +contextual only [d1,n8,n10,hnl,h0,o1,o2,o3,o4,q1,q2,e1,e2,r8,r11,f0,f1,f2,f3,f4,f5,f6,f7,f8,f9,g9,f10,setD,↓kN,↓kP,push_cast,seval,reduceCtorEq]
  ·simp +contextual only [hnl,h0,o1,o2,o3,o4,q1,q2,e1,e2,r8,r11,f0,f1,f2,f3,f4,f5,f6,f7,f8,f9,g9,f10,setD,↓kN,↓kP,push_cast,seval,reduceCtorEq]
  ·have d3:=hp 3 (by decide)
   simp +contextual only [d3,hnl,h0,o1,o2,o3,o4,q1,q2,e1,e2,r8,r11,f0,f1,f2,f3,f4,f5,f6,f7,f8,f9,g9,f10,setD,↓kN,↓kP,push_cast,seval,reduceCtorEq]
  ·have d4:=hp 4 (by decide)
   have n8:=zA2 o2 h0
   have n10:=zA2 o3 n8
   simp +contextual only [d4,n8,n10,hnl,h0,o1,o2,o3,o4,q1,q2,e1,e2,r8,r11,f0,f1,f2,f3,f4,f5,f6,f7,f8,f9,g9,f10,setD,↓kN,↓kP,push_cast,seval,reduceCtorEq]
  ·simp +contextual only [hnl,h0,o1,o2,o3,o4,q1,q2,e1,e2,r8,r11,f0,f1,f2,f3,f4,f5,f6,f7,f8,f9,g9,f10,setD,↓kN,↓kP,push_cast,seval,reduceCtorEq]
  ·have d6:=hp 6 (by decide)
   simp +contextual only [d6,hnl,h0,o1,o2,o3,o4,q1,q2,e1,e2,r8,r11,f0,f1,f2,f3,f4,f5,f6,f7,f8,f9,g9,f10,setD,↓kN,↓kP,push_cast,seval,reduceCtorEq]
  ·have d2:=hp 2 (by decide)
   have d5:=hp 5 (by decide)
   have d7:=hp 7 (by decide)
   have n10:=zA2 o3 h0
   simp +contextual only [d2,d5,d7,n10,hnl,h0,o1,o2,o3,o4,q1,q2,e1,e2,r8,r11,f0,f1,f2,f3,f4,f5,f6,f7,f8,f9,g9,f10,setD,↓kN,↓kP,push_cast,seval,reduceCtorEq]
  ·have n10:=zA2 o4 h0
   simp +contextual only [n10,hnl,h0,o1,o2,o3,o4,q1,q2,e1,e2,r8,r11,f0,f1,f2,f3,f4,f5,f6,f7,f8,f9,g9,f10,setD,↓kN,↓kP,push_cast,seval,reduceCtorEq]
  ·have d8:=hp 8 (by decide)
   have d9:=hp 9 (by decide)
   simp +contextual only [d8,d9,hnl,h0,o1,o2,o3,o4,q1,q2,e1,e2,r8,r11,f0,f1,f2,f3,f4,f5,f6,f7,f8,f9,g9,f10,setD,↓kN,↓kP,push_cast,seval,reduceCtorEq]
 intro D s hD hI
 obtain ⟨o1,o2,o3,o4,q1,q2,e1,e2,r8,r11,f0,f1,f2,f3,f4,f5,f6,f7,f8,f9,g9,f10⟩:=hI
 have v1:=r8 (hD 2 (by decide))
 have v2:=r11 (hD 5 (by decide))
 have v3:=f10 (hD 10 (by decide))
 have v4:=f9 (hD 9 (by decide))
 refine goK hK ?_
 refine zAr (t:=AS.of [(1,.one (.box 1)),(2,.one (.box 2)),(3,.one (.box 3))] [(8,.flat 3 .int a),(11,.flat 3 .int b)] [(1,.one (.val stSh (c,a,b,w))),(2,.rcd [.nils,.nils,.nils,.val .int 0]),(3,.rcd [.nils,.ref 8,.ref 11,.val .int w])]) ?_ ?_
 ·refine zAf ?_ ?_ ?_<;>simp only [v1,v2,v3,v4,q1,q2,e1,e2,push_cast,seval,reduceCtorEq]
 clear hK hD
 repeat' (first|(refine goK (by assumption) ?_; iterate 4 (try clear hK K))|(refine zAb fun K hK=>?_)|(refine zAa hE rfl ?_; simp +contextual only [hnl,↓kA,push_cast,seval,reduceCtorEq])|refine zAc ?_|fail)
 refine zAk (fun k:Nat=>AS.of [(2,.one (.box 2)),(3,.one (.box 3)),(16,.one (.val (.sl (.sl .int)) c)),(17,.I (c.length:Nat)),(18,.I (k:Nat))] [(27,.deep 38 3 .int (c.take k)),(8,.flat 3 .int a),(11,.flat 3 .int b)] [(2,.rcd [.nils,.nils,.nils,.val .int 0]),(3,.rcd [.ref 27,.ref 8,.ref 11,.val .int w])]) (fun k=>k<=c.length) (fun k=>c.length - k) 0 (aq _) ?_ ?_
 ·refine zAf ?_ ?_ ?_<;>simp only [push_cast,seval,reduceCtorEq]
  all_goals first|omega|rfl|exact ⟨by omega,rfl⟩|skip
 intro k hk K' hL
 rcases ai k c.length with hkl|hkl
 ·have hrk:=hrow k hkl
  have htl:(c.take k).length<=1000000:=by rw [aU]; omega
  have hst:c.take k++[c.getD k []]=c.take (k+1):=by
   rw [bb hkl]
   simp [ab,hkl]
  replace hnl:=aa hnl (aa hrk (aa htl hst))
  repeat' (first|(refine goK (by assumption) ?_; iterate 4 (try clear hK K))|(refine zAb fun K hK=>?_)|(refine zAa hE rfl ?_; simp +contextual only [hnl,↓kA,push_cast,seval,reduceCtorEq])|refine zAc ?_|(refine zAg ?_; simp only [thenQ,zAh,if_true,if_false,Nat.reduceEqDiff,reduceCtorEq])|(refine zAe (by rfl) (fun hb=>?_) (fun hb=>?_)<;>(try simp only [bq,reduceCtorEq] at hb)<;>(try omega))|refine andS ?_|fail)
  refine zB8 hE (fun D s=>(D 5=true->D 1=true) /\
   (D 5=true->D 4=true) /\
   (D 4=true->D 3=true) /\
   (D 7=true->D 5=true) /\
   s.env 2=.one (.box 2) /\
   s.env 3=.one (.box 3) /\
   s.env 5=.one (.val (.sl .int) (c.getD k [])) /\
   s.env 16=.one (.val (.sl (.sl .int)) c) /\
   s.env 17=.I (c.length:Nat) /\
   s.env 18=.I (k:Nat) /\
   s.boxes 2=some (.rcd [.nils,.nils,.nils,.val .int 0]) /\
   s.roots 8=some (.flat 3 .int a) /\
   s.roots 11=some (.flat 3 .int b) /\
   s.roots 27=some (.deep 38 3 .int (if D 5=true then c.take (k+1) else c.take k)) /\
   (D 3=true->D 5=false->s.roots 25=some (.flat 3 .int (c.getD k []))) /\
   (D 5=false->s.boxes 3=some (.rcd [.ref 27,.ref 8,.ref 11,.val .int w])) /\
   (D 5=true->D 7=false->s.boxes 3=some (.rcd [.any,.ref 8,.ref 11,.val .int w])) /\
   (D 7=true->s.boxes 3=some (.rcd [.ref 27,.ref 8,.ref 11,.val .int w])) /\
   (D 0=true->s.env 22=.one (.boxf 3 4 0 0)) /\
   (D 1=true->D 5=false->s.env 23=.one (.ref 27)) /\
   (D 2=true->s.env 24=.one (.val (.sl .int) (c.getD k []))) /\
   (D 3=true->D 5=false->s.env 25=.one (.ref 25)) /\
   (D 4=true->D 5=false->s.env 26=.one (.lits 25)) /\
   (D 5=true->s.env 27=.one (.ref 27)) /\
   (D 6=true->s.env 28=.one (.boxf 3 4 0 0))) rfl kr ?_ ?_ ?_
  ·dsimp only
   simp only [push_cast,seval,reduceCtorEq]
  ·refine ⟨fun D s h0 hp hI=>?_,fun D s h0 hp hI=>?_,fun D s h0 hp hI=>?_,fun D s h0 hp hI=>?_,fun D s h0 hp hI=>?_,fun D s h0 hp hI=>?_,fun D s h0 hp hI=>?_,fun D s h0 hp hI=>?_,trivial⟩
   all_goals obtain ⟨o1,o2,o3,o4,e2,e3,e5,e16,e17,e18,q2,r8,r11,r27,r25,q3,q5,q7,f0,f1,f2,f3,f4,f5,f6⟩:=hI
   all_goals replace hp:=ay.1 hp
   ·simp +contextual only [hnl,h0,o1,o2,o3,o4,e2,e3,e5,e16,e17,e18,q2,r8,r11,r27,r25,q3,q5,q7,f0,f1,f2,f3,f4,f5,f6,setD,↓kN,↓kP,push_cast,seval,reduceCtorEq]
   ·have d0:=hp 0 (by decide)
    have n5:=zA2 o1 h0
    have n7:=zA2 o4 n5
    simp +contextual only [d0,n5,n7,hnl,h0,o1,o2,o3,o4,e2,e3,e5,e16,e17,e18,q2,r8,r11,r27,r25,q3,q5,q7,f0,f1,f2,f3,f4,f5,f6,setD,↓kN,↓kP,push_cast,seval,reduceCtorEq]
   ·simp +contextual only [hnl,h0,o1,o2,o3,o4,e2,e3,e5,e16,e17,e18,q2,r8,r11,r27,r25,q3,q5,q7,f0,f1,f2,f3,f4,f5,f6,setD,↓kN,↓kP,push_cast,seval,reduceCtorEq]
   ·have d2:=hp 2 (by decide)
    have n4:=zA2 o3 h0
    have n5:=zA2 o2 n4
    have n7:=zA2 o4 n5
    simp +contextual only [d2,n4,n5,n7,hnl,h0,o1,o2,o3,o4,e2,e3,e5,e16,e17,e18,q2,r8,r11,r27,r25,q3,q5,q7,f0,f1,f2,f3,f4,f5,f6,setD,↓kN,↓kP,push_cast,seval,reduceCtorEq]
   ·have d3:=hp 3 (by decide)
    have n5:=zA2 o2 h0
    have n7:=zA2 o4 n5
    simp +contextual only [d3,n5,n7,hnl,h0,o1,o2,o3,o4,e2,e3,e5,e16,e17,e18,q2,r8,r11,r27,r25,q3,q5,q7,f0,f1,f2,f3,f4,f5,f6,setD,↓kN,↓kP,push_cast,seval,reduceCtorEq]
   ·have d1:=hp 1 (by decide)
    have d4:=hp 4 (by decide)
    have n7:=zA2 o4 h0
    have d3:=o3 d4
    simp +contextual only [d1,d4,n7,d3,hnl,h0,o1,o2,o3,o4,e2,e3,e5,e16,e17,e18,q2,r8,r11,r27,r25,q3,q5,q7,f0,f1,f2,f3,f4,f5,f6,setD,↓kN,↓kP,push_cast,seval,reduceCtorEq]
   ·simp +contextual only [hnl,h0,o1,o2,o3,o4,e2,e3,e5,e16,e17,e18,q2,r8,r11,r27,r25,q3,q5,q7,f0,f1,f2,f3,f4,f5,f6,setD,↓kN,↓kP,push_cast,seval,reduceCtorEq]
   ·have d5:=hp 5 (by decide)
    have d6:=hp 6 (by decide)
    simp +contextual only [d5,d6,hnl,h0,o1,o2,o3,o4,e2,e3,e5,e16,e17,e18,q2,r8,r11,r27,r25,q3,q5,q7,f0,f1,f2,f3,f4,f5,f6,setD,↓kN,↓kP,push_cast,seval,reduceCtorEq]
  intro D s hD hI
  obtain ⟨o1,o2,o3,o4,e2,e3,e5,e16,e17,e18,q2,r8,r11,r27,r25,q3,q5,q7,f0,f1,f2,f3,f4,f5,f6⟩:=hI
  have v1:=r27
  rw [ah (hD 5 (by decide))] at v1
  have v3:=q7 (hD 7 (by decide))
  refine goK hK ?_
  refine zAr (t:=AS.of [(2,.one (.box 2)),(3,.one (.box 3)),(16,.one (.val (.sl (.sl .int)) c)),(17,.I (c.length:Nat)),(18,.I (k:Nat))] [(27,.deep 38 3 .int (c.take (k+1))),(8,.flat 3 .int a),(11,.flat 3 .int b)] [(2,.rcd [.nils,.nils,.nils,.val .int 0]),(3,.rcd [.ref 27,.ref 8,.ref 11,.val .int w])]) ?_ ?_
  ·refine zAf ?_ ?_ ?_<;>simp only [v1,v3,r8,r11,q2,e2,e3,e16,e17,e18,push_cast,seval,reduceCtorEq]
  clear hK hD
  repeat' (first|(refine zAa hE rfl ?_; simp +contextual only [hnl,↓kA,push_cast,seval,reduceCtorEq])|refine andS ?_|fail)
  refine hL _ (k+1) (by omega) (by omega) ?_
  refine zAf ?_ ?_ ?_<;>simp only [push_cast,seval,reduceCtorEq]
 ·obtain rfl:k=c.length:=by omega
  clear hL
  repeat' (first|(refine goK (by assumption) ?_; iterate 4 (try clear hK K))|(refine zAb fun K hK=>?_)|((first|refine zAa hE rfl ?_|refine zAi ?_); simp +contextual only [hnl,↓kA,push_cast,seval,reduceCtorEq])|(refine zAj ?_; simp only [thenQ,zAh,if_true,if_false,Nat.reduceEqDiff,reduceCtorEq])|(refine zAe (by rfl) (fun hb=>?_) (fun hb=>?_)<;>(try simp only [bq,reduceCtorEq] at hb)<;>(try omega))|fail)
  all_goals ((try refine zAi ?_); refine ⟨.inr rfl,?_⟩; unfold zCC; dsimp only; refine zAf ?_ ?_ ?_<;>simp only [push_cast,seval,reduceCtorEq]; exact .inl (by rw [bS]))
def zQC:Know:=know [(103,zFC)] []
theorem zKw:KnowOK Tryz.prog zQC:=zAl (all_cons zIz all_nil) all_nil all_nil
@[push_cast] def zDR:Con:=⟨[.dat stSh],fun (x:State×Unit)=>StateSz x.1,fun (x:State×Unit)=>{res:=[.val stSh x.1]}⟩
theorem stClone_spec:FnSpec Tryz.prog 54 zDR:=by
 refine FnSpec.of_tri' (E:=zQC) zKw Tryz.func54 rfl rfl kr ?_
 intro C x hE hnl hfit hpre
 simp only [Tryz.ntmps54,Tryz.results54,lends] at hnl ⊢
 obtain ⟨s,_⟩:=x
 refine zKj (zKj (zUA (zKx hE hnl s hpre rfl) ?_))
 rintro e t ⟨he,hw⟩
 refine ⟨zCC s,by rw [hnl]; exact hw,zJF s,?_,?_⟩
 ·unfold zCC zJF
  refine zAf ?_ ?_ ?_<;>simp only [push_cast,seval,reduceCtorEq]
 ·unfold zJF
  rcases he with rfl|rfl<;>simp only [zQC,hnl,push_cast,seval,reduceCtorEq]
end Go.Proofs.YtekfodeknpnkbaaGreatDoor
namespace Go.Proofs.YtekfodeknpnkbaaGreatDoor
open Go.RowKit Go.VS
def hw (t:ByteArray) (i:Nat):ByteArray:=(zAx t spS).getD i ByteArray.empty
def zEu (s:ByteArray):Bool:=zDr s && decide (0<=atoiV s) && decide (atoiV s<=99999) && decide (itoaV (atoiV s)=s)
def hform (t:ByteArray):Int×Int:=smGet formsL (hw t 0)
def hpOK (t:ByteArray):Bool:=decide (1<=t.size/\t.size<=30) && smHas formsL (hw t 0) && decide (((zAx t spS).length:Int)=(hform t).2+1) && (List.range ((zAx t spS).length - 1)).all fun i=>zEu (hw t (i+1))
def zIP (t:ByteArray) (k:Nat):List Int:=tbl k fun i=>atoiV (hw t (i+1))
def hargs (t:ByteArray):List Int:=zIP t ((zAx t spS).length - 1)
section
variable {t:ByteArray} {k:Nat}
theorem zBW:hpOK t=true↔((1<=t.size/\t.size<=30)/\smHas formsL (hw t 0)=true/\((zAx t spS).length:Int)=(hform t).2+1)/\∀ i,i<(zAx t spS).length - 1->zEu (hw t (i+1))=true:=by
 simp only [hpOK,av,au,ay,bR,and_assoc]
theorem zXl (h:¬(1<=t.size/\t.size<=30)):hpOK t=false:=by
 rw [bU]; exact fun h2=>h (zBW.1 h2).1.1
theorem zXm (h:¬smHas formsL (hw t 0)=true):hpOK t=false:=by
 rw [bU]; exact fun h2=>h (zBW.1 h2).1.2.1
theorem zXn (h:¬((zAx t spS).length:Int)=(hform t).2+1):hpOK t=false:=by
 rw [bU]; exact fun h2=>h (zBW.1 h2).1.2.2
theorem zXo (hk:k<(zAx t spS).length - 1) (h:¬zEu (hw t (k+1))=true):hpOK t=false:=by
 rw [bU]; exact fun h2=>h ((zBW.1 h2).2 k hk)
theorem zGh {s:ByteArray}:zEu s=true↔zDr s=true/\0<=atoiV s/\atoiV s<=99999/\itoaV (atoiV s)=s:=by
 simp only [zEu,av,au,and_assoc]
theorem zKg (k:ByteArray):0<=(smGet formsL k).1/\(smGet formsL k).1<=6/\0<=(smGet formsL k).2/\(smGet formsL k).2<=3:=by
 unfold smGet
 cases h:formsL.find? (fun p=>decide (p.1=k)) with
 | none=>exact ⟨by decide,by decide,by decide,by decide⟩
 | some p =>
  have hm:=List.mem_of_find?_eq_some h
  simp only [formsL,aI,bA,or_false] at hm
  rcases hm with rfl|rfl|rfl|rfl|rfl|rfl|rfl<;>exact ⟨by decide,by decide,by decide,by decide⟩
end
@[push_cast] def zFJ:Con:=⟨[.dat .str],fun _=>True,fun (x:ByteArray×Unit) =>
 {res:=[.val .int (if hpOK x.1=true then (hform x.1).1 else 0),.own (.flat 3 .int (if hpOK x.1=true then hargs x.1 else [])),.val (.err 147) (if hpOK x.1=true then 0 else 2)]}⟩
set_option maxHeartbeats 4000000 in
theorem zMC:FnSpec Tryz.prog 52 zFJ:=by
 refine FnSpec.of_tri' (E:=know _ [] [] []) (zAl (kc zJe (kc zO6 (kc zKq (kc zKQ all_nil)))) all_nil all_nil) Tryz.func52 rfl rfl kr ?_
 intro C x hE hnl hfit hpre
 simp only [Tryz.ntmps52,Tryz.results52,maxLen,seval,push_cast] at hnl hfit hpre ⊢
 obtain ⟨(t:ByteArray),_⟩:=x
 dsimp only at hfit hpre ⊢
 by_cases h1:1<=t.size/\t.size<=30
 rotate_left
 ·have e:=zXl h1
  replace hnl:=aa hnl (aa e zOr)
  exact auD
 have hsp:spS.size=1:=rfl
 have hpos:1<=(zAx t spS).length:=by rw [zE3 t spS (by omega)]; omega
 have hlen:=zJc t spS (by omega)
 have hw0:(zAx t spS).getD 0 ByteArray.empty=hw t 0:=rfl
 have hfo:smGet formsL (hw t 0)=hform t:=rfl
 obtain ⟨f1,f2,f3,f4⟩:=zKg (hw t 0)
 rw [hfo] at f1 f2 f3 f4
 have hnl1:=hnl
 replace hnl:=aa hnl (aa zOr (aa hw0 (aa hfo hsp)))
 repeat' (first|(refine goK (by assumption) ?_; iterate 4 (try clear hK K))|(refine zAb fun K hK=>?_)|(refine zAa hE rfl ?_; simp +contextual only [hnl,↓kA,push_cast,seval,reduceCtorEq])|(refine zAg ?_; simp only [thenQ,zAh,if_true,if_false,Nat.reduceEqDiff,reduceCtorEq])|(refine zAe (by rfl) (fun hb=>?_) (fun hb=>?_)<;>(try simp only [bq,reduceCtorEq] at hb)<;>(try omega))|refine andS ?_|(refine ⟨fun hc=>?_,fun hc=>?_⟩)|fail)
 refine zB8 hE (fun D s=>(D 9=true->D 8=true) /\
  s.env 5=.one (.val (.sl .str) (zAx t spS)) /\
  (D 0=true->s.env 26=.one (.val .smap formsL)) /\
  (D 1=true->s.env 27=.one (.val (.sl .str) (zAx t spS))) /\
  (D 2=true->s.env 28=.one (.padr .str (hw t 0))) /\
  (D 3=true->s.env 29=.one (.val .str (hw t 0))) /\
  (D 4=true->s.env 30=.tup [.val (.prod .int .int) (hform t),.val .bool (smHas formsL (hw t 0))]) /\
  (D 5=true->s.env 25=.tup [.val (.prod .int .int) (hform t),.val .bool (smHas formsL (hw t 0))]) /\
  (D 6=true->s.env 31=.one (.val (.prod .int .int) (hform t))) /\
  (D 7=true->s.env 32=.one (.val .bool (smHas formsL (hw t 0)))) /\
  (D 8=true->s.env 6=.one (.box 6)) /\
  (D 8=true->D 9=false->s.boxes 6=some (.rcd [.val .int 0,.val .int 0])) /\
  (D 9=true->s.boxes 6=some (.one (.val (.prod .int .int) (hform t)))) /\
  (D 10=true->s.env 7=.one (.val .bool (smHas formsL (hw t 0))))) rfl kr ?_ ?_ ?_
 ·dsimp only
  simp only [push_cast,seval,reduceCtorEq]
 ·iterate 11 refine tI ?_ fun D s h0 hp hI=>?_
  exact trivial
  all_goals obtain ⟨o1,e5,f0,f1,f2,f3,f4,f5,f6,f7,f8,g8,f9,f10⟩:=hI
  all_goals (try simp [preds,Region.binds] at hp)
  all_goals (try have n0x:=zA2 o1 h0)
  all_goals (simp +contextual only [*,setD,↓kN,↓kP,push_cast,seval,reduceCtorEq])
  all_goals first|omega|(refine aa ?_ ?_<;>omega)|rfl
 intro D s hD hI
 obtain ⟨o1,e5,f0,f1,f2,f3,f4,f5,f6,f7,f8,g8,f9,f10⟩:=hI
 have v1:=f8 (hD 8 (by decide))
 have v2:=f9 (hD 9 (by decide))
 have v3:=f10 (hD 10 (by decide))
 refine goK hK ?_
 refine zAr (t:=AS.of [(5,.one (.val (.sl .str) (zAx t spS))),(6,.one (.box 6)),(7,.one (.val .bool (smHas formsL (hw t 0))))] [] [(6,.one (.val (.prod .int .int) (hform t)))]) ?_ ?_
 ·refine zAf ?_ ?_ ?_<;>simp only [v1,v2,v3,e5,push_cast,seval,reduceCtorEq]
  all_goals first|exact ⟨_,rfl⟩|skip
 clear hK hD
 replace hnl:=hnl1
 by_cases h2:smHas formsL (hw t 0)=true
 rotate_left
 ·have e:=zXm h2
  rw [cW] at h2
  replace hnl:=aa hnl (aa e h2)
  exact auD
 by_cases h3:((zAx t spS).length:Int)=(hform t).2+1
 rotate_left
 ·have e:=zXn h3
  replace hnl:=aa hnl (aa e (aa h2 (aB h3)))
  exact auD
 replace hnl:=aa hnl (aa h2 (aG h3))
 repeat' (first|(refine goK (by assumption) ?_; iterate 4 (try clear hK K))|(refine zAb fun K hK=>?_)|(refine zAa hE rfl ?_; simp +contextual only [hnl,↓kA,push_cast,seval,reduceCtorEq])|refine zAc ?_|(refine zAg ?_; simp only [thenQ,zAh,if_true,if_false,Nat.reduceEqDiff,reduceCtorEq])|(refine zAe (by rfl) (fun hb=>?_) (fun hb=>?_)<;>(try simp only [bq,reduceCtorEq] at hb)<;>(try omega))|refine andS ?_|fail)
 refine zAk (fun k:Nat=>AS.of [(6,.one (.box 6)),(8,.one (.ref 78)),(46,.one (.val (.sl .str) ((zAx t spS).drop 1))),(47,.I ((zAx t spS).length - 1:Nat)),(48,.I k)] [(78,.flat 3 .int (zIP t k))] [(6,.one (.val (.prod .int .int) (hform t)))]) (fun k=>k<=(zAx t spS).length - 1/\∀ i,i<k->zEu (hw t (i+1))=true) (fun k=>(zAx t spS).length - 1 - k) 0 ⟨aq _,by omega⟩ ?_ ?_
 ·refine zAf ?_ ?_ ?_<;>simp only [push_cast,seval,reduceCtorEq]
  all_goals first|omega|rfl|exact ⟨by omega,rfl⟩|(rw [bQ])|skip
 intro k ⟨hk,hall⟩ K' hL
 have hal:(zIP t k).length=k:=zAY _ _
 have hdl:((zAx t spS).drop 1).length=(zAx t spS).length - 1:=bQ ..
 rcases ai k ((zAx t spS).length - 1) with hkl|hkl
 ·have hwk:((zAx t spS).drop 1).getD k ByteArray.empty=hw t (k+1):=by
   simp only [ab,b9,hw]
   rw [Nat.add_comm]
  have hws:(hw t (k+1)).size<=30:=by
   have:=zJd t spS (hw t (k+1)) (by
    have hk1:k+1<(zAx t spS).length:=by omega
    simp only [hw,ab,aj hk1,bB]
    exact List.getElem_mem _)
   omega
  replace hnl:=aa hnl (aa hwk (aa hdl hal))
  by_cases h4:zEu (hw t (k+1))=true
  ·obtain ⟨q1,q2,q3,q4⟩:=zGh.1 h4
   have hst:zIP t (k+1)=zIP t k++[atoiV (hw t (k+1))]:=zEb _ _
   have hin:InR (atoiV (hw t (k+1))):=by unfold InR; omega
   replace hnl:=aa hnl (aa q1 (aa q4 (aG hin)))
   repeat' (first|(refine goK (by assumption) ?_; iterate 4 (try clear hK K))|(refine zAb fun K hK=>?_)|(refine zAa hE rfl ?_; simp +contextual only [hnl,↓kA,push_cast,seval,reduceCtorEq])|refine zAc ?_|(refine zAg ?_; simp only [thenQ,zAh,if_true,if_false,Nat.reduceEqDiff,reduceCtorEq])|(refine zAe (by rfl) (fun hb=>?_) (fun hb=>?_)<;>(try simp only [bq,reduceCtorEq] at hb)<;>(try omega))|refine andS ?_|(refine ⟨fun hc=>?_,fun hc=>?_⟩)|fail)
   refine hL _ (k+1) ⟨by omega,fun i hi=>?_⟩ (by omega) ?_
   ·rcases ai i k with h5|h5
    ·exact hall i h5
    ·obtain rfl:i=k:=by omega
     exact h4
   refine zAf ?_ ?_ ?_<;>simp only [push_cast,seval,reduceCtorEq]
   exact .inl (by rw [hst])
  ·have e:=zXo hkl h4
   cases q1:zDr (hw t (k+1)) with
   | false =>
    replace hnl:=aa hnl (aa q1 e)
    exact auD
   | true =>
    by_cases q2:atoiV (hw t (k+1))<0
    ·replace hnl:=aa hnl (aa q1 (aa e (aG q2)))
     exact auD
    by_cases q3:99999<atoiV (hw t (k+1))
    ·replace hnl:=aa hnl (aa q1 (aa e (aa (aB q2) (aG q3))))
     exact auD
    have q4:¬itoaV (atoiV (hw t (k+1)))=hw t (k+1):=fun h=>h4 (zGh.2 ⟨q1,by omega,by omega,h⟩)
    have hin:InR (atoiV (hw t (k+1))):=by unfold InR; omega
    replace hnl:=aa hnl (aa q1 (aa e (aa (aB q2) (aa (aB q3) (aa (aB q4) (aG hin))))))
    exact auD
 ·obtain rfl:k=(zAx t spS).length - 1:=by omega
  have e:hpOK t=true:=zBW.2 ⟨⟨h1,h2,h3⟩,hall⟩
  replace hnl:=aa hnl (aa e hdl)
  repeat' (first|(refine goK (by assumption) ?_; iterate 4 (try clear hK K))|(refine zAb fun K hK=>?_)|((first|refine zAa hE rfl ?_|refine zAi ?_); simp +contextual only [hnl,↓kA,push_cast,seval,reduceCtorEq])|(refine zAj ?_; simp only [thenQ,zAh,if_true,if_false,Nat.reduceEqDiff,reduceCtorEq])|(refine zAe (by rfl) (fun hb=>?_) (fun hb=>?_)<;>(try simp only [bq,reduceCtorEq] at hb)<;>(try omega))|fail)
  all_goals first|rfl|skip
end Go.Proofs.YtekfodeknpnkbaaGreatDoor
