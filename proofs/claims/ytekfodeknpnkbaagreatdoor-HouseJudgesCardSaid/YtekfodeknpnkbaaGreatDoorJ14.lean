import Derived.Test.YtekfodeknpnkbaaGreatDoorJ13
import Derived.Tactics2
import Derived.Laws.CopyOwn
import Derived.Laws.Bits64b
import Derived.WalkKit
set_option linter.unusedSimpArgs false
set_option linter.unusedVariables false
namespace Go.Proofs.YtekfodeknpnkbaaGreatDoor
open Go.RowKit Go.VS Go.OT Go.LC
theorem zRV {l:List Int} (h:zBL l=true) {i:Nat} (hi:i<l.length):0<=ga l i/\ga l i<=30:=by
 unfold zBL at h
 simp only [av,au,ay] at h
 exact h.2 _ (zA0 0 hi)
theorem zXJ {t:List (List Int)} {x:Int} {r:List Int} (hr:r∈t) (hx:x∈r):∃ i j,i<t.length/\j<(t.getD i []).length/\x=gt t i j:=by
 obtain ⟨i,hi,rfl⟩:=aN hr
 obtain ⟨j,hj,rfl⟩:=aN hx
 have e:t.getD i []=t[i]:=by rw [ab,aj hi]; rfl
 refine ⟨i,j,hi,by rw [e]; exact hj,?_⟩
 unfold gt
 rw [e,ab,aj hj]
 rfl
theorem zWl {a b:List Int} {c:List (List Int)} (hf:ForOK a b c) {k:Nat} (hk:k<=maxU a b) :
 InPlan (stepP a b c k)/\LooseP a b (stepP a b c k)/\movK (stepP a b c k) (stepP a b c k).length=k/\spend c (stepP a b c k)=partV a b c k:=by
 have hm:=hf.mc
 have hs:=stepI hm k hk
 have hsh:=hs.way.shp
 obtain ⟨p1,p2,p3⟩:=zMR hm hk
 generalize stepP a b c k=t at *
 have ha:=zCd hf.ha
 have hb:=zCd hf.hb
 have hr:=hsh.rows
 have hc:=hsh.cols
 have ha5:=hm.a5
 have hb5:=hm.b5
 have hw:wid t=b.length:=hc 0 (by omega)
 have hin:InPlan t:=by
  refine ⟨by omega,by omega,fun r hr=>?_,fun r hr x hx=>?_⟩
  ·obtain ⟨i,hi,rfl⟩:=aN hr
   have:=hc i hi
   rw [ab,aj hi] at this
   exact this.trans hw.symm
  ·obtain ⟨i,j,hi,hj,rfl⟩:=zXJ hr hx
   have hj':=hc i hi
   have k1:=p1.nn i j (by omega) (by omega)
   have k2:=p1.at_le (i:=i) (j:=j) (by omega) (by omega)
   have k3:=zRV hf.hb (i:=j) (by omega)
   omega
 have hrow:∀ i,i<a.length->rowS b.length (gt t) i=lsum (t.getD i []):=fun i hi=>by
  rw [zBg]
  unfold sumL
  rw [hc i (by omega)]
  rfl
 have hlo:LooseP a b t:=by
  refine ⟨hr,hw,fun i hi=>?_,fun j hj=>?_⟩
  ·rw [<-hrow i (by omega)]
   exact p1.row i (by omega)
  ·rw [hr]
   exact p1.col j (by omega)
 refine ⟨hin,hlo,?_,?_⟩
 ·rw [<-(zVV hin hlo).2,p2]
 ·rw [<-p3]
  exact zF2 hsh.tab.sz
theorem zPD:FnSpec Tryz.prog 130 zUV:=by
 refine FnSpec.of_tri' (E:=know _ [] [] []) (zAl (kc zD9 all_nil) all_nil all_nil) Tryz.func130 rfl rfl kr ?_
 intro C x hE hnl hfit hpre
 simp only [Tryz.ntmps130,Tryz.results130,maxLen,seval,push_cast] at hnl hfit hpre ⊢
 obtain ⟨(p:List (List Int)),_⟩:=x
 dsimp only at hfit hpre ⊢
 have hpr:=hpre.rows
 repeat' (first|(refine goK (by assumption) ?_; iterate 4 (try clear hK K))|(refine zAb fun K hK=>?_)|(refine zAa hE rfl ?_; simp +contextual only [hnl,↓kA,push_cast,seval,reduceCtorEq,cI])|refine zAc ?_|fail)
 refine zAk (fun i:Nat=>AS.of [(0,.one (.val (.sl (.sl .int)) p)),(3,.I (movK p i)),(4,.I i)] [] []) (fun i=>i<=p.length) (fun i=>p.length - i) 0 (aq _) ?_ ?_
 ·refine zAf ?_ ?_ ?_<;>simp only [push_cast,seval,reduceCtorEq,cI]
  all_goals rfl
 intro i hi K' hL
 rcases ai i p.length with hip|hip
 ·have hsi:=zH2 hpre hip
  have h1:=zFR hpre i hi
  have h2:=zM4 hpre hip
  replace hnl:=aa hnl (fun m=>aG (hsi m))
  repeat' (first|(refine goK (by assumption) ?_; iterate 4 (try clear hK K))|(refine zAb fun K hK=>?_)|(refine zAa hE rfl ?_; simp +contextual only [hnl,↓kA,push_cast,seval,reduceCtorEq,cI])|refine zAc ?_|(refine zAg ?_; simp only [thenQ,zAh,if_true,if_false,Nat.reduceEqDiff,reduceCtorEq])|(refine zAe (by rfl) (fun hb=>?_) (fun hb=>?_)<;>(try simp only [bq,reduceCtorEq] at hb)<;>(try omega))|refine andS ?_|fail)
  refine hL _ (i+1) (by omega) (by omega) ?_
  refine zAf ?_ ?_ ?_<;>simp only [push_cast,seval,reduceCtorEq,cI]
  all_goals rfl
 ·obtain rfl:i=p.length:=by omega
  exact auB
theorem zVy {p:List (List Int)} {j:Nat} (hj:j<wid p):lsum ((flipP p).getD j [])=cK p p.length j:=by
 rw [zJP p hj,zBg]
 unfold sumL cK
 rw [zAY]
 exact zAm _ fun i hi=>by unfold ga; rw [zBw _ _ hi]; rfl
@[push_cast] def zVN:Con:=⟨[.dat (.sl .int),.dat (.sl .int),.dat (.sl (.sl .int))],fun (x:List Int×List Int×List (List Int)×Unit)=>InPlan x.2.2.1,fun (x:List Int×List Int×List (List Int)×Unit)=>{res:=[.val .bool (decide (LooseP x.1 x.2.1 x.2.2.1))]}⟩
theorem zRc:FnSpec Tryz.prog 125 zVN:=by
 refine FnSpec.of_tri' (E:=know _ [] [] []) (zAl (kc zD9 (kc zNl all_nil)) all_nil all_nil) Tryz.func125 rfl rfl kr ?_
 intro C x hE hnl hfit hpre
 simp only [Tryz.ntmps125,Tryz.results125,maxLen,seval,push_cast] at hnl hfit hpre ⊢
 obtain ⟨(a:List Int),(b:List Int),(p:List (List Int)),_⟩:=x
 dsimp only at hfit hpre ⊢
 have hpr:=hpre.rows
 have hpc:=hpre.cols
 have hw:(p.getD 0 []).length=wid p:=rfl
 have hfp:=hpre.flip
 have hfl:=zJO p
 have eN:¬LooseP a b p->decide (LooseP a b p)=false:=aF
 replace hnl:=aa hnl (aa hw hpre)
 by_cases hs:p.length=a.length/\wid p=b.length
 ·obtain ⟨hs1,hs2⟩:=hs
  repeat' (first|(refine goK (by assumption) ?_; iterate 4 (try clear hK K))|(refine zAb fun K hK=>?_)|(refine zAa hE rfl ?_; simp +contextual only [hnl,↓kA,push_cast,seval,reduceCtorEq,cI])|refine zAc ?_|(refine zAg ?_; simp only [thenQ,zAh,if_true,if_false,Nat.reduceEqDiff,reduceCtorEq])|(refine zAe (by rfl) (fun hb=>?_) (fun hb=>?_)<;>(try simp only [bq,reduceCtorEq] at hb)<;>(try omega))|refine andS ?_|(refine ⟨fun hc=>?_,fun hc=>?_⟩)|fail)
  refine zAk (fun i:Nat=>AS.of [(0,.one (.val (.sl .int) a)),(1,.one (.val (.sl .int) b)),(2,.one (.val (.sl (.sl .int)) p)),(7,.I i)] [] []) (fun i=>i<=a.length/\∀ r,r<i->lsum (p.getD r [])<=a.getD r 0) (fun i=>a.length - i) 0 ⟨aq _,by omega⟩ ?_ ?_
  ·refine zAf ?_ ?_ ?_<;>simp only [push_cast,seval,reduceCtorEq,cI]
   all_goals skip
  intro i ⟨hi,hall⟩ K' hL
  rcases ai i a.length with hip|hip
  ·have hsi:=zH2 hpre (i:=i) (by omega)
   replace hnl:=aa hnl (fun m=>aG (hsi m))
   repeat' (first|(refine goK (by assumption) ?_; iterate 4 (try clear hK K))|(refine zAb fun K hK=>?_)|((first|refine zAa hE rfl ?_|refine zAi ?_|((first|refine zAd hE 1 rfl rfl kr ?_|refine zAd hE 2 rfl rfl kr ?_|refine zAd hE 3 rfl rfl kr ?_|refine zAd hE 4 rfl rfl kr ?_); simp only [ao,List.length_nil,Nat.reduceAdd,Nat.reduceSub,ak,List.take_zero,al,ar])); simp +contextual only [hnl,↓kA,push_cast,seval,reduceCtorEq,cI])|refine zAc ?_|(refine zAg ?_; simp only [thenQ,zAh,if_true,if_false,Nat.reduceEqDiff,reduceCtorEq])|(refine zAe (by rfl) (fun hb=>?_) (fun hb=>?_)<;>(try simp only [bq,reduceCtorEq] at hb)<;>(try omega))|refine andS ?_|fail)
   ·exact (eN fun h=>by have:=h.ra i (by omega); omega).symm
   ·refine hL _ (i+1) ⟨by omega,fun r hr=>?_⟩ (by omega) ?_
    ·rcases ai r i with h|h
     ·exact hall r h
     ·obtain rfl:r=i:=by omega
      omega
    refine zAf ?_ ?_ ?_<;>simp only [push_cast,seval,reduceCtorEq,cI]
    all_goals skip
  ·obtain rfl:i=a.length:=by omega
   repeat' (first|(refine goK (by assumption) ?_; iterate 4 (try clear hK K))|(refine zAb fun K hK=>?_)|(refine zAa hE rfl ?_; simp +contextual only [hnl,↓kA,push_cast,seval,reduceCtorEq,cI])|refine zAc ?_|(refine zAj ?_; simp only [thenQ,zAh,if_true,if_false,Nat.reduceEqDiff,reduceCtorEq])|(refine zAe (by rfl) (fun hb=>?_) (fun hb=>?_)<;>(try simp only [bq,reduceCtorEq] at hb)<;>(try omega))|fail)
   refine zAk (fun j:Nat=>AS.of [(1,.one (.val (.sl .int) b)),(8,.one (.val (.sl (.sl .int)) (flipP p))),(9,.I j)] [] []) (fun j=>j<=b.length/\∀ r,r<j->cK p p.length r<=b.getD r 0) (fun j=>b.length - j) 0 ⟨aq _,by omega⟩ ?_ ?_
   ·refine zAf ?_ ?_ ?_<;>simp only [push_cast,seval,reduceCtorEq,cI]
    all_goals skip
   intro j ⟨hj,hal2⟩ K2 hL2
   rcases ai j b.length with hjb|hjb
   ·have hsj:=zH2 hfp (i:=j) (by omega)
    have hcj:=zVy (p:=p) (j:=j) (by omega)
    replace hnl:=aa hnl (aa (fun m=>aG (hsj m)) hcj)
    repeat' (first|(refine goK (by assumption) ?_; iterate 4 (try clear hK K))|(refine zAb fun K hK=>?_)|((first|refine zAa hE rfl ?_|refine zAi ?_|((first|refine zAd hE 1 rfl rfl kr ?_|refine zAd hE 2 rfl rfl kr ?_|refine zAd hE 3 rfl rfl kr ?_|refine zAd hE 4 rfl rfl kr ?_); simp only [ao,List.length_nil,Nat.reduceAdd,Nat.reduceSub,ak,List.take_zero,al,ar])); simp +contextual only [hnl,↓kA,push_cast,seval,reduceCtorEq,cI])|refine zAc ?_|(refine zAg ?_; simp only [thenQ,zAh,if_true,if_false,Nat.reduceEqDiff,reduceCtorEq])|(refine zAe (by rfl) (fun hb=>?_) (fun hb=>?_)<;>(try simp only [bq,reduceCtorEq] at hb)<;>(try omega))|refine andS ?_|fail)
    ·exact (eN fun h=>by have:=h.cb j (by omega); omega).symm
    ·refine hL2 _ (j+1) ⟨by omega,fun r hr=>?_⟩ (by omega) ?_
     ·rcases ai r j with h|h
      ·exact hal2 r h
      ·obtain rfl:r=j:=by omega
       omega
     refine zAf ?_ ?_ ?_<;>simp only [push_cast,seval,reduceCtorEq,cI]
     all_goals first|exact .inl rfl|skip
   ·obtain rfl:j=b.length:=by omega
    repeat' (first|(refine goK (by assumption) ?_; iterate 4 (try clear hK K))|(refine zAb fun K hK=>?_)|((first|refine zAa hE rfl ?_|refine zAi ?_); simp +contextual only [hnl,↓kA,push_cast,seval,reduceCtorEq,cI])|(refine zAj ?_; simp only [thenQ,zAh,if_true,if_false,Nat.reduceEqDiff,reduceCtorEq])|(refine zAe (by rfl) (fun hb=>?_) (fun hb=>?_)<;>(try simp only [bq,reduceCtorEq] at hb)<;>(try omega))|fail)
    exact (aD (⟨hs1,hs2,fun i hi=>hall i (by omega),fun k hk=>hal2 k (by omega)⟩:LooseP a b p)).symm
 ·repeat' (first|(refine goK (by assumption) ?_; iterate 4 (try clear hK K))|(refine zAb fun K hK=>?_)|((first|refine zAa hE rfl ?_|refine zAi ?_); simp +contextual only [hnl,↓kA,push_cast,seval,reduceCtorEq,cI])|(refine zAe (by rfl) (fun hb=>?_) (fun hb=>?_)<;>(try simp only [bq,reduceCtorEq] at hb)<;>(try omega))|refine andS ?_|(refine ⟨fun hc=>?_,fun hc=>?_⟩)|fail)
  all_goals exact (eN fun h=>hs ⟨h.rows,h.cols⟩).symm
theorem zSk:FnSpec Tryz.prog 78 loCon:=by
 refine FnSpec.of_tri' (E:=know _ [] [] []) (zAl (kc zH5 (kc zPI (kc zRc all_nil))) all_nil all_nil) Tryz.func78 rfl rfl kr ?_
 intro C x hE hnl hfit hpre
 simp only [Tryz.ntmps78,Tryz.results78,maxLen,seval,push_cast] at hnl hfit hpre ⊢
 obtain ⟨(a:List Int),(b:List Int),(p:List (List Int)),_⟩:=x
 dsimp only at hfit hpre ⊢
 have h1:=zEM a
 have h2:=zEM b
 have h3:=zEO p
 have eN:¬(zAq a=0/\zAq b=0/\zAR p=0)->errLo a b p=1:=fun h=>ae h
 by_cases e1:zAq a=0
 ·by_cases e2:zAq b=0
  ·by_cases e3:zAR p=0
   ·have hp:=zDI e3
    have eL:errLo a b p=if LooseP a b p then 0 else 7:=ah ⟨e1,e2,e3⟩
    by_cases hl:LooseP a b p
    ·rw [ah hl] at eL
     replace hnl:=aa hnl (aa zUL (aa e1 (aa e2 (aa e3 (aa hp (aa eL (aG hl)))))))
     exact auB
    ·rw [ae hl] at eL
     replace hnl:=aa hnl (aa zUL (aa e1 (aa e2 (aa e3 (aa hp (aa eL (aB hl)))))))
     exact auB
   ·have e4:zAR p=1:=by omega
    replace hnl:=aa hnl (aa e1 (aa e2 (aa e4 (eN fun h=>e3 h.2.2))))
    exact auB
  ·have e4:zAq b=1:=by omega
   replace hnl:=aa hnl (aa e1 (aa e4 (eN fun h=>e2 h.2.1)))
   exact auB
 ·have e4:zAq a=1:=by omega
  replace hnl:=aa hnl (aa e4 (eN fun h=>e1 h.1))
  exact auB
end Go.Proofs.YtekfodeknpnkbaaGreatDoor
namespace Go.Proofs.YtekfodeknpnkbaaGreatDoor
open Go.RowKit Go.VS Go.OT Go.LC
@[push_cast] def zWa:Con:=⟨[.dat (.sl .int),.dat (.sl .int),.dat (.sl (.sl .int)),.dat .int,.dat (.sl (.sl .int))],fun (x:List Int×List Int×List (List Int)×Int×List (List Int)×Unit)=>errLC x.1 x.2.1 x.2.2.1 x.2.2.2.1 x.2.2.2.2.1=0,
 fun (x:List Int×List Int×List (List Int)×Int×List (List Int)×Unit)=>{res:=[.val .int (costV x.1 x.2.1 x.2.2.1 x.2.2.2.1 x.2.2.2.2.1)]}⟩
theorem zMZ:FnSpec Tryz.prog 80 zWa:=by
 refine FnSpec.of_tri' (E:=know _ [] [] []) (zAl (kc zJa (kc zD9 (kc zPD all_nil))) all_nil all_nil) Tryz.func80 rfl rfl kr ?_
 intro C x hE hnl hfit hpre
 simp only [Tryz.ntmps80,Tryz.results80,maxLen,seval,push_cast] at hnl hfit hpre ⊢
 obtain ⟨(a:List Int),(b:List Int),(c:List (List Int)),(w:Int),(t:List (List Int)),_⟩:=x
 dsimp only at hfit hpre ⊢
 obtain ⟨hw,hp,hl⟩:=zNX hpre
 obtain ⟨hf,hw0,hw99⟩:=zCn hw
 have hfit2:=zUS hf hp hl
 obtain ⟨s1,s2,s3,s4⟩:=MC.sums hf
 have h1:=zFR hp _ (ap _)
 have h2:0<=spend c t/\spend c t<=100000000000:=by have:=hfit2.spend t.length (ap _); have:=hp.rows; show 0<=zCW c t t.length/\zCW c t t.length<=_; omega
 have h3:=hp.rows
 have e1:costV a b c w t=spend c t+w*(lsum a+lsum b - 2*movK t t.length):=rfl
 have h8:=zRL ⟨hw0,hw99⟩ (x:=lsum a+lsum b - 2*movK t t.length) (by omega)
 replace hnl:=aa hnl (aa (fun m=>aG (s1 m)) (aa (fun m=>aG (s2 m)) (aa hfit2 (aa hp e1))))
 exact auB
theorem zON {a b:List Int} {c:List (List Int)} {w:Int} (he:errWd a b c w=0):errLC a b c w (stepP a b c (fewK a b c w))=0/\costL a b c w (stepP a b c (fewK a b c w))=zB0 a b c w:=by
 obtain ⟨hf,hw⟩:=zCn he
 have hk:=(zFF hf.mc w).1
 obtain ⟨g1,g2,g3,g4⟩:=zWl hf hk
 have e1:errLo a b (stepP a b c (fewK a b c w))=0:=by rw [errLo,ah ⟨ah hf.ha,ah hf.hb,zHx g1⟩,ah g2]
 have e2:errLC a b c w (stepP a b c (fewK a b c w))=0:=by rw [errLC,ah he]; exact e1
 refine ⟨e2,?_⟩
 rw [costL,ah e2,costV,g3,g4,zBg,zBg]
 rfl
end Go.Proofs.YtekfodeknpnkbaaGreatDoor
namespace Go.Proofs.YtekfodeknpnkbaaGreatDoor
open Go.RowKit Go.VS Go.OT Go.LC
def errBL (a b:List Int) (c:List (List Int)) (w:Int) (t:List (List Int)) (p:zBp):Int :=
 if errWd a b c w=0 then if errLo a b t=0 then if zBe c w p=0 then if costV a b c w t=zIh a b p then 0 else 8 else zBe c w p else 7 else errWd a b c w
@[push_cast] def zND:Con:=⟨[.dat (.sl .int),.dat (.sl .int),.dat (.sl (.sl .int)),.dat .int,.dat (.sl (.sl .int)),.dat (.prod (.sl .int) (.sl .int))],fun _=>True,fun (x:List Int×List Int×List (List Int)×Int×List (List Int)×zBp×Unit) =>
 {res:=[.val .int (errBL x.1 x.2.1 x.2.2.1 x.2.2.2.1 x.2.2.2.2.1 x.2.2.2.2.2.1)]}⟩
theorem zPg:FnSpec Tryz.prog 76 zND:=by
 refine FnSpec.of_tri' (E:=know _ [] [] []) (zAl (kc zEf (kc zVW (kc zTQ (kc zPJ (kc zTV (kc zKM (kc zMK all_nil))))))) all_nil all_nil) Tryz.func76 rfl rfl kr ?_
 intro C x hE hnl hfit hpre
 simp only [Tryz.ntmps76,Tryz.results76,maxLen,seval,push_cast] at hnl hfit hpre ⊢
 obtain ⟨(a:List Int),(b:List Int),(c:List (List Int)),(w:Int),(t:List (List Int)),⟨(u:List Int),(v:List Int)⟩,_⟩:=x
 dsimp only at hfit hpre ⊢
 by_cases hw:errWd a b c w=0
 ·by_cases hl:errLo a b t=0
  ·have he:errLC a b c w t=0:=by rw [errLC,ah hw]; exact hl
   obtain ⟨_,hp,hlo⟩:=zNX he
   obtain ⟨hf,hw0,hw99⟩:=zCn hw
   have hfit2:=zUS hf hp hlo
   obtain ⟨s1,s2,s3,s4⟩:=MC.sums hf
   have h1:=zFR hp _ (ap _)
   have h2:=hfit2.spend t.length (ap _)
   have h3:=hp.rows
   have hfp:FullP a b w (spend c t) (movK t t.length):=⟨s1,s2,s3,s4,⟨hw0,hw99⟩,by show 0<=zCW c t t.length/\zCW c t t.length<=_; omega,by omega⟩
   by_cases hpr:zBe c w (u,v)=0
   ·have h4:=zJt hw hpr
    have eC:costV a b c w t=spend c t+w*(lsum a+lsum b - 2*movK t t.length):=rfl
    by_cases hq:costV a b c w t=zIh a b (u,v)
    ·have e:errBL a b c w t (u,v)=0:=by rw [errBL,ah hw,ah hl,ah hpr,ah hq]
     rw [eC] at hq
     replace hnl:=aa hnl (aa hw (aa hl (aa hpr (aa hfit2 (aa hp (aa (aG hfp) (aa h4 (aa e (aG hq)))))))))
     exact auB
    ·have e:errBL a b c w t (u,v)=8:=by rw [errBL,ah hw,ah hl,ah hpr,ae hq]
     rw [eC] at hq
     replace hnl:=aa hnl (aa hw (aa hl (aa hpr (aa hfit2 (aa hp (aa (aG hfp) (aa h4 (aa e (aB hq)))))))))
     exact auB
   ·have e:errBL a b c w t (u,v)=zBe c w (u,v):=by rw [errBL,ah hw,ah hl,ae hpr]
    replace hnl:=aa hnl (aa hw (aa hl (aa (aB hpr) e)))
    exact auB
  ·have e:errBL a b c w t (u,v)=7:=by rw [errBL,ah hw,ae hl]
   replace hnl:=aa hnl (aa hw (aa (aB hl) e))
   exact auB
 ·have e:errBL a b c w t (u,v)=errWd a b c w:=by rw [errBL,ae hw]
  replace hnl:=aa hnl (aa (aB hw) e)
  exact auB
theorem zMY:FnSpec Tryz.prog 37 zND:=by
 refine FnSpec.of_tri' (E:=know _ [] [] []) (zAl (kc zFV (kc zSk (kc zSl (kc zMZ (kc zP1 all_nil))))) all_nil all_nil) Tryz.func37 rfl rfl kr ?_
 intro C x hE hnl hfit hpre
 simp only [Tryz.ntmps37,Tryz.results37,maxLen,seval,push_cast] at hnl hfit hpre ⊢
 obtain ⟨(a:List Int),(b:List Int),(c:List (List Int)),(w:Int),(t:List (List Int)),⟨(u:List Int),(v:List Int)⟩,_⟩:=x
 dsimp only at hfit hpre ⊢
 by_cases hw:errWd a b c w=0
 ·by_cases hl:errLo a b t=0
  ·have he:errLC a b c w t=0:=by rw [errLC,ah hw]; exact hl
   by_cases hpr:zBe c w (u,v)=0
   ·have h4:=zJt hw hpr
    by_cases hq:costV a b c w t=zIh a b (u,v)
    ·have e:errBL a b c w t (u,v)=0:=by rw [errBL,ah hw,ah hl,ah hpr,ah hq]
     replace hnl:=aa hnl (aa hw (aa hl (aa hpr (aa he (aa h4 (aa e (aG hq)))))))
     exact auB
    ·have e:errBL a b c w t (u,v)=8:=by rw [errBL,ah hw,ah hl,ah hpr,ae hq]
     replace hnl:=aa hnl (aa hw (aa hl (aa hpr (aa he (aa h4 (aa e (aB hq)))))))
     exact auB
   ·have e:errBL a b c w t (u,v)=zBe c w (u,v):=by rw [errBL,ah hw,ah hl,ae hpr]
    replace hnl:=aa hnl (aa hw (aa hl (aa (aB hpr) e)))
    exact auB
  ·have e:errBL a b c w t (u,v)=7:=by rw [errBL,ah hw,ae hl]
   replace hnl:=aa hnl (aa hw (aa (aB hl) e))
   exact auB
 ·have e:errBL a b c w t (u,v)=errWd a b c w:=by rw [errBL,ae hw]
  replace hnl:=aa hnl (aa (aB hw) e)
  exact auB
end Go.Proofs.YtekfodeknpnkbaaGreatDoor
namespace Go.Proofs.YtekfodeknpnkbaaGreatDoor
open Go.RowKit Go.VS Go.OT
structure PrPre (c p:List (List Int)):Prop where
 R6:1<=c.length/\c.length<=6
 C6:1<=wid c/\wid c<=6
 hc:Tb c.length (wid c) 0 99 c
 hp:Tb c.length (wid c) 0 200 p
def prV (c p:List (List Int)):PS:=prK c p c.length (wid c) (c.length+wid c)
@[push_cast] def zSA:Con:=⟨[.dat (.sl (.sl .int)),.dat (.sl (.sl .int))],fun (x:List (List Int)×List (List Int)×Unit)=>PrPre x.1 x.2.1,fun (x:List (List Int)×List (List Int)×Unit)=>{res:=[.own (.flat 3 .int (prV x.1 x.2.1).r),.own (.flat 3 .int (prV x.1 x.2.1).k)]}⟩
theorem pr2_y {c p:List (List Int)} {i j:Nat} {s:PS} (hn:0<(p.getD i []).getD j 0) (hj:j<s.k.length):pr2 c p i j s=⟨s.r.set i (max (s.r.getD i 0) ((c.getD i []).getD j 0 - min (s.k.getD j 0) ((c.getD i []).getD j 0 - s.r.getD i 0))),s.k.set j (min (s.k.getD j 0) ((c.getD i []).getD j 0 - s.r.getD i 0))⟩:=by
 unfold pr2 prR prC
 rw [ah hn]
 dsimp only
 rw [zBj hj,ah rfl]
theorem pr2_n {c p:List (List Int)} {i j:Nat} {s:PS} (hn:¬0<(p.getD i []).getD j 0):pr2 c p i j s=⟨s.r,s.k.set j (min (s.k.getD j 0) ((c.getD i []).getD j 0 - s.r.getD i 0))⟩:=by
 unfold pr2 prR prC
 rw [ae hn]
set_option maxHeartbeats 2000000 in
theorem zNb:FnSpec Tryz.prog 131 zSA:=by
 refine FnSpec.of_tri' (E:=know [] [] [] [12,17]) (zAl all_nil all_nil all_nil) Tryz.func131 rfl rfl kr ?_
 intro C x hE hnl hfit hpre
 simp only [Tryz.ntmps131,Tryz.results131,maxLen,seval,push_cast] at hnl hfit hpre ⊢
 obtain ⟨(c:List (List Int)),(p:List (List Int)),_⟩:=x
 dsimp only at hfit hpre ⊢
 obtain ⟨h1,h2,hc,hp⟩:=hpre
 have hw:(c.getD 0 []).length=wid c:=rfl
 have hpl:=hp.rows
 have hrep:∀ n,(List.replicate n (0:Int)).length=n:=fun n=>aE
 replace hnl:=aa hnl (aa hw hrep)
 repeat' (first|(refine zCH 4 12 12 (by simp only [push_cast,seval,reduceCtorEq,cI]; rfl) (by omega) ?_)|(refine zCH 5 17 17 (by simp only [push_cast,seval,reduceCtorEq,cI]; rfl) (by omega) ?_)|(first|(refine goK (by assumption) ?_; iterate 4 (try clear hK K))|(refine zAb fun K hK=>?_)|((first|refine zAa hE rfl ?_|refine zAi ?_|((first|refine zAd hE 1 rfl rfl kr ?_|refine zAd hE 2 rfl rfl kr ?_|refine zAd hE 3 rfl rfl kr ?_|refine zAd hE 4 rfl rfl kr ?_); simp only [ao,List.length_nil,Nat.reduceAdd,Nat.reduceSub,ak,List.take_zero,al,ar])); simp +contextual only [hnl,↓kA,push_cast,seval,reduceCtorEq,cI])|refine zAc ?_|((first|refine zAg ?_|refine zAj ?_); simp only [thenQ,zAh,if_true,if_false,Nat.reduceEqDiff,reduceCtorEq])|(refine zAe (by rfl) (fun hb=>?_) (fun hb=>?_)<;>(try simp only [bq,reduceCtorEq] at hb)<;>(try omega))|refine zAF (by rfl) ?_ ?_|refine andS ?_|(refine ⟨fun hc=>?_,fun hc=>?_⟩)|(intro hc; try omega)))
 refine zAk (fun n:Nat=>AS.of [(0,.one (.val (.sl (.sl .int)) c)),(1,.one (.val (.sl (.sl .int)) p)),(4,.one (.ref 12)),(5,.one (.ref 17)),(22,.I ((c.length:Int)+(wid c:Int))),(23,.I n)] [(12,.flat 3 .int (prK c p c.length (wid c) n).r),(17,.flat 3 .int (prK c p c.length (wid c) n).k)] [])
  (fun n=>n<=c.length+wid c) (fun n=>c.length+wid c - n) 0 (aq _) ?_ ?_
 ·refine zAf ?_ ?_ ?_<;>simp only [push_cast,seval,reduceCtorEq,cI]
  exact ⟨.inl rfl,.inl rfl⟩
 intro n hn K' hL
 have hD:=zOi (p:=p) hc h1.2 h2.2 n
 have hDn:prK c p c.length (wid c) (n+1)=upto (prRow c p) c.length (prK c p c.length (wid c) n):=rfl
 repeat' (first|(refine goK (by assumption) ?_; iterate 4 (try clear hK K))|(refine zAb fun K hK=>?_)|((first|refine zAa hE rfl ?_|refine zAi ?_); simp +contextual only [hnl,↓kA,push_cast,seval,reduceCtorEq,cI])|refine zAc ?_|((first|refine zAg ?_|refine zAj ?_); simp only [thenQ,zAh,if_true,if_false,Nat.reduceEqDiff,reduceCtorEq])|(refine zAe (by rfl) (fun hb=>?_) (fun hb=>?_)<;>(try simp only [bq,reduceCtorEq] at hb)<;>(try omega))|fail)
 ·generalize prK c p c.length (wid c) n=s0 at hD hDn ⊢
  refine zAk (fun i:Nat=>AS.of [(0,.one (.val (.sl (.sl .int)) c)),(1,.one (.val (.sl (.sl .int)) p)),(4,.one (.ref 12)),(5,.one (.ref 17)),(22,.I ((c.length:Int)+(wid c:Int))),(23,.I n),(25,.one (.val (.sl (.sl .int)) c)),(26,.I c.length),(27,.I i)] [(12,.flat 3 .int (upto (prRow c p) i s0).r),(17,.flat 3 .int (upto (prRow c p) i s0).k)] [])
   (fun i=>i<=c.length) (fun i=>c.length - i) 0 (aq _) ?_ ?_
  ·refine zAf ?_ ?_ ?_<;>simp only [push_cast,seval,reduceCtorEq,cI]
   exact ⟨.inl rfl,.inl rfl⟩
  intro i hi K2 hL2
  repeat' (first|(refine goK (by assumption) ?_; iterate 4 (try clear hK K))|(refine zAb fun K hK=>?_)|(refine zAa hE rfl ?_; simp +contextual only [hnl,↓kA,push_cast,seval,reduceCtorEq,cI])|refine zAc ?_|((first|refine zAg ?_|refine zAj ?_); simp only [thenQ,zAh,if_true,if_false,Nat.reduceEqDiff,reduceCtorEq])|(refine zAe (by rfl) (fun hb=>?_) (fun hb=>?_)<;>(try simp only [bq,reduceCtorEq] at hb)<;>(try omega))|refine andS ?_|fail)
  ·have hi':i<c.length:=by omega
   have hci:=hc.cols i hi'
   have hpi:=hp.cols i hi'
   have hQ:=PSt.tab (p:=p) hc h2.2 hD i (by omega)
   have hQn:upto (prRow c p) (i+1) s0=upto (pr2 c p i) (c.getD i []).length (upto (prRow c p) i s0):=rfl
   generalize upto (prRow c p) i s0=s1 at hQ hQn ⊢
   refine zAk (fun j:Nat=>AS.of [(0,.one (.val (.sl (.sl .int)) c)),(1,.one (.val (.sl (.sl .int)) p)),(4,.one (.ref 12)),(5,.one (.ref 17)),(6,.I i),(22,.I ((c.length:Int)+(wid c:Int))),(23,.I n),(25,.one (.val (.sl (.sl .int)) c)),(26,.I c.length),(27,.I i),(32,.one (.val (.sl .int) (c.getD i []))),(33,.I (c.getD i []).length),(34,.I j)] [(12,.flat 3 .int (upto (pr2 c p i) j s1).r),(17,.flat 3 .int (upto (pr2 c p i) j s1).k)] [])
    (fun j=>j<=wid c) (fun j=>wid c - j) 0 (aq _) ?_ ?_
   ·refine zAf ?_ ?_ ?_<;>simp only [push_cast,seval,reduceCtorEq,cI]
    exact ⟨.inl rfl,.inl rfl⟩
   intro j hj K3 hL3
   have hF:=PSt.row (p:=p) hc hQ hi' j hj
   have hFn:upto (pr2 c p i) (j+1) s1=pr2 c p i j (upto (pr2 c p i) j s1):=rfl
   generalize hs2:upto (pr2 c p i) j s1=s2 at hF hFn ⊢
   have g1:=hF.l1
   have g2:=hF.l2
   have g3:=hF.b1 i hi'
   rcases ai j (wid c) with hjb|hjb
   ·have g4:=hF.b2 j hjb
    have g5:=hc.at' i j hi' hjb
    have g6:∀ x:Int,(s2.k.set j x).getD j 0=x:=fun x=>by rw [zBj (by omega),ah rfl]
    have g7:∀ x:Int,(s2.k.set j x).length=s2.k.length:=fun x=>be
    replace hnl:=aa hnl (aa g6 g7)
    repeat' (first|(refine goK (by assumption) ?_; iterate 4 (try clear hK K))|(refine zAb fun K hK=>?_)|((first|refine zAa hE rfl ?_|((first|refine zAd hE 1 rfl rfl kr ?_|refine zAd hE 2 rfl rfl kr ?_|refine zAd hE 3 rfl rfl kr ?_|refine zAd hE 4 rfl rfl kr ?_); simp only [ao,List.length_nil,Nat.reduceAdd,Nat.reduceSub,ak,List.take_zero,al,ar])); simp +contextual only [hnl,↓kA,push_cast,seval,reduceCtorEq,cI])|refine zAc ?_|(refine zAg ?_; simp only [thenQ,zAh,if_true,if_false,Nat.reduceEqDiff,reduceCtorEq])|(refine zAe (by rfl) (fun hb=>?_) (fun hb=>?_)<;>(try simp only [bq,reduceCtorEq] at hb)<;>(try omega))|refine andS ?_|fail)
    all_goals refine hL3 _ (j+1) (by omega) (by omega) ?_
    all_goals refine zAf ?_ ?_ ?_<;>simp only [push_cast,seval,reduceCtorEq,cI]
    all_goals rw [hFn]
    all_goals first|rw [pr2_y (by omega) (by omega)]|rw [pr2_n (by omega)]
    all_goals exact ⟨.inl rfl,.inl rfl⟩
   ·repeat' (first|(refine goK (by assumption) ?_; iterate 4 (try clear hK K))|(refine zAb fun K hK=>?_)|(refine zAa hE rfl ?_; simp +contextual only [hnl,↓kA,push_cast,seval,reduceCtorEq,cI])|(refine zAj ?_; simp only [thenQ,zAh,if_true,if_false,Nat.reduceEqDiff,reduceCtorEq])|(refine zAe (by rfl) (fun hb=>?_) (fun hb=>?_)<;>(try simp only [bq,reduceCtorEq] at hb)<;>(try omega))|refine andS ?_|fail)
    obtain rfl:j=(c.getD i []).length:=by omega
    rw [hs2] at hQn
    refine hL2 _ (i+1) (by omega) (by omega) ?_
    refine zAf ?_ ?_ ?_<;>simp only [push_cast,seval,reduceCtorEq,cI]
    rw [hQn]
    exact ⟨.inl rfl,.inl rfl⟩
  ·obtain rfl:i=c.length:=by omega
   refine hL _ (n+1) (by omega) (by omega) ?_
   refine zAf ?_ ?_ ?_<;>simp only [push_cast,seval,reduceCtorEq,cI]
   rw [hDn]
   exact ⟨.inl rfl,.inl rfl⟩
 ·obtain rfl:n=c.length+wid c:=by omega
  exact ⟨rfl,rfl⟩
end Go.Proofs.YtekfodeknpnkbaaGreatDoor
namespace Go.Proofs.YtekfodeknpnkbaaGreatDoor
open Go.RowKit Go.VS Go.OT Go.LC
section
variable {a b:List Int} {c:List (List Int)} {w d e m:Int}
theorem zW4 (h:DumP a b c m) (hd:0<=d/\d<=99) (he:0<=e/\e<=99):MC (dumA a b m) (dumA b a m) (dumC c d e):=by
 have hq:=zNP h hd (e:=e) (by omega)
 refine ⟨hq.a5,hq.b5,hq.ha,hq.hb,⟨hq.hc.rows,hq.hc.cols,fun i j hi hj=>?_⟩⟩
 have hf:=h.f
 have hr:=hf.rows
 have hw:=hf.cols
 rw [zBK] at hi hj
 have h9:=zJK (d:=d) (e:=e) hf.hc (i:=i) (j:=j) (by omega) (by omega)
 unfold gt at h9
 rw [h9]
 unfold costD
 split
 ·rename_i h
  split
  ·rename_i h'
   exact hf.hc.at h h'
  ·exact hd
 ·split
  ·exact hd
  ·exact he
def lpT (c:List (List Int)) (w:Int):List (List Int):=dumC c w 0
def lpP (a b:List Int) (c:List (List Int)) (w:Int):List (List Int):=cheapV (dumA a b 0) (dumA b a 0) (lpT c w)
def lpS (a b:List Int) (c:List (List Int)) (w:Int):PS:=prV (lpT c w) (lpP a b c w)
def lpRk (a b:List Int) (c:List (List Int)) (w:Int) (k:Nat):List Int:=tbl (a.length+1) fun i=>if i<k then (lpS a b c w).r.getD i 0+(lpS a b c w).k.getD b.length 0 else (lpS a b c w).r.getD i 0
def lpCk (a b:List Int) (c:List (List Int)) (w:Int) (k:Nat):List Int:=tbl (b.length+1) fun j=>if j<k then (lpS a b c w).k.getD j 0+(lpS a b c w).r.getD a.length 0 else (lpS a b c w).k.getD j 0
def lpR (a b:List Int) (c:List (List Int)) (w:Int):zBp:=(tbl a.length fun i=>(lpS a b c w).r.getD i 0+(lpS a b c w).k.getD b.length 0,tbl b.length fun j=>(lpS a b c w).k.getD j 0+(lpS a b c w).r.getD a.length 0)
structure LpOK (a b:List Int) (c:List (List Int)) (w:Int):Prop where
 mc:MC (dumA a b 0) (dumA b a 0) (lpT c w)
 pre:PrPre (lpT c w) (lpP a b c w)
 l1:(lpS a b c w).r.length=a.length+1
 l2:(lpS a b c w).k.length=b.length+1
 b1:∀ i,i<a.length+1->0<=(lpS a b c w).r.getD i 0/\(lpS a b c w).r.getD i 0<=99
 b2:∀ j,j<b.length+1 -> -99<=(lpS a b c w).k.getD j 0/\(lpS a b c w).k.getD j 0<=0
 holds:Holds (a.length+1) (b.length+1) (costD a.length b.length (gt c) w 0) (fun i=>(lpS a b c w).r.getD i 0) (fun j=>(lpS a b c w).k.getD j 0)
 val:worth (a.length+1) (b.length+1) (withD a.length (ga a) (sumL b)) (withD b.length (ga b) (sumL a)) (fun i=>(lpS a b c w).r.getD i 0) (fun j=>(lpS a b c w).k.getD j 0)=zB0 a b c w
 cost:cst (a.length+1) (b.length+1) (gt (lpT c w)) (gt (lpP a b c w))=zB0 a b c w
 sums:sumL (dumA a b 0)=sumL (dumA b a 0)
theorem zWv (hf:ForOK a b c):wid (dumC c d e)=wid c+1:=by
 have hr:=hf.rows
 have ha:=hf.mc.a5
 have:=zJL (d:=d) (e:=e) (c:=c) (i:=0) (by omega)
 unfold wid at this ⊢
 rw [this,aL]
 rfl
theorem lp_ok (hf:ForOK a b c) (hw:0<=w/\w<=99):LpOK a b c w:=by
 have hd:DumP a b c 0:=⟨hf,by omega,by have:=MC.sums hf; omega⟩
 have hmc:=zW4 hd hw (e:=0) (by omega)
 have hs:sumL (dumA a b 0)=sumL (dumA b a 0):=(zNP hd hw (e:=0) (by omega)).hs
 have hb:=hmc.best hs
 obtain ⟨r,s,g1,g2,g3,g4⟩:=hb.good
 have hr:=hf.rows
 have hc:=hf.cols
 have ha5:=hf.mc.a5
 have hb5:=hf.mc.b5
 have am:=zCd hf.ha
 have bm:=zCd hf.hb
 have hTl:(lpT c w).length=a.length+1:=by rw [lpT,zNO,hr]
 have hTw:wid (lpT c w)=b.length+1:=by rw [lpT,zWv hf,hc]
 have hct:=hmc.hc
 have hpt:=hb.shp.tab
 have hpl:=hb.plan
 rw [zBK,zBK] at hct hpt hpl g1 g2
 rw [zBK] at g3 g4
 have e:lpS a b c w=prK (dumC c w 0) (lpP a b c w) (a.length+1) (b.length+1) (a.length+1+(b.length+1)):=by
  unfold lpS prV
  rw [hTl,hTw]
  rfl
 have hst:=zOi (p:=lpP a b c w) hct (by omega) (by omega) (a.length+1+(b.length+1))
 obtain ⟨q1,q2,q3,q4⟩:=zXW (p:=lpP a b c w) hct (by omega) (by omega) g1 g2 g3 g4
 rw [<-e] at hst q1 q2 q3 q4
 have hC:∀ i j,i<a.length+1->j<b.length+1->gt (dumC c w 0) i j=costD a.length b.length (gt c) w 0 i j:=fun i j hi hj=>by
  rw [zJK hf.hc (by omega) (by omega),hr,hc]
 have eC:∀ Q,cst (a.length+1) (b.length+1) (costD a.length b.length (gt c) w 0) Q=cst (a.length+1) (b.length+1) (gt (dumC c w 0)) Q:=fun Q=>by
  unfold cst
  exact zAm _ fun i hi=>zAm _ fun j hj=>by rw [hC i j hi hj]
 have hpl2:IsPlan (a.length+1) (b.length+1) (withD a.length (ga a) (sumL b - 0)) (withD b.length (ga b) (sumL a - 0)) (gt (lpP a b c w)) :=
  ⟨hpl.nn,fun i hi=>(hpl.row i hi).trans (zFi hi),fun j hj=>(hpl.col j hj).trans (zFi hj)⟩
 have k1:=hpl2.worth_eq q2
 have k2:=zIC hf.mc w (v:=cst (a.length+1) (b.length+1) (costD a.length b.length (gt c) w 0) (gt (lpP a b c w))) ⟨_,hpl2,rfl⟩ (fun Q hQ=>by
  rw [eC,eC]; exact hpl2.least q1 q2 hQ)
 refine ⟨hmc,⟨by omega,by omega,?_,?_⟩,hst.l1,hst.l2,q3,q4,fun i j hi hj=>?_,?_,?_,hs⟩
 ·rw [hTl,hTw]; exact hct
 ·rw [hTl,hTw]; exact hpt
 ·rw [<-hC i j hi hj]; exact q1 i j hi hj
 ·rw [Int.sub_zero,Int.sub_zero] at k1
  rw [k1,<-eC,k2]
 ·exact (eC _).symm.trans k2
theorem zTP (hf:ForOK a b c) (hw:0<=w/\w<=99):zBe c w (lpR a b c w)=0/\zIh a b (lpR a b c w)=zB0 a b c w:=by
 have h:=lp_ok hf hw
 have hr:=hf.rows
 have hc:=hf.cols
 have hm:(lpS a b c w).r.getD a.length 0+(lpS a b c w).k.getD b.length 0<=0:=by
  have:=h.holds a.length b.length (by omega) (by omega)
  unfold costD at this
  rwa [ae (aZ _),ae (aZ _)] at this
 obtain ⟨k1,k2,k3,k4⟩:=zMs (a:=ga a) (b:=ga b) h.holds hm
 have eR:∀ i,i<a.length->ga (lpR a b c w).1 i=(lpS a b c w).r.getD i 0+(lpS a b c w).k.getD b.length 0:=fun i hi=>zBw _ _ hi
 have eC:∀ j,j<b.length->ga (lpR a b c w).2 j=(lpS a b c w).k.getD j 0+(lpS a b c w).r.getD a.length 0:=fun j hj=>zBw _ _ hj
 have lR:(lpR a b c w).1.length=a.length:=zAY _ _
 have lC:(lpR a b c w).2.length=b.length:=zAY _ _
 have at_mem:∀ (l:List Int) (x:Int),x∈l->∃ i,i<l.length/\x=ga l i:=fun l x hx=>by
  obtain ⟨i,hi,rfl⟩:=aN hx
  exact ⟨i,hi,by unfold ga; rw [ab,aj hi]; rfl⟩
 have hholds:HoldP c (lpR a b c w):=fun i hi j hj=>by
  show ga (lpR a b c w).1 i+ga (lpR a b c w).2 j<=gt c i j
  rw [eR i (by omega),eC j (by omega)]
  exact k1 i j (by omega) (by omega)
 have hare:ArePr c (lpR a b c w):=by
  refine ⟨⟨by rw [lR,hr],fun x hx=>?_⟩,⟨by rw [lC,hc],fun x hx=>?_⟩⟩
  ·obtain ⟨i,hi,rfl⟩:=at_mem _ _ hx
   rw [lR] at hi
   rw [eR i hi]
   have:=h.b1 i (by omega)
   have:=h.b2 b.length (by omega)
   omega
  ·obtain ⟨i,hi,rfl⟩:=at_mem _ _ hx
   rw [lC] at hi
   rw [eC i hi]
   have:=h.b2 i (by omega)
   have:=h.b1 a.length (by omega)
   omega
 have hlow:LowP w (lpR a b c w):=fun x hx=>by
  rcases aV.1 hx with hx|hx
  ·obtain ⟨i,hi,rfl⟩:=at_mem _ _ hx
   rw [lR] at hi
   rw [eR i hi]
   exact k2 i hi
  ·obtain ⟨i,hi,rfl⟩:=at_mem _ _ hx
   rw [lC] at hi
   rw [eC i hi]
   exact k3 i hi
 refine ⟨?_,?_⟩
 ·rw [zBe,ah ⟨zDH hf.hc,ah hw⟩,ah (zMu hf.hc hare hholds),ah hlow]
 ·rw [worth_eq,<-h.val]
  refine Eq.trans ?_ k4
  unfold worth
  rw [zAm a.length fun i hi=>by rw [eR i hi],zAm b.length fun j hj=>by rw [eC j hj]]
end
end Go.Proofs.YtekfodeknpnkbaaGreatDoor
namespace Go.Proofs.YtekfodeknpnkbaaGreatDoor
open Go.RowKit Go.VS Go.OT
structure RepQ (E:Know) (nl:Nat) (L:List Oper) (n x y d:Nat) (K:AS->Prop) (s':AS):Prop where
 h:∃ m v:Int,s'.env x=.one (.val (.sl .int) [v])/\s'.env y=.one (.val .int m)/\0<=m/\m<=1000 /\
  runK E nl L.toArray (L.drop (n+1)) (((s'.map (killR d)).setRoot d (some (.flat 3 .int (List.replicate m.toNat v)))).put (some d) (.one (.ref d))) K
theorem RepQ.mk' {E:Know} {nl:Nat} {L:List Oper} {n x y d:Nat} {K:AS->Prop} {s':AS} (m v:Int) (h1:s'.env x=.one (.val (.sl .int) [v])) (h2:s'.env y=.one (.val .int m)) (h3:0<=m) (h4:m<=1000)
 (h5:runK E nl L.toArray (L.drop (n+1)) (((s'.map (killR d)).setRoot d (some (.flat 3 .int (List.replicate m.toNat v)))).put (some d) (.one (.ref d))) K):RepQ E nl L n x y d K s':=⟨m,v,h1,h2,h3,h4,h5⟩
theorem zPX {C:Ctx} {N:Nat} {Q:Exit->AS->Prop} {s:AS} {E:Know} (hE:KnowOK C.P E) (hP:C.P=Tryz.prog) {id d x y:Nat} {ats:Array TypeId} {ty:TypeId} {pos:String} {af:Array Edge} {L:List Oper} (n:Nat) (hnl:C.nl<=d)
 (hL:L=L.take n++⟨some d,.call {callee:=.value (.func 93),args:=#[.tmp x,.tmp y],argTypes:=ats},ty,pos,af,none⟩::L.drop (n+1)) (hd:zDE N L=true)
 (h:runK E C.nl L.toArray (L.take n) s (RepQ E C.nl L n x y d (Q .normal))):tri C N (.region id L.toArray false) Q s:=by
 refine ⟨fun γ a w hr hN=>?_⟩
 have hd':∀ (j:Nat) (o:Oper),L.toArray[j]?=some o->dstOK N o.dst=true:=fun j o ho=>zBd (ops:=L.toArray) (by simpa using hd) j o ho
 have hb:=ay.1 hd
 have hdd:d<N:=by
  have:=hb ⟨some d,.call {callee:=.value (.func 93),args:=#[.tmp x,.tmp y],argTypes:=ats},ty,pos,af,none⟩ (by rw [hL]; simp)
  simpa [dstOK] using this
 refine wp_region_lit ?_
 have key:=runK_then (N:=N) (rest:=⟨some d,.call {callee:=.value (.func 93),args:=#[.tmp x,.tmp y],argTypes:=ats},ty,pos,af,none⟩::L.drop (n+1)) hE (Q:=fun e a' w'=>∃ s' γ',Rel C γ' s' a' w'/\a'.tmps.size=N/\Q e s') hd'
  (fun s' γ' a' w' h1 h2 h3=>?_) (L.take n) s γ a w (fun o ho=>hb o (bV ho)) hN hr h
 ·rw [<-hL] at key
  exact key
 obtain ⟨m,v,k1,k2,k3,k4,k5⟩:=h3.h
 have hx:=h1.env x
 have hy:=h1.env y
 rw [k1] at hx
 rw [k2] at hy
 obtain ⟨k,rfl⟩:∃ k:Nat,m=k:=⟨m.toNat,by omega⟩
 have hyv:a'.tmps.getD y undef=.int .i64 (k:Int):=zAC hy
 obtain ⟨cs,⟨ad,cap,rfl,hc,hm,hall⟩,hxv⟩:=hx
 obtain ⟨b,off,c,rfl,hz,hbb,hp,hcell⟩:=hall 0 (by simp)
 have hp':c=[.int .i64 v]:=hp
 subst hp'
 have hcl:w'.cell? ⟨b,off,none⟩=some (.int .i64 v):=by simpa using hcell 0 _ rfl
 have hxv':a'.tmps.getD x undef=.slice (some ⟨b,off,none⟩) 1 cap:=hxv
 have hcal:zA5 C.P 93:=by rw [hP]; exact ⟨_,Tryz.func93,by kernel_rfl,rfl⟩
 refine wpList_step fun K' hK'=>?_
 simp only [Region.wanted,if_true]
 have e1:=zDh hcal (ρ:=a'.eval) (x:=.func 93) (caps:=#[]) rfl #[.tmp x,.tmp y] ats (some d) ty pos af none w'
 simp only [Oper.wp,e1,Oper.upon]
 have hargs:#[Operand.tmp x,.tmp y].map a'.eval++#[]=#[.slice (some ⟨b,off,none⟩) 1 cap,.int .i64 (k:Int)]:=by
  simp only [bH] at hxv' hyv
  simp [Act.eval,hxv',hyv]
 rw [hargs,hP]
 refine (zGR v k (by omega) w' b off cap hcl hbb).mono ?_
 rintro e w2 ⟨rfl,hheap,hbel⟩
 refine hK' _ _ ?_
 have hgr:w'.grownBy w2 none:=⟨hbel.os,hbel.tape,hbel.output,hbel.size,fun k hk _=>hbel.block k hk⟩
 let X:Sl:=⟨some ⟨w'.heap.size,0,none⟩,k,k⟩
 have hXb:∀ b,X.v.ownBlock=some b->b=w'.heap.size/\b<w2.heap.size:=fun b hb=>by
  simp only [X,Sl.v,Value.ownBlock,ac] at hb
  subst hb
  exact ⟨rfl,(aP.1 hheap).1⟩
 have hfm:(List.replicate k v).flatMap (Sh.int).cells=List.replicate k (Value.int .i64 v):=by rw [List.flatMap_replicate]; simp [Sh.cells]
 have hrel:Rel C (zBS γ' d X (γ'.rs d) w'.heap.size) ((s'.map (killR d)).setRoot d (some (.flat 3 .int (List.replicate (k:Int).toNat v)))) a' w2:=by
  refine zGr h1 hnl X (γ'.rs d) hgr hXb ⟨rfl,?_,?_⟩
  ·rw [zAV,aW,aE,hfm]
   exact ⟨by simp [Sh.size],.inr ⟨w'.heap.size,_,_,rfl,aq _,hheap,ap _,by show k<=maxLen; unfold maxLen; omega,by simp [X,Sh.size],by simp [Sh.size]⟩⟩
  ·rw [zAV]
   exact zC9 h1 (fun b hb=>(hXb b hb).1)
 have hput:=hrel.put (d:=some d) (by simp [dstOK,h2,hdd]) (sv:=.one (.ref d)) (v:=X.v) (by simp only [svRep,bvRep]; rw [zAV])
 exact zDa (N:=N) hE hd' (fun s2 γ2 a2 w2 g1 g2 g3=>⟨s2,γ2,g1,g2,g3⟩) (L.drop (n+1)) _ _ _ _ (fun o ho=>hb o (cA ho)) (by simp [Act.put,h2]) hput k5
end Go.Proofs.YtekfodeknpnkbaaGreatDoor
namespace Go.Proofs.YtekfodeknpnkbaaGreatDoor
open Go.RowKit Go.VS Go.OT Go.LC
section
variable {a b:List Int} {c:List (List Int)} {w:Int}
theorem zSF (l:List Int) {n:Nat} (h:l.length=n):tbl n (fun i=>l.getD i 0)=l:=by
 apply List.ext_getElem
 ·rw [zAY,h]
 ·intro i h1 h2
  have:=zBw (n:=n) (fun i=>l.getD i 0) (0:Int) (show i<n by rw [<-h]; exact h2)
  rw [ab,aj h1,ab,aj h2] at this
  exact this
theorem zOw (f:Nat->Int) {m n:Nat} (h:m<=n):(tbl n f).take m=tbl m f:=by
 apply List.ext_getElem
 ·rw [aU,zAY,zAY]; omega
 ·intro i h1 h2
  rw [zAY] at h2
  have e1:=zBw (n:=n) f (0:Int) (show i<n by omega)
  have e2:=zBw (n:=m) f (0:Int) h2
  rw [List.getElem_take]
  rw [ab,aj (by rw [zAY]; omega)] at e1 e2
  exact e1.trans e2.symm
theorem zXF (h:LpOK a b c w):lpRk a b c w 0=(lpS a b c w).r:=by
 refine Eq.trans ?_ (zSF _ h.l1)
 exact zAE fun i _=>ae (bE i)
theorem zXE (h:LpOK a b c w):lpCk a b c w 0=(lpS a b c w).k:=by
 refine Eq.trans ?_ (zSF _ h.l2)
 exact zAE fun i _=>ae (bE i)
theorem zTO (k:Nat):(lpRk a b c w k).length=a.length+1:=zAY _ _
theorem zTM (k:Nat):(lpCk a b c w k).length=b.length+1:=zAY _ _
theorem zRy {k i:Nat} (h:k<=i) (hi:i<a.length+1):(lpRk a b c w k).getD i 0=(lpS a b c w).r.getD i 0:=by
 unfold lpRk
 rw [zBw _ _ hi,ae (by omega)]
theorem zVZ {k i:Nat} (h:k<=i) (hi:i<b.length+1):(lpCk a b c w k).getD i 0=(lpS a b c w).k.getD i 0:=by
 unfold lpCk
 rw [zBw _ _ hi,ae (by omega)]
theorem zRz {k:Nat} (hk:k<a.length) {x:Int} (hx:x=(lpS a b c w).r.getD k 0+(lpS a b c w).k.getD b.length 0):(lpRk a b c w k).set k x=lpRk a b c w (k+1):=by
 unfold lpRk
 rw [zEF]
 refine zAE fun i hi=>?_
 by_cases h:i=k
 ·subst h; rw [ah rfl,ah (by omega),hx]
 ·rw [ae h]
  by_cases h2:i<k
  ·rw [ah h2,ah (by omega)]
  ·rw [ae h2,ae (by omega)]
theorem zRx {k:Nat} (hk:k<b.length) {x:Int} (hx:x=(lpS a b c w).k.getD k 0+(lpS a b c w).r.getD a.length 0):(lpCk a b c w k).set k x=lpCk a b c w (k+1):=by
 unfold lpCk
 rw [zEF]
 refine zAE fun i hi=>?_
 by_cases h:i=k
 ·subst h; rw [ah rfl,ah (by omega),hx]
 ·rw [ae h]
  by_cases h2:i<k
  ·rw [ah h2,ah (by omega)]
  ·rw [ae h2,ae (by omega)]
theorem zTN:(lpRk a b c w a.length).take a.length=(lpR a b c w).1:=by
 unfold lpRk lpR
 rw [zOw _ (by omega)]
 exact zAE fun i hi=>ah hi
theorem zTL:(lpCk a b c w b.length).take b.length=(lpR a b c w).2:=by
 unfold lpCk lpR
 rw [zOw _ (by omega)]
 exact zAE fun i hi=>ah hi
end
@[push_cast] theorem zVS {t:Sh} {r k:Nat} {bs:List BV}:zHD t (.refp r k::bs)=none:=by simp [zHD,leaf]
def lpE (a b:List Int) (c:List (List Int)) (w:Int):zBp:=if errWd a b c w=0 then lpR a b c w else ([],[])
@[push_cast] def zPd:Con:=⟨[.dat (.sl .int),.dat (.sl .int),.dat (.sl (.sl .int)),.dat .int],fun _=>True,fun (x:List Int×List Int×List (List Int)×Int×Unit) =>
 {res:=[.val (.prod (.sl .int) (.sl .int)) (lpE x.1 x.2.1 x.2.2.1 x.2.2.2.1),.val .int (errWd x.1 x.2.1 x.2.2.1 x.2.2.2.1)]}⟩
structure StopP (p:Prop):Prop where
 h:p
set_option maxHeartbeats 4000000 in
theorem zK2:FnSpec Tryz.prog 82 zPd:=by
 refine FnSpec.of_triP (E:=know _ [] [] []) (zAl (kc zEf (kc zIz (kc zD6 (kc zOO (kc zNb all_nil))))) all_nil all_nil) Tryz.func82 rfl rfl kr ?_
 intro C x hP hE hnl hfit hpre
 simp only [Tryz.ntmps82,Tryz.results82,maxLen,seval,push_cast] at hnl hfit hpre ⊢
 obtain ⟨(a:List Int),(b:List Int),(c:List (List Int)),(w:Int),_⟩:=x
 dsimp only at hfit hpre ⊢
 refine zKj ?_
 by_cases he:errWd a b c w=0
 ·obtain ⟨hf,hw⟩:=zCn he
  have hk:=lp_ok hf hw
  have h3:lpE a b c w=lpR a b c w:=ah he
  have ha5:=hf.mc.a5
  have hb5:=hf.mc.b5
  have hcr:=hf.rows
  have hcw:=hf.cols
  obtain ⟨s1,s2,s3,s4⟩:=MC.sums hf
  have hnl0:=hnl
  have hrl:=hk.l1
  have hkl:=hk.l2
  replace hnl:=aa hnl (aa he (aa h3 (aa (fun m=>aG (s1 m)) (fun m=>aG (s2 m)))))
  repeat' (first|(refine goK (by assumption) ?_; iterate 4 (try clear hK K))|(refine zAb fun K hK=>?_)|(refine zAa hE rfl ?_; simp +contextual only [hnl,↓kA,push_cast,seval,reduceCtorEq,cI])|refine zAc ?_|(refine zAg ?_; simp only [thenQ,zAh,if_true,if_false,Nat.reduceEqDiff,reduceCtorEq])|(refine zAe (by rfl) (fun hb=>?_) (fun hb=>?_)<;>(try simp only [bq,reduceCtorEq] at hb)<;>(try omega))|fail)
  refine zAk (fun k:Nat=>AS.of [(0,.one (.val (.sl .int) a)),(1,.one (.val (.sl .int) b)),(2,.one (.val (.sl (.sl .int)) c)),(3,.I w),(8,.one (.box 8)),(11,.one (.ref 43)),(30,.one (.val (.sl (.sl .int)) c)),(31,.I c.length),(32,.I k)] [(43,.deep 38 3 .int ((c.take k).map fun r=>r++[w]))] [(8,.rcd [.nils,.nils])]) (fun k=>k<=c.length) (fun k=>c.length - k) 0 (aq _) ?_ ?_
  ·refine zAf ?_ ?_ ?_<;>simp only [push_cast,seval,reduceCtorEq,cI]
   all_goals first|exact ⟨by omega,rfl⟩|omega|rfl
  intro k hkc K' hL
  rcases ai k c.length with hkl|hkl
  ·have hrow:(c.getD k []).length=wid c:=hf.hc.len hkl
   have hml:(List.map (fun r=>r++[w]) (List.take k c)).length<=1000000:=by rw [bp,aU]; omega
   have hms:List.map (fun r=>r++[w]) (List.take k c)++[c.getD k []++[w]]=List.map (fun r=>r++[w]) (List.take (k+1) c):=by
    rw [bb hkl,bF]
    simp [ab,hkl]
   have hrl2:List.length (c.getD k [])<=1000000:=by rw [hrow]; omega
   replace hnl:=aa hnl (aa hrl2 hml)
   repeat' (first|(refine goK (by assumption) ?_; iterate 4 (try clear hK K))|(refine zAb fun K hK=>?_)|(refine zAa hE rfl ?_; simp +contextual only [hnl,↓kA,push_cast,seval,reduceCtorEq,cI])|refine zAc ?_|(refine zAg ?_; simp only [thenQ,zAh,if_true,if_false,Nat.reduceEqDiff,reduceCtorEq])|(refine zAe (by rfl) (fun hb=>?_) (fun hb=>?_)<;>(try simp only [bq,reduceCtorEq] at hb)<;>(try omega))|refine andS ?_|fail)
   rw [hms]
   refine hL _ (k+1) (by omega) (by omega) ?_
   refine zAf ?_ ?_ ?_<;>simp only [push_cast,seval,reduceCtorEq,cI]
   all_goals exact .inl rfl
  obtain rfl:k=c.length:=by omega
  clear hL
  have hml:(List.map (fun r=>r++[w]) (List.take c.length c)).length<=1000000:=by rw [bp,aU]; omega
  have eT:List.map (fun r=>r++[w]) (List.take c.length c)++[List.replicate b.length w++[0]]=lpT c w:=by unfold lpT dumC; rw [bS,hcw]
  have eX:a++[lsum b]=dumA a b 0:=by unfold dumA; rw [Int.sub_zero]
  have eY:b++[lsum a]=dumA b a 0:=by unfold dumA; rw [Int.sub_zero]
  have eP:cheapV (dumA a b 0) (dumA b a 0) (lpT c w)=lpP a b c w:=rfl
  have eS:prV (lpT c w) (lpP a b c w)=lpS a b c w:=rfl
  have hmc:=hk.mc
  have hpr:=hk.pre
  have hrp:(List.replicate b.length w).length<=1000000:=by rw [aE]; omega
  replace hnl:=aa hnl (aa hrp (aa hml (aa eT (aa eX (aa eY (aa eP (aa eS (aa hmc hpr))))))))
  repeat' (first|(refine goK (by assumption) ?_; iterate 4 (try clear hK K))|(refine zAb fun K hK=>?_)|(refine zAa hE rfl ?_; simp +contextual only [hnl,↓kA,push_cast,seval,reduceCtorEq,cI])|(refine zAj ?_; simp only [thenQ,zAh,if_true,if_false,Nat.reduceEqDiff,reduceCtorEq])|(refine zAe (by rfl) (fun hb=>?_) (fun hb=>?_)<;>(try simp only [bq,reduceCtorEq] at hb)<;>(try omega))|fail)
  (refine zPX hE hP 5 (by omega) rfl rfl ?_; simp only [ao,List.length_nil,Nat.reduceAdd,Nat.reduceSub,ak,List.take_zero,al,ar]; simp +contextual only [hnl,↓kA,push_cast,seval,reduceCtorEq,cI])
  refine ⟨rfl,RepQ.mk' (b.length:Int) w (by simp only [push_cast,seval,reduceCtorEq,cI]) (by simp only [push_cast,seval,reduceCtorEq,cI]) (by omega) (by omega) ?_⟩
  simp only [ao,List.length_nil,Nat.reduceAdd,Nat.reduceSub,ak,List.take_zero,al,ar]
  simp +contextual only [hnl,↓kA,push_cast,seval,reduceCtorEq,cI]
  repeat' (first|(refine zAr (t:=AS.of [(0,.one (.val (.sl .int) a)),(1,.one (.val (.sl .int) b)),(8,.one (.box 8)),(16,.one (.ref 73)),(17,.one (.ref 1073))] [(73,.flat 3 .int (lpS a b c w).r),(1073,.flat 3 .int (lpS a b c w).k)] [(8,.rcd [.nils,.nils])]) ?_ (StopP.h ?_); · (refine zAf ?_ ?_ ?_<;>simp only [push_cast,seval,reduceCtorEq,cI]; all_goals exact .inl rfl))|(first|(refine goK (by assumption) ?_; iterate 4 (try clear hK K))|(refine zAb fun K hK=>?_)|((first|refine zAa hE rfl ?_|refine zAi ?_|((first|refine zAd hE 1 rfl rfl kr ?_|refine zAd hE 2 rfl rfl kr ?_|refine zAd hE 3 rfl rfl kr ?_|refine zAd hE 4 rfl rfl kr ?_); simp only [ao,List.length_nil,Nat.reduceAdd,Nat.reduceSub,ak,List.take_zero,al,ar])); simp +contextual only [hnl,↓kA,push_cast,seval,reduceCtorEq,cI])|refine zAc ?_|((first|refine zAg ?_|refine zAj ?_); simp only [thenQ,zAh,if_true,if_false,Nat.reduceEqDiff,reduceCtorEq])|(refine zAe (by rfl) (fun hb=>?_) (fun hb=>?_)<;>(try simp only [bq,reduceCtorEq] at hb)<;>(try omega))|refine zAF (by rfl) ?_ ?_|refine andS ?_|(refine ⟨fun hc=>?_,fun hc=>?_⟩)|(intro hc; try omega)))
  all_goals try refine ⟨?_⟩
  refine zAb fun K hK=>?_
  refine zB8 hE (fun D s=>(D 10=true->D 9=true)/\s.roots 73=some (.flat 3 .int (lpS a b c w).r)/\s.roots 1073=some (.flat 3 .int (lpS a b c w).k)/\(∀ q,q≠73->q≠1073->s.roots q=none) /\
   s.boxes 8=some (.rcd [.nils,.nils])/\s.env 0=.one (.val (.sl .int) a)/\s.env 1=.one (.val (.sl .int) b)/\s.env 8=.one (.box 8)/\s.env 16=.one (.ref 73)/\s.env 17=.one (.ref 1073) /\
   (D 0=true->s.env 76=.one (.ref 73))/\(D 1=true->s.env 77=.one (.val (.sl .int) a))/\(D 2=true->s.env 78=.I a.length)/\(D 3=true->s.env 79=.one (.refp 73 a.length)) /\
   (D 4=true->s.env 80=.one (.ref 1073))/\(D 5=true->s.env 81=.one (.val (.sl .int) b))/\(D 6=true->s.env 82=.I b.length)/\(D 7=true->s.env 83=.one (.refp 1073 b.length)) /\
   (D 8=true->s.env 84=.rcd [.refp 73 a.length,.refp 1073 b.length])/\(D 9=true->s.env 18=.one (.box 18))/\(D 9=true->s.boxes 18=some (if D 10=true then .rcd [.refp 73 a.length,.refp 1073 b.length] else .rcd [.nils,.nils]))) rfl kr ?_ ?_ ?_
  ·dsimp only
   simp +contextual only [push_cast,seval,reduceCtorEq,cI]
   all_goals done
  ·refine ⟨fun D s h0 hp hI=>?_,fun D s h0 hp hI=>?_,fun D s h0 hp hI=>?_,fun D s h0 hp hI=>?_,fun D s h0 hp hI=>?_,fun D s h0 hp hI=>?_,fun D s h0 hp hI=>?_,fun D s h0 hp hI=>?_,fun D s h0 hp hI=>?_,fun D s h0 hp hI=>?_,fun D s h0 hp hI=>?_,trivial⟩
   all_goals obtain ⟨o1,r1,r2,r3,b1,e0,e1,e8,e16,e17,f0,f1,f2,f3,f4,f5,f6,f7,f8,f9,f10⟩:=hI
   all_goals replace hp:=ay.1 hp
   ·simp +contextual only [hnl,h0,o1,r1,r2,r3,b1,e0,e1,e8,e16,e17,f0,f1,f2,f3,f4,f5,f6,f7,f8,f9,f10,setD,↓kN,↓kP,push_cast,seval,reduceCtorEq,cI]
   ·simp +contextual only [hnl,h0,o1,r1,r2,r3,b1,e0,e1,e8,e16,e17,f0,f1,f2,f3,f4,f5,f6,f7,f8,f9,f10,setD,↓kN,↓kP,push_cast,seval,reduceCtorEq,cI]
   ·have d1:=hp 1 (by decide)
    simp +contextual only [d1,hnl,h0,o1,r1,r2,r3,b1,e0,e1,e8,e16,e17,f0,f1,f2,f3,f4,f5,f6,f7,f8,f9,f10,setD,↓kN,↓kP,push_cast,seval,reduceCtorEq,cI]
   ·have d1:=hp 0 (by decide)
    have d2:=hp 2 (by decide)
    simp +contextual only [d1,d2,hnl,h0,o1,r1,r2,r3,b1,e0,e1,e8,e16,e17,f0,f1,f2,f3,f4,f5,f6,f7,f8,f9,f10,setD,↓kN,↓kP,push_cast,seval,reduceCtorEq,cI]
    first|omega|exact ⟨by omega,by omega⟩
   ·simp +contextual only [hnl,h0,o1,r1,r2,r3,b1,e0,e1,e8,e16,e17,f0,f1,f2,f3,f4,f5,f6,f7,f8,f9,f10,setD,↓kN,↓kP,push_cast,seval,reduceCtorEq,cI]
   ·simp +contextual only [hnl,h0,o1,r1,r2,r3,b1,e0,e1,e8,e16,e17,f0,f1,f2,f3,f4,f5,f6,f7,f8,f9,f10,setD,↓kN,↓kP,push_cast,seval,reduceCtorEq,cI]
   ·have d1:=hp 5 (by decide)
    simp +contextual only [d1,hnl,h0,o1,r1,r2,r3,b1,e0,e1,e8,e16,e17,f0,f1,f2,f3,f4,f5,f6,f7,f8,f9,f10,setD,↓kN,↓kP,push_cast,seval,reduceCtorEq,cI]
   ·have d1:=hp 4 (by decide)
    have d2:=hp 6 (by decide)
    simp +contextual only [d1,d2,hnl,h0,o1,r1,r2,r3,b1,e0,e1,e8,e16,e17,f0,f1,f2,f3,f4,f5,f6,f7,f8,f9,f10,setD,↓kN,↓kP,push_cast,seval,reduceCtorEq,cI]
    first|omega|exact ⟨by omega,by omega⟩
   ·have d1:=hp 3 (by decide)
    have d2:=hp 7 (by decide)
    simp +contextual only [d1,d2,hnl,h0,o1,r1,r2,r3,b1,e0,e1,e8,e16,e17,f0,f1,f2,f3,f4,f5,f6,f7,f8,f9,f10,setD,↓kN,↓kP,push_cast,seval,reduceCtorEq,cI]
   ·have n10:D 10=false:=by
     cases hd:D 10 with
     | false=>rfl
     | true=>rw [o1 hd] at h0; cases h0
    simp +contextual only [n10,hnl,h0,o1,r1,r2,r3,b1,e0,e1,e8,e16,e17,f0,f1,f2,f3,f4,f5,f6,f7,f8,f9,f10,setD,↓kN,↓kP,push_cast,seval,reduceCtorEq,cI]
   ·have d1:=hp 8 (by decide)
    have d2:=hp 9 (by decide)
    simp +contextual only [d1,d2,hnl,h0,o1,r1,r2,r3,b1,e0,e1,e8,e16,e17,f0,f1,f2,f3,f4,f5,f6,f7,f8,f9,f10,setD,↓kN,↓kP,push_cast,seval,reduceCtorEq,cI]
  intro D s hD hI
  obtain ⟨o1,r1,r2,r3,b1,e0,e1,e8,e16,e17,f0,f1,f2,f3,f4,f5,f6,f7,f8,f9,f10⟩:=hI
  have g9:=hD 9 (by decide)
  have g10:=hD 10 (by decide)
  have v1:=f9 g9
  have v2:=f10 g9
  rw [ah g10] at v2
  refine goK hK ?_
  refine zAr (t:=AS.of [(0,.one (.val (.sl .int) a)),(1,.one (.val (.sl .int) b)),(8,.one (.box 8)),(16,.one (.ref 73)),(17,.one (.ref 1073)),(18,.one (.box 18))] [(73,.flat 3 .int (lpS a b c w).r),(1073,.flat 3 .int (lpS a b c w).k)] [(8,.rcd [.nils,.nils]),(18,.rcd [.refp 73 a.length,.refp 1073 b.length])]) ?_ ?_
  ·refine zAf ?_ ?_ ?_<;>simp only [r1,r2,b1,e0,e1,e8,e16,e17,v1,v2,push_cast,seval,reduceCtorEq,cI]
  clear hK
  repeat' (first|(refine goK (by assumption) ?_; iterate 4 (try clear hK K))|(refine zAb fun K hK=>?_)|(refine zAa hE rfl ?_; simp +contextual only [hnl,↓kA,push_cast,seval,reduceCtorEq,cI])|refine zAc ?_|fail)
  refine zAk (fun k:Nat=>AS.of [(0,.one (.val (.sl .int) a)),(1,.one (.val (.sl .int) b)),(8,.one (.box 8)),(16,.one (.ref 73)),(17,.one (.ref 1073)),(18,.one (.box 18)),(87,.I a.length),(88,.I k)] [(73,.flat 3 .int (lpRk a b c w k)),(1073,.flat 3 .int (lpS a b c w).k)] [(8,.rcd [.nils,.nils]),(18,.rcd [.refp 73 a.length,.refp 1073 b.length])]) (fun k=>k<=a.length) (fun k=>a.length - k) 0 (aq _) ?_ ?_
  ·rw [zXF hk]
   refine zAf ?_ ?_ ?_<;>simp only [push_cast,seval,reduceCtorEq,cI]
   all_goals skip
  replace hnl:=hnl0
  intro k hka K2 hL2
  have q1:=zTO (a:=a) (b:=b) (c:=c) (w:=w) k
  rcases ai k a.length with hkl2|hkl2
  ·have q2:=zRy (a:=a) (b:=b) (c:=c) (w:=w) (ap k) (by omega)
   have q3:=hk.b1 k (by omega)
   have q4:=hk.b2 b.length (by omega)
   have q5:=zRz (a:=a) (b:=b) (c:=c) (w:=w) hkl2 rfl
   replace hnl:=aa hnl (aa q2 q5)
   repeat' (first|(refine goK (by assumption) ?_; iterate 4 (try clear hK K))|(refine zAb fun K hK=>?_)|((first|refine zAa hE rfl ?_|((first|refine zAd hE 1 rfl rfl kr ?_|refine zAd hE 2 rfl rfl kr ?_|refine zAd hE 3 rfl rfl kr ?_|refine zAd hE 4 rfl rfl kr ?_); simp only [ao,List.length_nil,Nat.reduceAdd,Nat.reduceSub,ak,List.take_zero,al,ar])); simp (maxSteps:=3000000) +contextual only [hnl,↓kA,push_cast,seval,reduceCtorEq,cI])|refine zAc ?_|(refine zAg ?_; simp only [thenQ,zAh,if_true,if_false,Nat.reduceEqDiff,reduceCtorEq])|(refine zAe (by rfl) (fun hb=>?_) (fun hb=>?_)<;>(try simp only [bq,reduceCtorEq] at hb)<;>(try omega))|refine andS ?_|fail)
   refine hL2 _ (k+1) (by omega) (by omega) ?_
   refine zAf ?_ ?_ ?_<;>simp only [push_cast,seval,reduceCtorEq,cI]
   all_goals exact .inl rfl
  obtain rfl:k=a.length:=by omega
  clear hL2
  repeat' (first|(refine goK (by assumption) ?_; iterate 4 (try clear hK K))|(refine zAb fun K hK=>?_)|(refine zAa hE rfl ?_; simp (maxSteps:=3000000) +contextual only [hnl,↓kA,push_cast,seval,reduceCtorEq,cI])|refine zAc ?_|(refine zAj ?_; simp only [thenQ,zAh,if_true,if_false,Nat.reduceEqDiff,reduceCtorEq])|(refine zAe (by rfl) (fun hb=>?_) (fun hb=>?_)<;>(try simp only [bq,reduceCtorEq] at hb)<;>(try omega))|fail)
  refine zAk (fun k:Nat=>AS.of [(0,.one (.val (.sl .int) a)),(1,.one (.val (.sl .int) b)),(8,.one (.box 8)),(16,.one (.ref 73)),(17,.one (.ref 1073)),(18,.one (.box 18)),(106,.I b.length),(107,.I k)] [(73,.flat 3 .int (lpRk a b c w a.length)),(1073,.flat 3 .int (lpCk a b c w k))] [(8,.rcd [.nils,.nils]),(18,.rcd [.refp 73 a.length,.refp 1073 b.length])]) (fun k=>k<=b.length) (fun k=>b.length - k) 0 (aq _) ?_ ?_
  ·rw [zXE hk]
   refine zAf ?_ ?_ ?_<;>simp only [push_cast,seval,reduceCtorEq,cI]
   all_goals skip
  replace hnl:=hnl0
  intro k hkb K3 hL3
  have q6:=zTM (a:=a) (b:=b) (c:=c) (w:=w) k
  rcases ai k b.length with hkl3|hkl3
  ·have q2:=zVZ (a:=a) (b:=b) (c:=c) (w:=w) (ap k) (by omega)
   have q7:=zRy (a:=a) (b:=b) (c:=c) (w:=w) (ap a.length) (by omega)
   have q3:=hk.b2 k (by omega)
   have q4:=hk.b1 a.length (by omega)
   have q5:=zRx (a:=a) (b:=b) (c:=c) (w:=w) hkl3 rfl
   replace hnl:=aa hnl (aa q2 (aa q5 q7))
   repeat' (first|(refine goK (by assumption) ?_; iterate 4 (try clear hK K))|(refine zAb fun K hK=>?_)|((first|refine zAa hE rfl ?_|((first|refine zAd hE 1 rfl rfl kr ?_|refine zAd hE 2 rfl rfl kr ?_|refine zAd hE 3 rfl rfl kr ?_|refine zAd hE 4 rfl rfl kr ?_); simp only [ao,List.length_nil,Nat.reduceAdd,Nat.reduceSub,ak,List.take_zero,al,ar])); simp (maxSteps:=3000000) +contextual only [hnl,↓kA,push_cast,seval,reduceCtorEq,cI])|refine zAc ?_|(refine zAg ?_; simp only [thenQ,zAh,if_true,if_false,Nat.reduceEqDiff,reduceCtorEq])|(refine zAe (by rfl) (fun hb=>?_) (fun hb=>?_)<;>(try simp only [bq,reduceCtorEq] at hb)<;>(try omega))|refine andS ?_|fail)
   refine hL3 _ (k+1) (by omega) (by omega) ?_
   refine zAf ?_ ?_ ?_<;>simp only [push_cast,seval,reduceCtorEq,cI]
   all_goals exact .inl rfl
  obtain rfl:k=b.length:=by omega
  clear hL3
  refine zAr (t:=AS.of [(8,.one (.box 8)),(18,.one (.box 18)),(106,.I b.length),(107,.I b.length)] [] [(8,.rcd [.nils,.nils]),(18,.rcd [.val (.sl .int) (lpR a b c w).1,.val (.sl .int) (lpR a b c w).2])]) ?_ ?_
  ·rw [<-zTN,<-zTL]
   refine zAf ?_ ?_ ?_<;>simp only [push_cast,seval,reduceCtorEq,cI]
   all_goals first|omega|exact ⟨by omega,rfl⟩|skip
  repeat' (first|(refine goK (by assumption) ?_; iterate 4 (try clear hK K))|(refine zAb fun K hK=>?_)|((first|refine zAa hE rfl ?_|refine zAi ?_); simp (maxSteps:=3000000) +contextual only [hnl,↓kA,push_cast,seval,reduceCtorEq,cI])|(refine zAj ?_; simp only [thenQ,zAh,if_true,if_false,Nat.reduceEqDiff,reduceCtorEq])|(refine zAe (by rfl) (fun hb=>?_) (fun hb=>?_)<;>(try simp only [bq,reduceCtorEq] at hb)<;>(try omega))|fail)
  all_goals try exact ⟨AS.of [(8,.one (.box 8)),(9,.one (.val .int (0:Int)))] [] [(8,.one (.val (.prod (.sl .int) (.sl .int)) (lpR a b c w)))],by refine zAf ?_ ?_ ?_<;>simp only [push_cast,seval,reduceCtorEq,cI],by simp only [he,h3,push_cast,seval,reduceCtorEq,cI]⟩
 ·have h3:lpE a b c w=([],[]):=ae he
  replace hnl:=aa hnl (aa (aB he) h3)
  rw [h3]
  repeat' (first|(refine goK (by assumption) ?_; iterate 4 (try clear hK K))|(refine zAb fun K hK=>?_)|((first|refine zAa hE rfl ?_|refine zAi ?_); simp (maxSteps:=3000000) +contextual only [hnl,↓kA,push_cast,seval,reduceCtorEq,cI])|(refine zAe (by rfl) (fun hb=>?_) (fun hb=>?_)<;>(try simp only [bq,reduceCtorEq] at hb)<;>(try omega))|fail)
  all_goals try exact ⟨AS.of [(8,.one (.box 8)),(9,.one (.val .int (errWd a b c w)))] [] [(8,.one (.val (.prod (.sl .int) (.sl .int)) (([]:List Int),([]:List Int))))],by refine zAf ?_ ?_ ?_<;>simp only [push_cast,seval,reduceCtorEq,cI],by simp only [push_cast,seval,reduceCtorEq,cI]⟩
end Go.Proofs.YtekfodeknpnkbaaGreatDoor
