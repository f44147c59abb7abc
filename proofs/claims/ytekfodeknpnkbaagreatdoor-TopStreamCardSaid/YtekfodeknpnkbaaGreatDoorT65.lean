import Derived.Test.YtekfodeknpnkbaaGreatDoorT30
import Derived.Test.YtekfodeknpnkbaaGreatDoorT47
import Derived.Test.YtekfodeknpnkbaaGreatDoorT55
set_option linter.unusedSimpArgs false
set_option linter.unusedVariables false
namespace Go.Proofs.YtekfodeknpnkbaaGreatDoor
open Go.RowKit Go.VS Go.OT
theorem zLn {s:State} (h:WOK s):errBL s.2.1 s.2.2.1 s.1 s.2.2.2 (zHy s.2.1 s.2.2.1 s.1 s.2.2.2) (lpE s.2.1 s.2.2.1 s.1 s.2.2.2)=0:=by
 have he:=h.wd
 obtain ⟨c,a,b,w⟩:=s
 dsimp only at he ⊢
 obtain ⟨hf,hw⟩:=zBE he
 obtain ⟨k1,k2⟩:=zJI he
 obtain ⟨k3,k4⟩:=zH9 hf hw
 have e2:zHy a b c w=stepP a b c (fewK a b c w):=if_pos he
 have e3:lpE a b c w=lpR a b c w:=if_pos he
 have e4:errLo a b (stepP a b c (fewK a b c w))=0:=by rw [errLC,if_pos he] at k1; exact k1
 have e5:costL a b c w (stepP a b c (fewK a b c w))=costV a b c w (stepP a b c (fewK a b c w)):=if_pos k1
 rw [e2,e3,errBL,if_pos he,if_pos e4,if_pos k3,if_pos]
 omega
end Go.Proofs.YtekfodeknpnkbaaGreatDoor
namespace Go.Proofs.YtekfodeknpnkbaaGreatDoor
open Go.RowKit Go.VS
@[push_cast] def zMc:Con:=⟨[.dat (.sl (.sl .int)),.dat (.sl (.sl .int)),.fnc [.sl .int,.sl .int] .bool],fun (x:List (List Int)×List (List Int)×((List Int×List Int×Unit→Prop)×(List Int×List Int×Unit→Bool))×Unit)=>(∀ y,x.2.2.1.1 y)∧∀ u v,x.2.2.1.2 (u,v,())=decide (u=v),
 fun (x:List (List Int)×List (List Int)×((List Int×List Int×Unit→Prop)×(List Int×List Int×Unit→Bool))×Unit)=>{res:=[.val .bool (decide (x.1=x.2.1))]}⟩
theorem zN6:FnSpec Tryz.prog 84 zMc:=by
 refine FnSpec.of_tri' (E:=know [] [] [] []) (zAl all_nil all_nil all_nil) Tryz.func84 rfl rfl (by kernel_rfl) ?_
 intro C x hE hnl hfit hpre
 simp only [Tryz.ntmps84,Tryz.results84,maxLen,seval,push_cast] at hnl hfit hpre ⊢
 obtain ⟨(a:List (List Int)),(b:List (List Int)),⟨q,p⟩,_⟩:=x
 dsimp only at hfit hpre ⊢
 obtain ⟨hq,hp⟩:=hpre
 by_cases h0:a.length=b.length
 rotate_left
 ·have e:decide (a=b)=false:=decide_eq_false fun h=>h0 (by rw [h])
  replace hnl:=And.intro hnl e
  exact auB
 repeat' (first|(refine goK (by assumption) ?_; iterate 4 (try clear hK K))|(refine zAb fun K hK=>?_)|(refine zAa hE rfl ?_; simp +contextual only [hnl,↓kA,push_cast,seval,reduceCtorEq,cI])|refine zAd ?_|(refine zAg ?_; simp only [thenQ,zAh,if_true,if_false,Nat.reduceEqDiff,reduceCtorEq])|(refine zAe (by rfl) (fun hb=>?_) (fun hb=>?_)<;>(try simp only [bq,reduceCtorEq] at hb)<;>(try omega))|fail)
 refine zAk (fun k:Nat=>AS.of [(0,.one (.val (.sl (.sl .int)) a)),(1,.one (.val (.sl (.sl .int)) b)),(2,.one (.fnv [.sl .int,.sl .int] .bool q p)),(15,.one (.val (.sl (.sl .int)) a)),(16,.I a.length),(17,.I k)] [] []) (fun k=>k≤a.length∧∀ i,i<k→a.getD i []=b.getD i []) (fun k=>a.length - k) 0 ⟨Nat.zero_le _,by omega⟩ ?_ ?_
 ·refine zAf ?_ ?_ ?_<;>simp only [push_cast,seval,reduceCtorEq,cI]
 intro k ⟨hk,hall⟩ K' hL
 rcases Nat.lt_or_ge k a.length with hks|hks
 ·by_cases h1:a.getD k []=b.getD k []
  ·have h2:p (a.getD k [],b.getD k [],())=true:=by rw [hp]; exact decide_eq_true h1
   replace hnl:=And.intro hnl (And.intro (eq_true (hq (a.getD k [],b.getD k [],()))) h2)
   repeat' (first|(refine goK (by assumption) ?_; iterate 4 (try clear hK K))|(refine zAb fun K hK=>?_)|(refine zAa hE rfl ?_; simp +contextual only [hnl,↓kA,push_cast,seval,reduceCtorEq,cI])|refine zAd ?_|(refine zAg ?_; simp only [thenQ,zAh,if_true,if_false,Nat.reduceEqDiff,reduceCtorEq])|(refine zAe (by rfl) (fun hb=>?_) (fun hb=>?_)<;>(try simp only [bq,reduceCtorEq] at hb)<;>(try omega))|refine andS ?_|fail)
   refine hL _ (k+1) ⟨by omega,fun i hi=>?_⟩ (by omega) ?_
   ·rcases Nat.lt_or_ge i k with h3|h3
    ·exact hall i h3
    ·obtain rfl:i=k:=by omega
     exact h1
   refine zAf ?_ ?_ ?_<;>simp only [push_cast,seval,reduceCtorEq,cI]
  ·have h2:p (a.getD k [],b.getD k [],())=false:=by rw [hp]; exact decide_eq_false h1
   have e:decide (a=b)=false:=decide_eq_false (zDC [] h1)
   replace hnl:=And.intro hnl (And.intro (eq_true (hq (a.getD k [],b.getD k [],()))) (And.intro h2 e))
   exact auB
 ·obtain rfl:k=a.length:=by omega
  have e:decide (a=b)=true:=decide_eq_true (zDA [] h0 (fun j hj=>hall j hj))
  replace hnl:=And.intro hnl e
  exact auB
def zK2:Clo:=⟨[],[.sl .int,.sl .int],.bool,fun _ _=>True,fun _ (x:List Int×List Int×Unit)=>decide (x.1=x.2.1)⟩
attribute [push_cast] zK2
theorem zN5:CloSpec Tryz.prog 83 zK2:=CloSpec.of zG8
structure Good (h:HX):Prop where
 c:InTab 0 99 (zJZ h)
 h:∃ L,Hist (zJZ h) h L
@[push_cast] def zPi:Con:=⟨[.obj hFs],fun (x:HX×Unit)=>Good x.1,fun (x:HX×Unit)=>{res:=[.val .bool true],objs:=[(0,⟨hFs,x.1⟩)]}⟩
set_option maxHeartbeats 16000000 in
theorem zFC:FnSpec Tryz.prog 39 zPi:=by
 refine FnSpec.of_tri' (E:=know [(63,zPS),(74,zMn),(82,zJ3),(76,zKP),(25,zMW),(83,zPy),(84,zMc),(57,zDO)] [(83,zK2)] [] []) (zAl (all_cons zCf (all_cons zIG (all_cons zHJ (all_cons zJ7 (all_cons zES (all_cons zG8 (all_cons zN6 (all_cons zEL all_nil)))))))) (all_cons zN5 all_nil) all_nil) Tryz.func39 rfl rfl (by kernel_rfl) ?_
 intro C x hE hnl hfit hpre
 simp only [Tryz.ntmps39,Tryz.results39,maxLen,seval,push_cast] at hnl hfit hpre ⊢
 obtain ⟨⟨⟨⟩,⟨⟩,(f:List (List Int)),(c:List (List Int)),(a:List Int),(b:List Int),(w:Int),(ord:List ByteArray),(bk:ByteArray),⟨⟩⟩,_⟩:=x
 dsimp only at hfit hpre ⊢
 obtain ⟨hin,L,hH⟩:=hpre
 have hF:zJZ ((),(),f,c,a,b,w,ord,bk,())=f:=rfl
 rw [hF] at hin hH
 have hl:=hH.hl hin
 have hS:hSt ((),(),f,c,a,b,w,ord,bk,())=(c,a,b,w):=rfl
 have hB:hBk ((),(),f,c,a,b,w,ord,bk,())=bk:=rfl
 have hsz:=hl.inv.st.sz
 have hwk:=hl.wok
 rw [hS] at hsz hwk
 have hwd:=hwk.wd
 have hob:=zLn hwk
 dsimp only at hwd hob
 have hrd:zAL 60 bk 0=(L,ByteArray.empty):=hl.read
 have hbs:bk.size≤1000000:=by have h6:=hl.inv.bk; have h7:=hl.inv.ord; rw [hB] at h6; omega
 have hal:=hH.all
 have hec:zAu f=0:=if_pos hin
 have hq1:rpL bk=L:=by unfold rpL; rw [hrd]
 have hq2:rpE f bk=0:=by unfold rpE; rw [if_pos hec,hrd,if_pos rfl,hq1,hal]
 have hq3:rpI f bk=L.length:=by unfold rpI; rw [if_pos hec,hrd,if_pos rfl,hq1,hal]
 have hq4:rpH f bk=((),(),f,c,a,b,w,ord,bk,()):=by unfold rpH; rw [hq1,hal]
 obtain ⟨v,hv⟩:∃ v,zA9 a b c w=v:=⟨_,rfl⟩
 have hnl0:=hnl
 replace hnl:=And.intro hnl (And.intro hF (And.intro hS (And.intro hB (And.intro (eq_true hsz) (And.intro hwd (And.intro hob (And.intro hbs (And.intro hq2 hq4))))))))
 clear hin hl hal hrd hq1 hq3 hH
 repeat' (first|(refine goK (by assumption) ?_; iterate 4 (try clear hK K))|(refine zAb fun K hK=>?_)|(refine zAa hE rfl ?_; simp +contextual only [hnl,↓kA,push_cast,seval,reduceCtorEq,cI])|(refine zAg ?_; simp only [thenQ,zAh,if_true,if_false,Nat.reduceEqDiff,reduceCtorEq])|(refine zAe (by rfl) (fun hb=>?_) (fun hb=>?_)<;>(try simp only [bq,reduceCtorEq] at hb)<;>(try omega))|fail)
 refine zAo (t:=AS.of [(3,.one (.box 3)),(4,.one (.val .str bk)),(11,.one (.box 11)),(12,.one (.val .str bk))] [] [(0,.rcd [.raw (.int .i32 0),.raw (.int .u32 0),.val (.sl (.sl .int)) f,.val (.sl (.sl .int)) c,.val (.sl .int) a,.val (.sl .int) b,.val .int w,.mk 0 9 .str ord,.val .str bk]),(3,.one (.val stSh (c,a,b,w))),(11,.one (.val stSh (c,a,b,w)))]) ?_ ?_
 ·refine zAf ?_ ?_ ?_<;>simp only [push_cast,seval,reduceCtorEq,cI]
  all_goals first|rfl|exact ⟨rfl,rfl⟩|exact ⟨rfl,rfl,rfl⟩|trace_state
 replace hnl:=And.intro hnl0 (And.intro hv (eq_true hsz))
 clear hwd hob hwk hsz hq2 hq4 hF hS hB hbs hec
 refine zBL hE (fun D s=>s.env 3=.one (.box 3) ∧
  s.env 4=.one (.val .str bk) ∧
  s.env 11=.one (.box 11) ∧
  s.env 12=.one (.val .str bk) ∧
  s.boxes 3=some (.one (.val stSh (c,a,b,w))) ∧
  s.boxes 11=some (.one (.val stSh (c,a,b,w))) ∧
  s.boxes 0=some (.rcd [.raw (.int .i32 0),.raw (.int .u32 0),.val (.sl (.sl .int)) f,.val (.sl (.sl .int)) c,.val (.sl .int) a,.val (.sl .int) b,.val .int w,.mk 0 9 .str ord,.val .str bk]) ∧
  (D 0=true→s.env 81=.one (.val .str bk)) ∧
  (D 1=true→s.env 82=.one (.val .str bk)) ∧
  (D 2=true→s.env 83=.one (.val .bool true)) ∧
  (D 3=true→s.env 84=.one (.val .bool true)) ∧
  (D 4=true→s.env 85=.one (.boxf 3 4 1 1)) ∧
  (D 5=true→s.env 86=.one (.val (.sl .int) a)) ∧
  (D 6=true→s.env 87=.one (.boxf 11 4 1 1)) ∧
  (D 7=true→s.env 88=.one (.val (.sl .int) a)) ∧
  (D 8=true→s.env 89=.one (.val .bool true)) ∧
  (D 9=true→s.env 90=.one (.val .bool true)) ∧
  (D 10=true→s.env 91=.one (.val .bool true)) ∧
  (D 11=true→s.env 92=.one (.boxf 3 4 2 2)) ∧
  (D 12=true→s.env 93=.one (.val (.sl .int) b)) ∧
  (D 13=true→s.env 94=.one (.boxf 11 4 2 2)) ∧
  (D 14=true→s.env 95=.one (.val (.sl .int) b)) ∧
  (D 15=true→s.env 96=.one (.val .bool true)) ∧
  (D 16=true→s.env 97=.one (.val .bool true)) ∧
  (D 17=true→s.env 98=.one (.val .bool true)) ∧
  (D 18=true→s.env 99=.one (.boxf 3 4 3 3)) ∧
  (D 19=true→s.env 100=.one (.val .int w)) ∧
  (D 20=true→s.env 101=.one (.boxf 11 4 3 3)) ∧
  (D 21=true→s.env 102=.one (.val .int w)) ∧
  (D 22=true→s.env 103=.one (.val .bool true)) ∧
  (D 23=true→s.env 104=.one (.val .bool true)) ∧
  (D 24=true→s.env 105=.one (.val .bool true)) ∧
  (D 25=true→s.env 106=.one (.boxf 3 4 0 0)) ∧
  (D 26=true→s.env 107=.one (.val (.sl (.sl .int)) c)) ∧
  (D 27=true→s.env 108=.one (.boxf 11 4 0 0)) ∧
  (D 28=true→s.env 109=.one (.val (.sl (.sl .int)) c)) ∧
  (D 29=true→s.env 110=.one (.val .bool true)) ∧
  (D 30=true→s.env 111=.one (.val .bool true)) ∧
  (D 31=true→s.env 112=.one (.val .bool true)) ∧
  (D 32=true→s.env 113=.one (.val stSh (c,a,b,w))) ∧
  (D 33=true→s.env 114=.one (.val .int v)) ∧
  (D 34=true→s.env 115=.one (.val stSh (c,a,b,w))) ∧
  (D 35=true→s.env 116=.one (.val .int v)) ∧
  (D 36=true→s.env 117=.one (.val .bool true)) ∧
  (D 37=true→s.env 118=.one (.val .bool true)) ∧
  (D 38=true→s.env 2=.one (.val .bool true))) rfl (by kernel_rfl) ?_ ?_ ?_
 ·dsimp only
  simp only [push_cast,seval,reduceCtorEq,cI]
 ·refine ⟨fun D s h0 hp hI=>?_,fun D s h0 hp hI=>?_,fun D s h0 hp hI=>?_,fun D s h0 hp hI=>?_,fun D s h0 hp hI=>?_,fun D s h0 hp hI=>?_,fun D s h0 hp hI=>?_,fun D s h0 hp hI=>?_,fun D s h0 hp hI=>?_,fun D s h0 hp hI=>?_,fun D s h0 hp hI=>?_,fun D s h0 hp hI=>?_,fun D s h0 hp hI=>?_,fun D s h0 hp hI=>?_,fun D s h0 hp hI=>?_,fun D s h0 hp hI=>?_,fun D s h0 hp hI=>?_,fun D s h0 hp hI=>?_,fun D s h0 hp hI=>?_,fun D s h0 hp hI=>?_,fun D s h0 hp hI=>?_,fun D s h0 hp hI=>?_,fun D s h0 hp hI=>?_,fun D s h0 hp hI=>?_,fun D s h0 hp hI=>?_,fun D s h0 hp hI=>?_,fun D s h0 hp hI=>?_,fun D s h0 hp hI=>?_,fun D s h0 hp hI=>?_,fun D s h0 hp hI=>?_,fun D s h0 hp hI=>?_,fun D s h0 hp hI=>?_,fun D s h0 hp hI=>?_,fun D s h0 hp hI=>?_,fun D s h0 hp hI=>?_,fun D s h0 hp hI=>?_,fun D s h0 hp hI=>?_,fun D s h0 hp hI=>?_,fun D s h0 hp hI=>?_,trivial⟩
  all_goals obtain ⟨E3,E4,E11,E12,B3,B11,B0,F0,F1,F2,F3,F4,F5,F6,F7,F8,F9,F10,F11,F12,F13,F14,F15,F16,F17,F18,F19,F20,F21,F22,F23,F24,F25,F26,F27,F28,F29,F30,F31,F32,F33,F34,F35,F36,F37,F38⟩:=hI
  all_goals (try simp [preds,Region.binds] at hp)
  all_goals (simp +contextual only [*,setD,↓kN,↓kP,↓kG,push_cast,seval,reduceCtorEq,cI])
  all_goals first|omega|(refine And.intro ?_ ?_<;>omega)|rfl|skip
 intro D s hD hI
 obtain ⟨E3,E4,E11,E12,B3,B11,B0,F0,F1,F2,F3,F4,F5,F6,F7,F8,F9,F10,F11,F12,F13,F14,F15,F16,F17,F18,F19,F20,F21,F22,F23,F24,F25,F26,F27,F28,F29,F30,F31,F32,F33,F34,F35,F36,F37,F38⟩:=hI
 have v1:=F38 (hD 38 (by decide))
 refine hK _ ?_
 refine zAo (t:=AS.of [(2,.one (.val .bool true))] [] [(0,.rcd [.raw (.int .i32 0),.raw (.int .u32 0),.val (.sl (.sl .int)) f,.val (.sl (.sl .int)) c,.val (.sl .int) a,.val (.sl .int) b,.val .int w,.mk 0 9 .str ord,.val .str bk])]) ?_ ?_
 ·refine zAf ?_ ?_ ?_<;>simp only [v1,B0,push_cast,seval,reduceCtorEq,cI]
  all_goals first|exact ⟨_,rfl⟩|skip
 clear hK
 replace hnl:=hnl0
 exact auA
end Go.Proofs.YtekfodeknpnkbaaGreatDoor
namespace Go.Proofs.YtekfodeknpnkbaaGreatDoor
open Go.RowKit Go.VS
theorem zIB {q:List (List Int)} (hin:InTab 0 99 q) {h:HX} {M:List Line} (hM:Hist q h M):Good h:=by
 have hf:=hM.first
 exact ⟨by rw [hf]; exact hin,M,by rw [hf]; exact hM⟩
end Go.Proofs.YtekfodeknpnkbaaGreatDoor
