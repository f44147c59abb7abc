import Derived.Test.YtekfodeknpnkbaaGreatDoorT34
import Derived.Test.YtekfodeknpnkbaaGreatDoorT42
set_option linter.unusedSimpArgs false
set_option linter.unusedVariables false
namespace Go.Proofs.YtekfodeknpnkbaaGreatDoor
open Go.RowKit Go.VS
def knL:List ByteArray:=[⟨#[112,117,116,32,48,32,50]⟩,⟨#[119,97,110,116,32,48,32,49]⟩,⟨#[119,97,115,116,101,32,50]⟩,⟨#[119,97,115,116,101,32,51]⟩,⟨#[99,108,97,105,109,32,56]⟩,⟨#[116,97,107,101,32,48,32,51]⟩]
def knW:List Int:=[0,0,0,0,0,9]
def knX:Nat→HX
 | 0=>newH [[5]]
 | i+1=>doX (knX i) (knL.getD i ByteArray.empty)
theorem zTm:∀ i,HInv (knX i)
 | 0=>zLj (by decide)
 | i+1=>zNY (zTm i) _
theorem zZT:∀ i,i<6→doE (knX i) (knL.getD i ByteArray.empty)=knW.getD i 0:=by decide +kernel
theorem zTn:lst (hSt (knX 6))=8:=by decide +kernel
theorem zPO:zCF [0,1,1,0] [[1,1],[0,2]]=0∧zT9 [0,1,1,0] [[1,1],[0,2]]=[0,1,1,1]:=by decide +kernel
theorem zZU:sumV 0 ⟨#[97]⟩=98:=by decide +kernel
@[push_cast] def zMm:Con:=⟨[],fun _=>True,fun _=>{res:=[.val .bool true]}⟩
set_option maxHeartbeats 8000000 in
theorem zBU:FnSpec Tryz.prog 15 zMm:=by
 refine FnSpec.of_tri' (E:=know _ [] [] []) (zAl (kc zEO (kc zC2 (kc zRs (kc zB7 (kc zHl (kc zFJ all_nil)))))) all_nil all_nil) Tryz.func15 rfl rfl (by kernel_rfl) ?_
 intro C x hE hnl hfit hpre
 simp only [Tryz.ntmps15,Tryz.results15,maxLen,seval,push_cast] at hnl hfit hpre ⊢
 have he:zAu [[5]]=0:=by decide
 have hnl0:=hnl
 replace hnl:=And.intro hnl he
 repeat' (first|(refine goK (by assumption) ?_; iterate 4 (try clear hK K))|(refine zAb fun K hK=>?_)|(refine zAa hE rfl ?_; simp +contextual only [hnl,↓kA,push_cast,seval,reduceCtorEq,cI])|refine zAd ?_|(refine zAg ?_; simp only [thenQ,zAh,if_true,if_false,Nat.reduceEqDiff,reduceCtorEq])|(refine zAe (by rfl) (fun hb=>?_) (fun hb=>?_)<;>(try simp only [bq,reduceCtorEq] at hb)<;>(try omega))|refine andS ?_|fail)
 have hp1:=zPO.1
 have hp2:=zPO.2
 have hp3:=zZU
 refine zAk (fun (x:Nat×HX)=>AS.of [(1,.one (.box 11)),(3,.one (.val (.sl .str) knL)),(4,.one (.val (.sl .int) knW)),(5,.I x.1)] [] [(11,(.rcd [.raw (.int .i32 0),.raw (.int .u32 0),.val (.sl (.sl .int)) x.2.2.2.1,.val (.sl (.sl .int)) x.2.2.2.2.1,.val (.sl .int) x.2.2.2.2.2.1,.val (.sl .int) x.2.2.2.2.2.2.1,.val .int x.2.2.2.2.2.2.2.1,.mk 11 9 .str x.2.2.2.2.2.2.2.2.1,.val .str x.2.2.2.2.2.2.2.2.2.1]))]) (fun x=>x.1≤6∧x.2=knX x.1) (fun x=>6 - x.1) (0,newH [[5]]) ⟨by omega,rfl⟩ ?_ ?_
 ·refine zAf ?_ ?_ ?_<;>simp only [push_cast,seval,reduceCtorEq,cI]
  exact ⟨rfl,rfl⟩
 rintro ⟨i,x⟩ ⟨h6,hx⟩ K' hL
 replace hx:x=knX i:=hx
 replace h6:i≤6:=h6
 have hI:HInv x:=by rw [hx]; exact zTm _
 have hl1:knL.length=6:=rfl
 have hl2:knW.length=6:=rfl
 by_cases hi:i<6
 ·have hdo:doE x (knL.getD i ByteArray.empty)=knW.getD i 0:=by rw [hx]; exact zZT i hi
  have hnx:doX x (knL.getD i ByteArray.empty)=knX (i+1):=by rw [hx]; rfl
  replace hnl:=And.intro hnl0 (And.intro (eq_true hI) (And.intro hdo hl1))
  obtain ⟨⟨⟩,⟨⟩,(f:List (List Int)),(c:List (List Int)),(a:List Int),(b:List Int),(w:Int),(ord:List ByteArray),(bk:ByteArray),⟨⟩⟩:=x
  dsimp only
  repeat' (first|(refine goK (by assumption) ?_; iterate 4 (try clear hK K))|(refine zAb fun K hK=>?_)|(refine zAa hE rfl ?_; simp +contextual only [hnl,↓kA,push_cast,seval,reduceCtorEq,cI])|refine zAd ?_|(refine zAg ?_; simp only [thenQ,zAh,if_true,if_false,Nat.reduceEqDiff,reduceCtorEq])|(refine zAe (by rfl) (fun hb=>?_) (fun hb=>?_)<;>(try simp only [bq,reduceCtorEq] at hb)<;>(try omega))|fail)
  refine zBL hE (fun D s=>s.env 1=.one (.box 11) ∧
   s.env 3=.one (.val (.sl .str) knL) ∧
   s.env 4=.one (.val (.sl .int) knW) ∧
   s.env 5=.I i ∧
   (D 5=false→s.boxes 11=some (.rcd [.raw (.int .i32 0),.raw (.int .u32 0),.val (.sl (.sl .int)) f,.val (.sl (.sl .int)) c,.val (.sl .int) a,.val (.sl .int) b,.val .int w,.mk 11 9 .str ord,.val .str bk])) ∧
   (D 5=true→s.boxes 11=some (.rcd [.raw (.int .i32 0),.raw (.int .u32 0),.val (.sl (.sl .int)) (doX ((),(),f,c,a,b,w,ord,bk,()) (knL.getD i ByteArray.empty)).2.2.1,.val (.sl (.sl .int)) (doX ((),(),f,c,a,b,w,ord,bk,()) (knL.getD i ByteArray.empty)).2.2.2.1,.val (.sl .int) (doX ((),(),f,c,a,b,w,ord,bk,()) (knL.getD i ByteArray.empty)).2.2.2.2.1,.val (.sl .int) (doX ((),(),f,c,a,b,w,ord,bk,()) (knL.getD i ByteArray.empty)).2.2.2.2.2.1,.val .int (doX ((),(),f,c,a,b,w,ord,bk,()) (knL.getD i ByteArray.empty)).2.2.2.2.2.2.1,.mk 11 9 .str (doX ((),(),f,c,a,b,w,ord,bk,()) (knL.getD i ByteArray.empty)).2.2.2.2.2.2.2.1,.val .str (doX ((),(),f,c,a,b,w,ord,bk,()) (knL.getD i ByteArray.empty)).2.2.2.2.2.2.2.2.1])) ∧
   (D 0=true→s.env 28=.one (.box 11)) ∧
   (D 1=true→s.env 29=.one (.val (.sl .str) knL)) ∧
   (D 2=true→s.env 30=.I i) ∧
   (D 3=true→s.env 31=.one (.padr .str (knL.getD i ByteArray.empty))) ∧
   (D 4=true→s.env 32=.one (.val .str (knL.getD i ByteArray.empty))) ∧
   (D 5=true→s.env 33=.one (.val .int (knW.getD i 0))) ∧
   (D 6=true→s.env 34=.one (.val (.sl .int) knW)) ∧
   (D 7=true→s.env 35=.I i) ∧
   (D 8=true→s.env 36=.one (.padr .int (knW.getD i 0))) ∧
   (D 9=true→s.env 37=.one (.val .int (knW.getD i 0))) ∧
   (D 10=true→s.env 38=.one (.val .bool false))) rfl (by kernel_rfl) ?_ ?_ ?_
  ·dsimp only
   simp only [push_cast,seval,reduceCtorEq,cI]
  ·refine ⟨fun D s h0 hp hI=>?_,fun D s h0 hp hI=>?_,fun D s h0 hp hI=>?_,fun D s h0 hp hI=>?_,fun D s h0 hp hI=>?_,fun D s h0 hp hI=>?_,fun D s h0 hp hI=>?_,fun D s h0 hp hI=>?_,fun D s h0 hp hI=>?_,fun D s h0 hp hI=>?_,fun D s h0 hp hI=>?_,trivial⟩
   all_goals obtain ⟨e1,e3,e4,e5,b0,b1,f0,f1,f2,f3,f4,f5,f6,f7,f8,f9,f10⟩:=hI
   all_goals replace hp:=List.all_eq_true.1 hp
   ·simp +contextual only [hnl,h0,e1,e3,e4,e5,b0,b1,f0,f1,f2,f3,f4,f5,f6,f7,f8,f9,f10,setD,↓kN,↓kP,push_cast,seval,reduceCtorEq,cI]
   ·simp +contextual only [hnl,h0,e1,e3,e4,e5,b0,b1,f0,f1,f2,f3,f4,f5,f6,f7,f8,f9,f10,setD,↓kN,↓kP,push_cast,seval,reduceCtorEq,cI]
   ·simp +contextual only [hnl,h0,e1,e3,e4,e5,b0,b1,f0,f1,f2,f3,f4,f5,f6,f7,f8,f9,f10,setD,↓kN,↓kP,push_cast,seval,reduceCtorEq,cI]
   ·have d1:=hp 1 (by decide)
    have d2:=hp 2 (by decide)
    simp +contextual only [d1,d2,hnl,h0,e1,e3,e4,e5,b0,b1,f0,f1,f2,f3,f4,f5,f6,f7,f8,f9,f10,setD,↓kN,↓kP,push_cast,seval,reduceCtorEq,cI]
    omega
   ·have d3:=hp 3 (by decide)
    simp +contextual only [d3,hnl,h0,e1,e3,e4,e5,b0,b1,f0,f1,f2,f3,f4,f5,f6,f7,f8,f9,f10,setD,↓kN,↓kP,push_cast,seval,reduceCtorEq,cI]
   ·have d0:=hp 0 (by decide)
    have d4:=hp 4 (by decide)
    simp +contextual only [d0,d4,hnl,h0,e1,e3,e4,e5,b0,b1,f0,f1,f2,f3,f4,f5,f6,f7,f8,f9,f10,setD,↓kN,↓kP,push_cast,seval,reduceCtorEq,cI]
   ·simp +contextual only [hnl,h0,e1,e3,e4,e5,b0,b1,f0,f1,f2,f3,f4,f5,f6,f7,f8,f9,f10,setD,↓kN,↓kP,push_cast,seval,reduceCtorEq,cI]
   ·simp +contextual only [hnl,h0,e1,e3,e4,e5,b0,b1,f0,f1,f2,f3,f4,f5,f6,f7,f8,f9,f10,setD,↓kN,↓kP,push_cast,seval,reduceCtorEq,cI]
   ·have d6:=hp 6 (by decide)
    have d7:=hp 7 (by decide)
    simp +contextual only [d6,d7,hnl,h0,e1,e3,e4,e5,b0,b1,f0,f1,f2,f3,f4,f5,f6,f7,f8,f9,f10,setD,↓kN,↓kP,push_cast,seval,reduceCtorEq,cI]
    omega
   ·have d8:=hp 8 (by decide)
    simp +contextual only [d8,hnl,h0,e1,e3,e4,e5,b0,b1,f0,f1,f2,f3,f4,f5,f6,f7,f8,f9,f10,setD,↓kN,↓kP,push_cast,seval,reduceCtorEq,cI]
   ·have d5:=hp 5 (by decide)
    have d9:=hp 9 (by decide)
    simp +contextual only [d5,d9,hnl,h0,e1,e3,e4,e5,b0,b1,f0,f1,f2,f3,f4,f5,f6,f7,f8,f9,f10,setD,↓kN,↓kP,push_cast,seval,reduceCtorEq,cI]
  intro D s hD hI
  obtain ⟨e1,e3,e4,e5,b0,b1,f0,f1,f2,f3,f4,f5,f6,f7,f8,f9,f10⟩:=hI
  have v1:=b1 (hD 5 (by decide))
  have v2:=f10 (hD 10 (by decide))
  refine hK _ ?_
  refine zAo (t:=AS.of [(1,.one (.box 11)),(3,.one (.val (.sl .str) knL)),(4,.one (.val (.sl .int) knW)),(5,.I i),(38,.one (.val .bool false))] [] [(11,(.rcd [.raw (.int .i32 0),.raw (.int .u32 0),.val (.sl (.sl .int)) (doX ((),(),f,c,a,b,w,ord,bk,()) (knL.getD i ByteArray.empty)).2.2.1,.val (.sl (.sl .int)) (doX ((),(),f,c,a,b,w,ord,bk,()) (knL.getD i ByteArray.empty)).2.2.2.1,.val (.sl .int) (doX ((),(),f,c,a,b,w,ord,bk,()) (knL.getD i ByteArray.empty)).2.2.2.2.1,.val (.sl .int) (doX ((),(),f,c,a,b,w,ord,bk,()) (knL.getD i ByteArray.empty)).2.2.2.2.2.1,.val .int (doX ((),(),f,c,a,b,w,ord,bk,()) (knL.getD i ByteArray.empty)).2.2.2.2.2.2.1,.mk 11 9 .str (doX ((),(),f,c,a,b,w,ord,bk,()) (knL.getD i ByteArray.empty)).2.2.2.2.2.2.2.1,.val .str (doX ((),(),f,c,a,b,w,ord,bk,()) (knL.getD i ByteArray.empty)).2.2.2.2.2.2.2.2.1]))]) ?_ ?_
  ·refine zAf ?_ ?_ ?_<;>simp only [e1,e3,e4,e5,v1,v2,push_cast,seval,reduceCtorEq,cI]
   all_goals first|exact ⟨_,rfl⟩|skip
  clear hK hD f0 f1 f2 f3 f4 f5 f6 f7 f8 f9 f10 b0 b1 v1 v2 e1 e3 e4 e5 s D
  repeat' (first|(refine goK (by assumption) ?_; iterate 4 (try clear hK K))|(refine zAa hE rfl ?_; simp +contextual only [hnl,↓kA,push_cast,seval,reduceCtorEq,cI])|(refine zAg ?_; simp only [thenQ,zAh,if_true,if_false,Nat.reduceEqDiff,reduceCtorEq])|(refine zAe (by rfl) (fun hb=>?_) (fun hb=>?_)<;>(try simp only [bq,reduceCtorEq] at hb)<;>(try omega))|refine andS ?_|fail)
  refine hL _ (i+1,doX ((),(),f,c,a,b,w,ord,bk,()) (knL.getD i ByteArray.empty)) ⟨by omega,hnx⟩ (by dsimp only; omega) ?_
  refine zAf ?_ ?_ ?_<;>simp only [push_cast,seval,reduceCtorEq,cI]
 ·obtain rfl:i=6:=by omega
  have hle:lst (hSt x)=8:=by rw [hx]; exact zTn
  have hsz:StateSz (hSt x):=hI.st.sz
  replace hnl:=And.intro hnl0 (And.intro hp1 (And.intro hp2 (And.intro hp3 (And.intro (eq_true hsz) (And.intro hle hl1)))))
  obtain ⟨⟨⟩,⟨⟩,(f:List (List Int)),(c:List (List Int)),(a:List Int),(b:List Int),(w:Int),(ord:List ByteArray),(bk:ByteArray),⟨⟩⟩:=x
  dsimp only
  exact auA
end Go.Proofs.YtekfodeknpnkbaaGreatDoor
