import Derived.Test.YtekfodeknpnkbaaGreatDoorT61
import Derived.Test.YtekfodeknpnkbaaGreatDoorT66
import Derived.Test.YtekfodeknpnkbaaGreatDoorQtit
set_option linter.unusedSimpArgs false
set_option linter.unusedVariables false
namespace Go.Proofs.YtekfodeknpnkbaaGreatDoor
open Go.RowKit Go.VS Go.OT
theorem zRa {s:State} (h:WOK s):(∀ k,InR (lsum (s.2.1.take k)))∧(∀ k,InR (lsum (s.2.2.1.take k)))∧(0≤lsum s.2.1∧lsum s.2.1≤150)∧0≤lsum s.2.2.1∧lsum s.2.2.1≤150:=by
 have hm:=(zBE h.wd).1.mc
 have ha:zB3 s.2.1=true:=zME (by have:=h.st.la; have:=h.st.tab.rows; omega) h.st.a
 have hb:zB3 s.2.2.1=true:=zME (by have:=h.st.lb; have:=h.st.tab.cols; omega) h.st.b
 have h1:=zEo 30 (by omega) _ (zHg ha)
 have h2:=zEo 30 (by omega) _ (zHg hb)
 have h3:=zKg ha
 have h4:=zKg hb
 exact ⟨zKh ha,zKh hb,by omega,by omega⟩
theorem zRF {g w:Int} (h1 : -1000≤g∧g≤1000) (h2:0≤w∧w≤99):0≤max g (-g)*max w 0∧max g (-g)*max w 0≤99000:=by
 have e:max w 0=w:=by omega
 have hg:0≤max g (-g)∧max g (-g)≤1000:=by omega
 rw [e]
 have k1:=Int.mul_nonneg hg.1 h2.1
 have k2:max g (-g)*w≤1000*w:=Int.mul_le_mul_of_nonneg_right hg.2 h2.1
 omega
theorem zQX {h:HX} {L:List Line} (q:HL h L) {t:ByteArray} (e:doE h t=0) {a b c d:List Int} {w v v2 g:Int} (ha:(hSt h).2.1=a) (hb:(hSt h).2.2.1=b) (hc:(hSt (doX h t)).2.1=c) (hd:(hSt (doX h t)).2.2.1=d)
 (hw:(hSt (doX h t)).2.2.2=w) (hv:lst (hSt h)=v) (hv2:lst (hSt (doX h t))=v2) (hg:lsum c+lsum d - lsum a - lsum b=g):g=0∨¬v2 - v>max g (-g)*max w 0+99*max (-g) 0:=by
 have k:=zRq q e
 have e1:allS (hSt (doX h t)) - allS (hSt h)=g:=by
  unfold allS
  rw [ha,hb,hc,hd]
  omega
 rw [e1,hw,hv,hv2] at k
 exact k
@[push_cast] def zYS:Con:=⟨[.dat (.prod (.sl (.sl .int)) (.prod (.sl .str) .int))],fun _=>True,fun _=>{res:=[.val .bool true]}⟩
set_option maxHeartbeats 16000000 in
theorem zZe:FnSpec Tryz.prog 12 zYS:=by
 refine FnSpec.of_tri' (E:=know _ [] [] []) (zAl (kc zLM (kc zJg (kc zJ4 (kc zEO (kc zB7 (kc zD0 (kc zC2 (kc zHj (kc zHM (kc zIF (kc zUD (kc zEX (kc zFC all_nil))))))))))))) all_nil all_nil) Tryz.func12 rfl rfl (by kernel_rfl) ?_
 intro C x hE hnl hfit hpre
 simp only [Tryz.ntmps12,Tryz.results12,maxLen,seval,push_cast] at hnl hfit hpre ⊢
 obtain ⟨⟨(q:List (List Int)),(l:List ByteArray),(n:Int)⟩,_⟩:=x
 dsimp only at hfit hpre ⊢
 have hk1:zAW [[1,2]]=0:=by decide +kernel
 have hk2:rowsP [[1,2]]=[3]:=by decide +kernel
 have hk3:colsP [[1,2]]=[1,2]:=by decide +kernel
 refine zAb fun K hK=>?_
 refine zAa hE rfl ?_
 simp +contextual only [hnl,↓kA,push_cast,seval,reduceCtorEq,cI]
 refine ⟨⟨_,_,rfl⟩,goK hK ?_⟩
 clear hK K
 refine zOB 1 1 (sh:=(.prod (.sl (.sl .int)) (.prod (.sl .str) .int))) (x:=(q,l,n)) (by simp only [push_cast,seval,reduceCtorEq,cI]) (by simp only [push_cast,seval,reduceCtorEq,cI]) ?_
 have hnl0:=hnl
 replace hnl:=And.intro hnl (And.intro hk1 (And.intro hk2 hk3))
 have hnlK:=hnl
 by_cases hlg:zZ3 (q,l,n)=true
 ·replace hnl:=And.intro hnl hlg
  repeat' (first|(refine goK (by assumption) ?_; iterate 4 (try clear hK K))|(refine zAb fun K hK=>?_)|((first|refine zAa hE rfl ?_|refine zAi ?_); simp +contextual only [hnl,↓kA,push_cast,seval,reduceCtorEq,cI])|refine zAd ?_|((first|refine zAg ?_|refine zAj ?_); simp only [thenQ,zAh,if_true,if_false,Nat.reduceEqDiff,reduceCtorEq])|(refine zAe (by rfl) (fun hb=>?_) (fun hb=>?_)<;>(try simp only [bq,reduceCtorEq] at hb)<;>(try omega))|refine zAr (by rfl) ?_ ?_|refine andS ?_|(refine ⟨fun hc=>?_,fun hc=>?_⟩)|(intro hc; try omega))
  all_goals trace_state
 rw [Bool.not_eq_true] at hlg
 have hl200:(l.length:Int)≤200:=by
  have h:=hlg
  unfold zZ3 at h
  rw [Bool.or_eq_false_iff,decide_eq_false_iff_not] at h
  have:=h.2
  dsimp only at this
  omega
 by_cases he:zAu q=0
 rotate_left
 ·replace hnl:=And.intro hnl (And.intro hlg (eq_false he))
  repeat' (first|(refine goK (by assumption) ?_; iterate 4 (try clear hK K))|(refine zAb fun K hK=>?_)|((first|refine zAa hE rfl ?_|refine zAi ?_); simp +contextual only [hnl,↓kA,push_cast,seval,reduceCtorEq,cI])|refine zAd ?_|((first|refine zAg ?_|refine zAj ?_); simp only [thenQ,zAh,if_true,if_false,Nat.reduceEqDiff,reduceCtorEq])|(refine zAe (by rfl) (fun hb=>?_) (fun hb=>?_)<;>(try simp only [bq,reduceCtorEq] at hb)<;>(try omega))|refine zAr (by rfl) ?_ ?_|refine andS ?_|(refine ⟨fun hc=>?_,fun hc=>?_⟩)|(intro hc; try omega))
  all_goals trace_state
 have hin:=zAR he
 replace hnl:=And.intro hnl (And.intro hlg he)
 repeat' (first|(refine goK (by assumption) ?_; iterate 4 (try clear hK K))|(refine zAb fun K hK=>?_)|((first|refine zAa hE rfl ?_|refine zAi ?_); simp +contextual only [hnl,↓kA,push_cast,seval,reduceCtorEq,cI])|refine zAd ?_|((first|refine zAg ?_|refine zAj ?_); simp only [thenQ,zAh,if_true,if_false,Nat.reduceEqDiff,reduceCtorEq])|(refine zAe (by rfl) (fun hb=>?_) (fun hb=>?_)<;>(try simp only [bq,reduceCtorEq] at hb)<;>(try omega))|refine zAr (by rfl) ?_ ?_|refine andS ?_|(refine ⟨fun hc=>?_,fun hc=>?_⟩)|(intro hc; try omega))
 refine zAk (fun (y:Nat×HX)=>AS.of [(1,.one (.padr (.prod (.sl (.sl .int)) (.prod (.sl .str) .int)) (q,l,n))),(6,.one (.box 41)),(8,.I y.1)] [] [(41,.rcd [.raw (.int .i32 0),.raw (.int .u32 0),.val (.sl (.sl .int)) y.2.2.2.1,.val (.sl (.sl .int)) y.2.2.2.2.1,.val (.sl .int) y.2.2.2.2.2.1,.val (.sl .int) y.2.2.2.2.2.2.1,.val .int y.2.2.2.2.2.2.2.1,.mk 41 9 .str y.2.2.2.2.2.2.2.2.1,.val .str y.2.2.2.2.2.2.2.2.2.1])]) (fun y=>y.1≤l.length∧∃ M,Hist q y.2 M) (fun y=>l.length - y.1) (0,newH q) ⟨by omega,[],Hist.new⟩ ?_ ?_
 ·refine zAf ?_ ?_ ?_<;>simp only [push_cast,seval,reduceCtorEq,cI]
  all_goals first|rfl|exact ⟨rfl,rfl⟩|exact ⟨rfl,rfl,rfl⟩|trace_state
 rintro ⟨i,h⟩ ⟨hi,M,hM⟩ K' hL
 dsimp only at hi hM ⊢
 have hHL:=hM.hl hin
 have hinv:=hHL.inv
 have hsz:=hinv.st.sz
 by_cases hlt:i<l.length∧i<20
 rotate_left
 ·have hg:=zIB hin hM
  obtain ⟨⟨⟩,⟨⟩,(f:List (List Int)),(c:List (List Int)),(a:List Int),(b:List Int),(w:Int),(ord:List ByteArray),(bk:ByteArray),⟨⟩⟩:=h
  dsimp only
  replace hnl:=And.intro hnl0 (eq_true hg)
  repeat' (first|(refine goK (by assumption) ?_; iterate 4 (try clear hK K))|(refine zAb fun K hK=>?_)|((first|refine zAa hE rfl ?_|refine zAi ?_); simp +contextual only [hnl,↓kA,push_cast,seval,reduceCtorEq,cI])|refine zAd ?_|((first|refine zAg ?_|refine zAj ?_); simp only [thenQ,zAh,if_true,if_false,Nat.reduceEqDiff,reduceCtorEq])|(refine zAe (by rfl) (fun hb=>?_) (fun hb=>?_)<;>(try simp only [bq,reduceCtorEq] at hb)<;>(try omega))|refine zAr (by rfl) ?_ ?_|refine andS ?_|(refine ⟨fun hc=>?_,fun hc=>?_⟩)|(intro hc; try omega))
  all_goals trace_state
 obtain ⟨t,ht⟩:∃ t,l.getD i ByteArray.empty=t:=⟨_,rfl⟩
 obtain ⟨e,hde⟩:∃ e,doE h t=e:=⟨_,rfl⟩
 by_cases e0:e=0
 rotate_left
 ·have hx:=zL5 (h:=h) (t:=t) (by rw [hde]; exact e0)
  obtain ⟨⟨⟩,⟨⟩,(f:List (List Int)),(c:List (List Int)),(a:List Int),(b:List Int),(w:Int),(ord:List ByteArray),(bk:ByteArray),⟨⟩⟩:=h
  have hS:hSt ((),(),f,c,a,b,w,ord,bk,())=(c,a,b,w):=rfl
  rw [hS] at hsz
  dsimp only
  replace hnl:=And.intro hnl0 (And.intro (eq_true hinv) (And.intro ht (And.intro hde (And.intro hx (And.intro hS (And.intro (eq_true hsz) (eq_false e0)))))))
  repeat' (first|(refine goK (by assumption) ?_; iterate 4 (try clear hK K))|(refine zAb fun K hK=>?_)|((first|refine zAa hE rfl ?_|refine zAi ?_); simp +contextual only [hnl,↓kA,push_cast,seval,reduceCtorEq,cI])|refine zAd ?_|((first|refine zAg ?_|refine zAj ?_); simp only [thenQ,zAh,if_true,if_false,Nat.reduceEqDiff,reduceCtorEq])|(refine zAe (by rfl) (fun hb=>?_) (fun hb=>?_)<;>(try simp only [bq,reduceCtorEq] at hb)<;>(try omega))|refine zAr (by rfl) ?_ ?_|refine andS ?_|(refine ⟨fun hc=>?_,fun hc=>?_⟩)|(intro hc; try omega))
  all_goals (first|(refine hL _ (i+1,((),(),f,c,a,b,w,ord,bk,())) ⟨by omega,M,hM⟩ (by dsimp only; omega) ?_; refine zAf ?_ ?_ ?_<;>simp only [push_cast,seval,reduceCtorEq,cI])|trace_state)
  all_goals first|rfl|trace_state
 subst e0
 have hst:=hM.step hde
 have hst2:=hst.hl hin
 have hsz2:=hst2.inv.st.sz
 have hob:=zLn hst2.wok
 obtain ⟨sa1,sa2,sa3,sa4,sa5⟩:=zRa hHL.wok
 obtain ⟨sb1,sb2,sb3,sb4,sb5⟩:=zRa hst2.wok
 have hw2:=hst2.w
 obtain ⟨v,hv⟩:∃ v,lst (hSt h)=v:=⟨_,rfl⟩
 obtain ⟨v2,hv2⟩:∃ v,lst (hSt (doX h t))=v:=⟨_,rfl⟩
 have hvi:0≤v∧v≤999999:=by rw [←hv]; exact zGI _ _ _ _
 have hv2i:0≤v2∧v2≤999999:=by rw [←hv2]; exact zGI _ _ _ _
 have hstep:=fun (a b c d:List Int) (w g:Int) ha hb hc hd hw hg=>zQX hHL hde (a:=a) (b:=b) (c:=c) (d:=d) (w:=w) (g:=g) ha hb hc hd hw hv hv2 hg
 obtain ⟨⟨⟨⟩,⟨⟩,(f2:List (List Int)),(c2:List (List Int)),(a2:List Int),(b2:List Int),(w2:Int),(ord2:List ByteArray),(bk2:ByteArray),⟨⟩⟩,hh2⟩:∃ h2,doX h t=h2:=⟨_,rfl⟩
 rw [hh2] at hst hsz2 hob sb1 sb2 sb3 sb4 sb5 hw2 hv2 hstep
 obtain ⟨⟨⟩,⟨⟩,(f:List (List Int)),(c:List (List Int)),(a:List Int),(b:List Int),(w:Int),(ord:List ByteArray),(bk:ByteArray),⟨⟩⟩:=h
 have hS:hSt ((),(),f,c,a,b,w,ord,bk,())=(c,a,b,w):=rfl
 have hS2:hSt ((),(),f2,c2,a2,b2,w2,ord2,bk2,())=(c2,a2,b2,w2):=rfl
 rw [hS] at hsz sa1 sa2 sa3 sa4 sa5 hv
 rw [hS2] at hsz2 hob sb1 sb2 sb3 sb4 sb5 hw2 hv2
 dsimp only at sa1 sa2 sa3 sa4 sa5 sb1 sb2 sb3 sb4 sb5 hob hw2
 obtain ⟨g,hg⟩:∃ g,lsum a2+lsum b2 - lsum a - lsum b=g:=⟨_,rfl⟩
 have hgi : -1000≤g∧g≤1000:=by omega
 have hno:=hstep a b a2 b2 w2 g rfl rfl rfl rfl rfl hg
 have hmul:=zRF hgi hw2
 obtain ⟨P2,hP2⟩:∃ x,zHy a2 b2 c2 w2=x:=⟨_,rfl⟩
 obtain ⟨p2,hp2⟩:∃ x,lpE a2 b2 c2 w2=x:=⟨_,rfl⟩
 rw [hP2,hp2] at hob
 have hP3:planX ((),(),f2,c2,a2,b2,w2,ord2,bk2,())=P2:=hP2
 have hp3:zOw ((),(),f2,c2,a2,b2,w2,ord2,bk2,())=p2:=hp2
 obtain ⟨pr,hpr⟩:∃ x,max g (-g)*max w2 0=x:=⟨_,rfl⟩
 rw [hpr] at hno hmul
 clear hP2 hp2 hstep
 dsimp only
 have hnl2:=And.intro hnl0 (And.intro (eq_true hinv) (And.intro ht (And.intro hde (And.intro hh2 (And.intro hS (And.intro hS2 (And.intro (eq_true hsz) (And.intro (eq_true hsz2) (And.intro hP3 (And.intro hp3 (And.intro hob (And.intro hv (And.intro hv2 (And.intro hg (And.intro (eq_true sa1) (And.intro (eq_true sa2) (And.intro (eq_true sb1) (And.intro (eq_true sb2) hpr))))))))))))))))))
 by_cases hg0:g=0
 ·replace hnl:=And.intro hnl2 hg0
  repeat' (first|(refine goK (by assumption) ?_; iterate 4 (try clear hK K))|(refine zAb fun K hK=>?_)|((first|refine zAa hE rfl ?_|refine zAi ?_); simp +contextual only [hnl,↓kA,push_cast,seval,reduceCtorEq,cI])|refine zAd ?_|((first|refine zAg ?_|refine zAj ?_); simp only [thenQ,zAh,if_true,if_false,Nat.reduceEqDiff,reduceCtorEq])|(refine zAe (by rfl) (fun hb=>?_) (fun hb=>?_)<;>(try simp only [bq,reduceCtorEq] at hb)<;>(try omega))|refine zAr (by rfl) ?_ ?_|refine andS ?_|(refine ⟨fun hc=>?_,fun hc=>?_⟩)|(intro hc; try omega))
  all_goals (first|(refine hL _ (i+1,((),(),f2,c2,a2,b2,w2,ord2,bk2,())) ⟨by omega,_,hst⟩ (by dsimp only; omega) ?_; refine zAf ?_ ?_ ?_<;>simp only [push_cast,seval,reduceCtorEq,cI])|trace_state)
  all_goals first|rfl|trace_state
 ·replace hno:=hno.resolve_left hg0
  replace hnl:=And.intro hnl2 (And.intro (eq_false hg0) (eq_false hno))
  repeat' (first|(refine goK (by assumption) ?_; iterate 4 (try clear hK K))|(refine zAb fun K hK=>?_)|((first|refine zAa hE rfl ?_|refine zAi ?_); simp +contextual only [hnl,↓kA,push_cast,seval,reduceCtorEq,cI])|refine zAd ?_|((first|refine zAg ?_|refine zAj ?_); simp only [thenQ,zAh,if_true,if_false,Nat.reduceEqDiff,reduceCtorEq])|(refine zAe (by rfl) (fun hb=>?_) (fun hb=>?_)<;>(try simp only [bq,reduceCtorEq] at hb)<;>(try omega))|refine zAr (by rfl) ?_ ?_|refine andS ?_|(refine ⟨fun hc=>?_,fun hc=>?_⟩)|(intro hc; try omega))
  all_goals (first|(refine hL _ (i+1,((),(),f2,c2,a2,b2,w2,ord2,bk2,())) ⟨by omega,_,hst⟩ (by dsimp only; omega) ?_; refine zAf ?_ ?_ ?_<;>simp only [push_cast,seval,reduceCtorEq,cI])|trace_state)
  all_goals first|rfl|trace_state
end Go.Proofs.YtekfodeknpnkbaaGreatDoor
