import Derived.Test.YtekfodeknpnkbaaGreatDoorQtit2
set_option linter.unusedSimpArgs false
set_option linter.unusedVariables false
namespace Go.Proofs.YtekfodeknpnkbaaGreatDoor
open Go.RowKit Go.VS
@[push_cast] def zYR:Con:=⟨[.dat (.prod (.sl (.sl .int)) (.prod (.sl .str) .int))],fun _=>True,fun _=>{res:=[.val .bool true]}⟩
set_option maxHeartbeats 16000000 in
theorem zZd:FnSpec Tryz.prog 11 zYR:=by
 refine FnSpec.of_tri' (E:=know _ [] [] [50]) (zAl (kc zFJ (kc zJ4 (kc zEO (kc zEq (kc zEg (kc zB7 (kc zC2 (kc zGQ (kc zES (kc zRN (kc zFC (kc zKd all_nil)))))))))))) all_nil all_nil) Tryz.func11 rfl rfl (by kernel_rfl) ?_
 intro C x hE hnl hfit hpre
 simp only [Tryz.ntmps11,Tryz.results11,maxLen,seval,push_cast] at hnl hfit hpre ⊢
 obtain ⟨⟨(q:List (List Int)),(l:List ByteArray),(n:Int)⟩,_⟩:=x
 dsimp only at hfit hpre ⊢
 have hem:({data:=#[]}:ByteArray)=ByteArray.empty:=rfl
 have hsm:sumV 0 {data:=#[97]}=98:=by decide +kernel
 have hs1:({data:=#[97]}:ByteArray).size=1:=rfl
 refine zAb fun K hK=>?_
 refine zAa hE rfl ?_
 simp +contextual only [hnl,↓kA,push_cast,seval,reduceCtorEq,cI]
 refine ⟨⟨_,_,rfl⟩,goK hK ?_⟩
 clear hK K
 refine zOB 1 1 (sh:=(.prod (.sl (.sl .int)) (.prod (.sl .str) .int))) (x:=(q,l,n)) (by simp only [push_cast,seval,reduceCtorEq,cI]) (by simp only [push_cast,seval,reduceCtorEq,cI]) ?_
 by_cases hlg:zZ3 (q,l,n)=true
 ·replace hnl:=And.intro hnl (And.intro hsm (And.intro hs1 hlg))
  repeat' (first|(refine goK (by assumption) ?_; iterate 4 (try clear hK K))|(refine zAb fun K hK=>?_)|((first|refine zAa hE rfl ?_|refine zAi ?_); simp +contextual only [hnl,↓kA,push_cast,seval,reduceCtorEq,cI])|refine zAd ?_|((first|refine zAg ?_|refine zAj ?_); simp only [thenQ,zAh,if_true,if_false,Nat.reduceEqDiff,reduceCtorEq])|(refine zAe (by rfl) (fun hb=>?_) (fun hb=>?_)<;>(try simp only [bq,reduceCtorEq] at hb)<;>(try omega))|refine zAr (by rfl) ?_ ?_|refine andS ?_|(refine ⟨fun hc=>?_,fun hc=>?_⟩)|(intro hc; try omega))
  all_goals trace_state
 rw [Bool.not_eq_true] at hlg
 have hl200:(l.length:Int)≤200:=by
  have h:=hlg
  unfold zZ3 at h
  rw [Bool.or_eq_false_iff,decide_eq_false_iff_not] at h
  have:=h.2
  dsimp only at this
  omega
 by_cases he:zAu q=0
 rotate_left
 ·replace hnl:=And.intro hnl (And.intro hsm (And.intro hs1 (And.intro hlg (eq_false he))))
  repeat' (first|(refine goK (by assumption) ?_; iterate 4 (try clear hK K))|(refine zAb fun K hK=>?_)|((first|refine zAa hE rfl ?_|refine zAi ?_); simp +contextual only [hnl,↓kA,push_cast,seval,reduceCtorEq,cI])|refine zAd ?_|((first|refine zAg ?_|refine zAj ?_); simp only [thenQ,zAh,if_true,if_false,Nat.reduceEqDiff,reduceCtorEq])|(refine zAe (by rfl) (fun hb=>?_) (fun hb=>?_)<;>(try simp only [bq,reduceCtorEq] at hb)<;>(try omega))|refine zAr (by rfl) ?_ ?_|refine andS ?_|(refine ⟨fun hc=>?_,fun hc=>?_⟩)|(intro hc; try omega))
  all_goals trace_state
 have hin:=zAR he
 have hnl0:=hnl
 obtain ⟨⟨⟨⟩,⟨⟩,(f0:List (List Int)),(c0:List (List Int)),(a0:List Int),(b0:List Int),(w0:Int),(ord0:List ByteArray),(bk0:ByteArray),⟨⟩⟩,hh0⟩:∃ h2,newH q=h2:=⟨_,rfl⟩
 have hi0:=zLj hin
 have hl0:=HL.new hin
 rw [hh0] at hi0 hl0
 have hsz0:StateSz (c0,a0,b0,w0):=hi0.st.sz
 have hbk0:bk0=ByteArray.empty:=hl0.bk
 subst hbk0
 have hS0:hSt ((),(),f0,c0,a0,b0,w0,ord0,ByteArray.empty,())=(c0,a0,b0,w0):=rfl
 have hB0:hBk ((),(),f0,c0,a0,b0,w0,ord0,ByteArray.empty,())=ByteArray.empty:=rfl
 replace hnl:=And.intro hnl (And.intro hsm (And.intro hs1 (And.intro hlg (And.intro he (And.intro hh0 (And.intro hS0 (And.intro hB0 (eq_true hsz0))))))))
 repeat' (first|(refine goK (by assumption) ?_; iterate 4 (try clear hK K))|(refine zAb fun K hK=>?_)|((first|refine zAa hE rfl ?_|refine zAi ?_); simp +contextual only [hnl,↓kA,push_cast,seval,reduceCtorEq,cI])|refine zAd ?_|((first|refine zAg ?_|refine zAj ?_); simp only [thenQ,zAh,if_true,if_false,Nat.reduceEqDiff,reduceCtorEq])|(refine zAe (by rfl) (fun hb=>?_) (fun hb=>?_)<;>(try simp only [bq,reduceCtorEq] at hb)<;>(try omega))|refine zAr (by rfl) ?_ ?_|refine andS ?_|(refine ⟨fun hc=>?_,fun hc=>?_⟩)|(intro hc; try omega))
 refine zAk (fun (y:Nat×List Line×HX)=>AS.of [(1,.one (.padr (.prod (.sl (.sl .int)) (.prod (.sl .str) .int)) (q,l,n))),(3,.one (.box 32)),(5,.one (.ref 81)),(6,.one (.ref 50)),(7,.I y.1)] [(81,.flat 9 .str (y.2.1.map Prod.fst)),(50,.flat 9 .str (bksV y.2.1))] [(32,.rcd [.raw (.int .i32 0),.raw (.int .u32 0),.val (.sl (.sl .int)) y.2.2.2.2.1,.val (.sl (.sl .int)) y.2.2.2.2.2.1,.val (.sl .int) y.2.2.2.2.2.2.1,.val (.sl .int) y.2.2.2.2.2.2.2.1,.val .int y.2.2.2.2.2.2.2.2.1,.mk 32 9 .str y.2.2.2.2.2.2.2.2.2.1,.val .str y.2.2.2.2.2.2.2.2.2.2.1])]) (fun y=>y.1≤l.length∧Hist q y.2.2 y.2.1) (fun y=>l.length - y.1) (0,[],newH q) ⟨by omega,Hist.new⟩ ?_ ?_
 ·rw [hh0]
  refine zAf ?_ ?_ ?_<;>simp only [push_cast,seval,reduceCtorEq,cI]
  all_goals first|rfl|exact ⟨by omega,.inl rfl⟩|trace_state
 clear hi0 hl0 hsz0 hS0 hB0 hh0
 rintro ⟨i,M,h⟩ ⟨hi,hM⟩ K' hL
 dsimp only at hi hM ⊢
 have hHL:=hM.hl hin
 have hinv:=hHL.inv
 have hz1:(M.map Prod.fst).length=M.length:=List.length_map ..
 have hz2:=zQW M
 have hz3:=hHL.len.2
 by_cases hlt:i<l.length∧i<25
 ·obtain ⟨t,ht⟩:∃ t,l.getD i ByteArray.empty=t:=⟨_,rfl⟩
  obtain ⟨e,hde⟩:∃ e,doE h t=e:=⟨_,rfl⟩
  by_cases e0:e=0
  ·subst e0
   have hst:=hM.step hde
   obtain ⟨v,hv⟩:∃ v,lst (hSt (doX h t))=v:=⟨_,rfl⟩
   rw [hv] at hst
   have hst2:=hst.hl hin
   have hbk2:=hst2.bk
   have hszb:=hst2.inv.st.sz
   obtain ⟨⟨⟨⟩,⟨⟩,(f2:List (List Int)),(c2:List (List Int)),(a2:List Int),(b2:List Int),(w2:Int),(ord2:List ByteArray),(bk2:ByteArray),⟨⟩⟩,hh2⟩:∃ h2,doX h t=h2:=⟨_,rfl⟩
   rw [hh2] at hst hbk2 hszb
   have hba:=zXF M (t,v)
   rw [←hbk2] at hba
   have hma:(M++[(t,v)]).map Prod.fst=M.map Prod.fst++[t]:=List.map_append ..
   have hsza:=hinv.st.sz
   obtain ⟨⟨⟩,⟨⟩,(f:List (List Int)),(c:List (List Int)),(a:List Int),(b:List Int),(w:Int),(ord:List ByteArray),(bk:ByteArray),⟨⟩⟩:=h
   have hS:hSt ((),(),f,c,a,b,w,ord,bk,())=(c,a,b,w):=rfl
   have hB:hBk ((),(),f,c,a,b,w,ord,bk,())=bk:=rfl
   have hS2:hSt ((),(),f2,c2,a2,b2,w2,ord2,bk2,())=(c2,a2,b2,w2):=rfl
   have hB2:hBk ((),(),f2,c2,a2,b2,w2,ord2,bk2,())=bk2:=rfl
   rw [hS] at hsza
   rw [hS2] at hszb
   rw [hB2] at hba
   dsimp only
   replace hnl:=And.intro hnl0 (And.intro (eq_true hinv) (And.intro ht (And.intro hde (And.intro hh2 (And.intro hS (And.intro hB (And.intro hS2 (And.intro hB2 (And.intro (eq_true hsza) (eq_true hszb))))))))))
   repeat' (first|(refine goK (by assumption) ?_; iterate 4 (try clear hK K))|(refine zAb fun K hK=>?_)|((first|refine zAa hE rfl ?_|refine zAi ?_); simp +contextual only [hnl,↓kA,push_cast,seval,reduceCtorEq,cI])|refine zAd ?_|((first|refine zAg ?_|refine zAj ?_); simp only [thenQ,zAh,if_true,if_false,Nat.reduceEqDiff,reduceCtorEq])|(refine zAe (by rfl) (fun hb=>?_) (fun hb=>?_)<;>(try simp only [bq,reduceCtorEq] at hb)<;>(try omega))|refine zAr (by rfl) ?_ ?_|refine andS ?_|(refine ⟨fun hc=>?_,fun hc=>?_⟩)|(intro hc; try omega))
   all_goals (first|(refine hL _ (i+1,M++[(t,v)],((),(),f2,c2,a2,b2,w2,ord2,bk2,())) ⟨by omega,hst⟩ (by dsimp only; omega) ?_; refine zAf ?_ ?_ ?_<;>simp only [push_cast,seval,reduceCtorEq,cI])|trace_state)
   all_goals first|exact ⟨.inl (by rw [hma]),.inl (by rw [hba])⟩|exact .inl hma.symm|exact .inl hba.symm|exact ⟨.inl hma.symm,.inl hba.symm⟩|exact ⟨.inl hba.symm,.inl hma.symm⟩|exact hma.symm|exact hba.symm|trace_state
  ·have hx:=zL5 (h:=h) (t:=t) (by rw [hde]; exact e0)
   have hsza:=hinv.st.sz
   obtain ⟨⟨⟩,⟨⟩,(f:List (List Int)),(c:List (List Int)),(a:List Int),(b:List Int),(w:Int),(ord:List ByteArray),(bk:ByteArray),⟨⟩⟩:=h
   have hS:hSt ((),(),f,c,a,b,w,ord,bk,())=(c,a,b,w):=rfl
   have hB:hBk ((),(),f,c,a,b,w,ord,bk,())=bk:=rfl
   rw [hS] at hsza
   dsimp only
   replace hnl:=And.intro hnl0 (And.intro (eq_true hinv) (And.intro ht (And.intro hde (And.intro hx (And.intro hS (And.intro hB (And.intro (eq_true hsza) (eq_false e0))))))))
   repeat' (first|(refine goK (by assumption) ?_; iterate 4 (try clear hK K))|(refine zAb fun K hK=>?_)|((first|refine zAa hE rfl ?_|refine zAi ?_); simp +contextual only [hnl,↓kA,push_cast,seval,reduceCtorEq,cI])|refine zAd ?_|((first|refine zAg ?_|refine zAj ?_); simp only [thenQ,zAh,if_true,if_false,Nat.reduceEqDiff,reduceCtorEq])|(refine zAe (by rfl) (fun hb=>?_) (fun hb=>?_)<;>(try simp only [bq,reduceCtorEq] at hb)<;>(try omega))|refine zAr (by rfl) ?_ ?_|refine andS ?_|(refine ⟨fun hc=>?_,fun hc=>?_⟩)|(intro hc; try omega))
   all_goals (first|(refine hL _ (i+1,M,((),(),f,c,a,b,w,ord,bk,())) ⟨by omega,hM⟩ (by dsimp only; omega) ?_; refine zAf ?_ ?_ ?_<;>simp only [push_cast,seval,reduceCtorEq,cI])|trace_state)
   all_goals first|rfl|trace_state
 have hg:=zIB hin hM
 have hrd:=hHL.read
 have hall:=hM.all
 have hsz:=hinv.st.sz
 have h60:=hHL.len.2
 have hbz0:=hinv.bk
 obtain ⟨u,hu⟩:∃ u,Int.toNat (n % 18446744073709551616)=u:=⟨_,rfl⟩
 have hu2:Int.toNat (((M.length:Int)+1) % 18446744073709551616)=M.length+1:=by omega
 obtain ⟨m,hm⟩:∃ m,u % (M.length+1)=m:=⟨_,rfl⟩
 have hml:m≤M.length:=by have:=Nat.mod_lt u (show 0<M.length+1 by omega); omega
 have hmI:(0:Int)≤m∧(m:Int)<(M.length:Int)+1:=by clear hm; omega
 have hm2:(u:Int) % ((M.length:Int)+1)=m:=by rw [←hm]; rfl
 obtain ⟨hp1,hp2,hp3,hp4⟩:=hM.part hin hml
 have hmg:=zKc hin hM hml
 have hbg:=zXG hml
 have hps:=zSA (L:=M.take m) (fun y hy=>hHL.ln y (List.mem_of_mem_take hy)) (by have:=List.length_take (i:=m) (l:=M); omega)
 have hpb:=zSA (L:=M) hHL.ln h60
 rw [←hHL.bk] at hpb
 have hpl:=hp1.hl hin
 obtain ⟨hA1,hA2,hA3⟩:=hM.at
 have hA2':=fun i hi=>((hA2 i hi).hl hin).inv
 obtain ⟨⟨⟩,⟨⟩,(f:List (List Int)),(c:List (List Int)),(a:List Int),(b:List Int),(w:Int),(ord:List ByteArray),(bk:ByteArray),⟨⟩⟩:=h
 have hS:hSt ((),(),f,c,a,b,w,ord,bk,())=(c,a,b,w):=rfl
 have hB:hBk ((),(),f,c,a,b,w,ord,bk,())=bk:=rfl
 rw [hS] at hsz
 rw [hB] at hrd hmg hpb hbz0
 obtain ⟨pt,hpt⟩:∃ pt,bkF 0 (M.take m)=pt:=⟨_,rfl⟩
 rw [hpt] at hp2 hp4 hmg hps hbg
 have hq1:rpL pt=M.take m:=by unfold rpL; rw [hp2]
 have hq2:rpE q pt=0:=by unfold rpE; rw [if_pos he,hp2,if_pos rfl,hq1,hp3]
 have hq3:rpI q pt=m:=by unfold rpI; rw [if_pos he,hp2,if_pos rfl,hq1,hp3]
 have hq4:rpH q pt=hAt q M m:=by unfold rpH; rw [hq1,hp3]
 have hw1:rpL bk=M:=by unfold rpL; rw [hrd]
 have hw2:rpE q bk=0:=by unfold rpE; rw [if_pos he,hrd,if_pos rfl,hw1,hall]
 have hw3:rpI q bk=M.length:=by unfold rpI; rw [if_pos he,hrd,if_pos rfl,hw1,hall]
 have hw4:rpH q bk=((),(),f,c,a,b,w,ord,bk,()):=by unfold rpH; rw [hw1,hall]
 obtain ⟨h2,hh2⟩:∃ h2,hAt q M m=h2:=⟨_,rfl⟩
 rw [hh2] at hq4 hp4 hpl
 have hsz2:=hpl.inv.st.sz
 obtain ⟨⟨⟩,⟨⟩,(f2:List (List Int)),(c2:List (List Int)),(a2:List Int),(b2:List Int),(w2:Int),(ord2:List ByteArray),(bk2:ByteArray),⟨⟩⟩:=h2
 have hB2:hBk ((),(),f2,c2,a2,b2,w2,ord2,bk2,())=bk2:=rfl
 rw [hB2] at hp4
 subst hp4
 have hS2:hSt ((),(),f2,c2,a2,b2,w2,ord2,bk2,())=(c2,a2,b2,w2):=rfl
 rw [hS2] at hsz2
 have hbz:bk.size≤1000000:=by omega
 have hbz2:bk2.size≤1000000:=by omega
 have hml2:(M.map Prod.fst).length=M.length:=List.length_map ..
 have hml3:(M.map Prod.snd).length=M.length:=List.length_map ..
 have hbl:=zQW M
 have h2i:InR (m:Int):=by unfold InR; omega
 have hnl1:=And.intro hnl0 (And.intro hem (And.intro hS (And.intro hB (And.intro (eq_true hsz) (And.intro (eq_true hbz) (And.intro hml2 hbl))))))
 have hnl2:=And.intro hnl1 (And.intro hbg (And.intro hq2 (And.intro hq3 (And.intro hq4 (And.intro hw2 (And.intro hw3 (And.intro hw4 (And.intro (eq_true hbz2) (And.intro hB2 (And.intro hS2 (And.intro (eq_true hsz2) (eq_true hg))))))))))))
 have hnl3:=And.intro hnl1 (And.intro hbg (And.intro hmg (eq_true hbz2)))
 replace hnl:=And.intro hnl1 (And.intro hrd hml3)
 dsimp only
 clear hL hall hbz0 hp1 hp2 hp3 hps hpb hpl hpt hq1 hw1 hHL hinv
 repeat' (first|(refine goK (by assumption) ?_; iterate 4 (try clear hK K))|(refine zAb fun K hK=>?_)|((first|refine zAa hE rfl ?_|refine zAi ?_); simp +contextual only [hnl,↓kA,push_cast,seval,reduceCtorEq,cI])|refine zAd ?_|((first|refine zAg ?_|refine zAj ?_); simp only [thenQ,zAh,if_true,if_false,Nat.reduceEqDiff,reduceCtorEq])|(refine zAe (by rfl) (fun hb=>?_) (fun hb=>?_)<;>(try simp only [bq,reduceCtorEq] at hb)<;>(try omega))|refine zAr (by rfl) ?_ ?_|refine andS ?_|(refine ⟨fun hc=>?_,fun hc=>?_⟩)|(intro hc; try omega))
 all_goals
  refine zAk (fun (i:Nat)=>AS.of [(1,.one (.padr (.prod (.sl (.sl .int)) (.prod (.sl .str) .int)) (q,l,n))),(3,.one (.box 32)),(5,.one (.val (.sl .str) (M.map Prod.fst))),(6,.one (.val (.sl .str) (bksV M))),(10,.one (.val (.sl .str) (M.map Prod.fst))),(13,.I i)] [] [(32,.rcd [.raw (.int .i32 0),.raw (.int .u32 0),.val (.sl (.sl .int)) f,.val (.sl (.sl .int)) c,.val (.sl .int) a,.val (.sl .int) b,.val .int w,.mk 32 9 .str ord,.val .str bk])]) (fun i=>i≤M.length) (fun i=>M.length - i) 0 (Nat.zero_le _) ?_ ?_
  ·refine zAf ?_ ?_ ?_<;>simp only [push_cast,seval,reduceCtorEq,cI]
   all_goals first|rfl|exact ⟨rfl,rfl⟩|trace_state
  clear hnl
  intro i hi2 K2 hL2
  rcases Nat.lt_or_ge i M.length with hlt2|hge
  ·have hnl:=hnl1
   repeat' (first|(refine goK (by assumption) ?_; iterate 4 (try clear hK K))|(refine zAb fun K hK=>?_)|((first|refine zAa hE rfl ?_|refine zAi ?_|((first|refine zAc hE 1 rfl rfl (by kernel_rfl) ?_|refine zAc hE 2 rfl rfl (by kernel_rfl) ?_|refine zAc hE 3 rfl rfl (by kernel_rfl) ?_|refine zAc hE 4 rfl rfl (by kernel_rfl) ?_); simp only [List.length_cons,List.length_nil,Nat.reduceAdd,Nat.reduceSub,List.take_succ_cons,List.take_zero,List.drop_succ_cons,List.drop_zero])); simp +contextual only [hnl,↓kA,push_cast,seval,reduceCtorEq,cI])|refine zAd ?_|((first|refine zAg ?_|refine zAj ?_); simp only [thenQ,zAh,if_true,if_false,Nat.reduceEqDiff,reduceCtorEq])|(refine zAe (by rfl) (fun hb=>?_) (fun hb=>?_)<;>(try simp only [bq,reduceCtorEq] at hb)<;>(try omega))|refine zAr (by rfl) ?_ ?_|refine andS ?_|(refine ⟨fun hc=>?_,fun hc=>?_⟩)|(intro hc; try omega))
   all_goals (first|(refine hL2 _ (i+1) (by omega) (by omega) ?_; refine zAf ?_ ?_ ?_<;>simp only [push_cast,seval,reduceCtorEq,cI])|trace_state)
  obtain rfl:i=M.length:=by omega
  clear hL2 hi2 hge
  have hnl:=And.intro hnl1 (And.intro hu (And.intro hu2 (And.intro hm hm2)))
  repeat' (first|(refine goK (by assumption) ?_; iterate 4 (try clear hK K))|(refine zAb fun K hK=>?_)|((first|refine zAa hE rfl ?_|refine zAi ?_); simp +contextual only [hnl,↓kA,push_cast,seval,reduceCtorEq,cI])|refine zAd ?_|((first|refine zAg ?_|refine zAj ?_); simp only [thenQ,zAh,if_true,if_false,Nat.reduceEqDiff,reduceCtorEq])|(refine zAe (by rfl) (fun hb=>?_) (fun hb=>?_)<;>(try simp only [bq,reduceCtorEq] at hb)<;>(try omega))|refine zAr (by rfl) ?_ ?_|refine andS ?_|(refine ⟨fun hc=>?_,fun hc=>?_⟩)|(intro hc; try omega))
  refine ⟨Nat.le_trans hml (Nat.le_trans h60 (by omega)),?_⟩
  repeat' (first|(refine goK (by assumption) ?_; iterate 4 (try clear hK K))|(refine zAb fun K hK=>?_)|((first|refine zAa hE rfl ?_|refine zAi ?_); simp +contextual only [hnl,↓kA,push_cast,seval,reduceCtorEq,cI])|refine zAd ?_|((first|refine zAg ?_|refine zAj ?_); simp only [thenQ,zAh,if_true,if_false,Nat.reduceEqDiff,reduceCtorEq])|(refine zAe (by rfl) (fun hb=>?_) (fun hb=>?_)<;>(try simp only [bq,reduceCtorEq] at hb)<;>(try omega))|refine zAr (by rfl) ?_ ?_|refine andS ?_|(refine ⟨fun hc=>?_,fun hc=>?_⟩)|(intro hc; try omega))
  refine zAo (t:=AS.of [(1,.one (.padr (.prod (.sl (.sl .int)) (.prod (.sl .str) .int)) (q,l,n))),(3,.one (.box 32)),(5,.one (.val (.sl .str) (M.map Prod.fst))),(6,.one (.val (.sl .str) (bksV M))),(14,.I m)] [] [(32,.rcd [.raw (.int .i32 0),.raw (.int .u32 0),.val (.sl (.sl .int)) f,.val (.sl (.sl .int)) c,.val (.sl .int) a,.val (.sl .int) b,.val .int w,.mk 32 9 .str ord,.val .str bk])]) ?_ ?_
  ·refine zAf ?_ ?_ ?_<;>simp only [push_cast,seval,reduceCtorEq,cI]
  clear hu hu2 hm hm2
  replace hnl:=hnl2
  refine zBL hE (fun D s=>(D 7=true→D 6=true) ∧
   (D 8=true→D 6=true) ∧
   (D 11=true→D 6=true) ∧
   s.env 1=.one (.padr (.prod (.sl (.sl .int)) (.prod (.sl .str) .int)) (q,l,n)) ∧
   s.env 3=.one (.box 32) ∧
   s.env 5=.one (.val (.sl .str) (M.map Prod.fst)) ∧
   s.env 6=.one (.val (.sl .str) (bksV M)) ∧
   s.env 14=.I m ∧
   s.boxes 32=some (.rcd [.raw (.int .i32 0),.raw (.int .u32 0),.val (.sl (.sl .int)) f,.val (.sl (.sl .int)) c,.val (.sl .int) a,.val (.sl .int) b,.val .int w,.mk 32 9 .str ord,.val .str bk]) ∧
   (D 0=true→s.env 144=.one (.padr (.sl (.sl .int)) q)) ∧
   (D 1=true→s.env 145=.one (.val (.sl (.sl .int)) q)) ∧
   (D 2=true→s.env 146=.one (.val (.sl .str) (bksV M))) ∧
   (D 3=true→s.env 147=.I m) ∧
   (D 4=true→s.env 148=.one (.padr .str bk2)) ∧
   (D 5=true→s.env 149=.one (.val .str bk2)) ∧
   (D 6=true→s.env 150=.tup [.box 150,.val .int ((m:Nat):Int),.val .int 0]) ∧
   (D 7=true→s.env 143=.tup [.box 150,.val .int ((m:Nat):Int),.val .int 0]) ∧
   (D 8=true→s.env 151=.one (.box 150)) ∧
   (D 9=true→s.env 152=.one (.val .int ((m:Nat):Int))) ∧
   (D 10=true→s.env 153=.one (.val .int 0)) ∧
   (D 11=true→s.env 15=.one (.box 150)) ∧
   (D 12=true→s.env 16=.one (.val .int ((m:Nat):Int))) ∧
   (D 13=true→s.env 17=.one (.val .int 0)) ∧
   (D 6=false→True) ∧
   (D 6=true→s.boxes 150=some (.rcd [.raw (.int .i32 0),.raw (.int .u32 0),.val (.sl (.sl .int)) f2,.val (.sl (.sl .int)) c2,.val (.sl .int) a2,.val (.sl .int) b2,.val .int w2,.mk 150 9 .str ord2,.val .str bk2]))) rfl (by kernel_rfl) ?_ ?_ ?_
  ·dsimp only
   simp only [push_cast,seval,reduceCtorEq,cI]
  ·refine ⟨fun D s h0 hp hI=>?_,fun D s h0 hp hI=>?_,fun D s h0 hp hI=>?_,fun D s h0 hp hI=>?_,fun D s h0 hp hI=>?_,fun D s h0 hp hI=>?_,fun D s h0 hp hI=>?_,fun D s h0 hp hI=>?_,fun D s h0 hp hI=>?_,fun D s h0 hp hI=>?_,fun D s h0 hp hI=>?_,fun D s h0 hp hI=>?_,fun D s h0 hp hI=>?_,fun D s h0 hp hI=>?_,trivial⟩
   all_goals obtain ⟨O0,O1,O2,E1,E3,E5,E6,E14,B0,F0,F1,F2,F3,F4,F5,F6,F7,F8,F9,F10,F11,F12,F13,P0,P1⟩:=hI
   all_goals (try simp [preds,Region.binds] at hp)
   all_goals (try have N0:=zAV O0 h0)
   all_goals (try have N1:=zAV O1 h0)
   all_goals (try have N2:=zAV O2 h0)
   all_goals first|(simp +contextual only [hnl,h0,hp,N0,N1,N2,O0,O1,O2,E1,E3,E5,E6,E14,B0,F0,F1,F2,F3,F4,F5,F6,F7,F8,F9,F10,F11,F12,F13,P0,P1,setD,↓kN,↓kP,↓kG,push_cast,seval,reduceCtorEq,cI])|(simp +contextual only [hnl,h0,N0,N1,N2,O0,O1,O2,E1,E3,E5,E6,E14,B0,F0,F1,F2,F3,F4,F5,F6,F7,F8,F9,F10,F11,F12,F13,P0,P1,setD,↓kN,↓kP,↓kG,push_cast,seval,reduceCtorEq,cI])|(simp +contextual only [hnl,h0,hp,O0,O1,O2,E1,E3,E5,E6,E14,B0,F0,F1,F2,F3,F4,F5,F6,F7,F8,F9,F10,F11,F12,F13,P0,P1,setD,↓kN,↓kP,↓kG,push_cast,seval,reduceCtorEq,cI])|(simp +contextual only [hnl,h0,O0,O1,O2,E1,E3,E5,E6,E14,B0,F0,F1,F2,F3,F4,F5,F6,F7,F8,F9,F10,F11,F12,F13,P0,P1,setD,↓kN,↓kP,↓kG,push_cast,seval,reduceCtorEq,cI])
   all_goals first|omega|(refine And.intro ?_ ?_<;>omega)|rfl|skip
  intro D s hD hI
  obtain ⟨O0,O1,O2,E1,E3,E5,E6,E14,B0,F0,F1,F2,F3,F4,F5,F6,F7,F8,F9,F10,F11,F12,F13,P0,P1⟩:=hI
  have Q3:=F11 (hD 11 (by decide))
  have Q4:=F12 (hD 12 (by decide))
  have Q5:=F13 (hD 13 (by decide))
  have Q6:=P1 (hD 6 (by decide))
  refine hK _ ?_
  refine zAo (t:=AS.of [(1,.one (.padr (.prod (.sl (.sl .int)) (.prod (.sl .str) .int)) (q,l,n))),(3,.one (.box 32)),(5,.one (.val (.sl .str) (M.map Prod.fst))),(6,.one (.val (.sl .str) (bksV M))),(14,.I m),(15,.one (.box 150)),(16,.one (.val .int ((m:Nat):Int))),(17,.one (.val .int 0))] [] [(32,.rcd [.raw (.int .i32 0),.raw (.int .u32 0),.val (.sl (.sl .int)) f,.val (.sl (.sl .int)) c,.val (.sl .int) a,.val (.sl .int) b,.val .int w,.mk 32 9 .str ord,.val .str bk]),(150,.rcd [.raw (.int .i32 0),.raw (.int .u32 0),.val (.sl (.sl .int)) f2,.val (.sl (.sl .int)) c2,.val (.sl .int) a2,.val (.sl .int) b2,.val .int w2,.mk 150 9 .str ord2,.val .str bk2])]) ?_ ?_
  ·refine zAf ?_ ?_ ?_<;>simp only [E1,E3,E5,E6,E14,B0,Q3,Q4,Q5,Q6,push_cast,seval,reduceCtorEq,cI]
   all_goals first|exact ⟨_,rfl⟩|skip
  clear hK
  repeat' (first|(refine goK (by assumption) ?_; iterate 4 (try clear hK K))|(refine zAb fun K hK=>?_)|((first|refine zAa hE rfl ?_|refine zAi ?_); simp +contextual only [hnl,↓kA,push_cast,seval,reduceCtorEq,cI])|refine zAd ?_|((first|refine zAg ?_|refine zAj ?_); simp only [thenQ,zAh,if_true,if_false,Nat.reduceEqDiff,reduceCtorEq])|(refine zAe (by rfl) (fun hb=>?_) (fun hb=>?_)<;>(try simp only [bq,reduceCtorEq] at hb)<;>(try omega))|refine zAr (by rfl) ?_ ?_|refine andS ?_|(refine ⟨fun hc=>?_,fun hc=>?_⟩)|(intro hc; try omega))
  refine zBL hE (fun D s=>(D 5=true→D 4=true) ∧
   (D 6=true→D 4=true) ∧
   (D 9=true→D 4=true) ∧
   s.env 1=.one (.padr (.prod (.sl (.sl .int)) (.prod (.sl .str) .int)) (q,l,n)) ∧
   s.env 3=.one (.box 32) ∧
   s.env 5=.one (.val (.sl .str) (M.map Prod.fst)) ∧
   s.env 6=.one (.val (.sl .str) (bksV M)) ∧
   s.env 14=.I m ∧
   s.env 15=.one (.box 150) ∧
   s.env 16=.one (.val .int ((m:Nat):Int)) ∧
   s.env 17=.one (.val .int 0) ∧
   s.boxes 32=some (.rcd [.raw (.int .i32 0),.raw (.int .u32 0),.val (.sl (.sl .int)) f,.val (.sl (.sl .int)) c,.val (.sl .int) a,.val (.sl .int) b,.val .int w,.mk 32 9 .str ord,.val .str bk]) ∧
   s.boxes 150=some (.rcd [.raw (.int .i32 0),.raw (.int .u32 0),.val (.sl (.sl .int)) f2,.val (.sl (.sl .int)) c2,.val (.sl .int) a2,.val (.sl .int) b2,.val .int w2,.mk 150 9 .str ord2,.val .str bk2]) ∧
   (D 0=true→s.env 155=.one (.padr (.sl (.sl .int)) q)) ∧
   (D 1=true→s.env 156=.one (.val (.sl (.sl .int)) q)) ∧
   (D 2=true→s.env 157=.one (.box 32)) ∧
   (D 3=true→s.env 158=.one (.val .str bk)) ∧
   (D 4=true→s.env 159=.tup [.box 159,.val .int ((M.length:Nat):Int),.val .int 0]) ∧
   (D 5=true→s.env 154=.tup [.box 159,.val .int ((M.length:Nat):Int),.val .int 0]) ∧
   (D 6=true→s.env 160=.one (.box 159)) ∧
   (D 7=true→s.env 161=.one (.val .int ((M.length:Nat):Int))) ∧
   (D 8=true→s.env 162=.one (.val .int 0)) ∧
   (D 9=true→s.env 18=.one (.box 159)) ∧
   (D 10=true→s.env 19=.one (.val .int ((M.length:Nat):Int))) ∧
   (D 11=true→s.env 20=.one (.val .int 0)) ∧
   (D 4=false→True) ∧
   (D 4=true→s.boxes 159=some (.rcd [.raw (.int .i32 0),.raw (.int .u32 0),.val (.sl (.sl .int)) f,.val (.sl (.sl .int)) c,.val (.sl .int) a,.val (.sl .int) b,.val .int w,.mk 159 9 .str ord,.val .str bk]))) rfl (by kernel_rfl) ?_ ?_ ?_
  ·dsimp only
   simp only [push_cast,seval,reduceCtorEq,cI]
  ·refine ⟨fun D s h0 hp hI=>?_,fun D s h0 hp hI=>?_,fun D s h0 hp hI=>?_,fun D s h0 hp hI=>?_,fun D s h0 hp hI=>?_,fun D s h0 hp hI=>?_,fun D s h0 hp hI=>?_,fun D s h0 hp hI=>?_,fun D s h0 hp hI=>?_,fun D s h0 hp hI=>?_,fun D s h0 hp hI=>?_,fun D s h0 hp hI=>?_,trivial⟩
   all_goals obtain ⟨O0,O1,O2,E1,E3,E5,E6,E14,E15,E16,E17,B0,B1,F0,F1,F2,F3,F4,F5,F6,F7,F8,F9,F10,F11,P0,P1⟩:=hI
   all_goals (try simp [preds,Region.binds] at hp)
   all_goals (try have N0:=zAV O0 h0)
   all_goals (try have N1:=zAV O1 h0)
   all_goals (try have N2:=zAV O2 h0)
   all_goals first|(simp +contextual only [hnl,h0,hp,N0,N1,N2,O0,O1,O2,E1,E3,E5,E6,E14,E15,E16,E17,B0,B1,F0,F1,F2,F3,F4,F5,F6,F7,F8,F9,F10,F11,P0,P1,setD,↓kN,↓kP,↓kG,push_cast,seval,reduceCtorEq,cI])|(simp +contextual only [hnl,h0,N0,N1,N2,O0,O1,O2,E1,E3,E5,E6,E14,E15,E16,E17,B0,B1,F0,F1,F2,F3,F4,F5,F6,F7,F8,F9,F10,F11,P0,P1,setD,↓kN,↓kP,↓kG,push_cast,seval,reduceCtorEq,cI])|(simp +contextual only [hnl,h0,hp,O0,O1,O2,E1,E3,E5,E6,E14,E15,E16,E17,B0,B1,F0,F1,F2,F3,F4,F5,F6,F7,F8,F9,F10,F11,P0,P1,setD,↓kN,↓kP,↓kG,push_cast,seval,reduceCtorEq,cI])|(simp +contextual only [hnl,h0,O0,O1,O2,E1,E3,E5,E6,E14,E15,E16,E17,B0,B1,F0,F1,F2,F3,F4,F5,F6,F7,F8,F9,F10,F11,P0,P1,setD,↓kN,↓kP,↓kG,push_cast,seval,reduceCtorEq,cI])
   all_goals first|omega|(refine And.intro ?_ ?_<;>omega)|rfl|skip
  intro D s hD hI
  obtain ⟨O0,O1,O2,E1,E3,E5,E6,E14,E15,E16,E17,B0,B1,F0,F1,F2,F3,F4,F5,F6,F7,F8,F9,F10,F11,P0,P1⟩:=hI
  have Q3:=F9 (hD 9 (by decide))
  have Q4:=F10 (hD 10 (by decide))
  have Q5:=F11 (hD 11 (by decide))
  have Q6:=P1 (hD 4 (by decide))
  refine hK _ ?_
  refine zAo (t:=AS.of [(1,.one (.padr (.prod (.sl (.sl .int)) (.prod (.sl .str) .int)) (q,l,n))),(3,.one (.box 32)),(5,.one (.val (.sl .str) (M.map Prod.fst))),(6,.one (.val (.sl .str) (bksV M))),(14,.I m),(15,.one (.box 150)),(16,.one (.val .int ((m:Nat):Int))),(17,.one (.val .int 0)),(18,.one (.box 159)),(19,.one (.val .int ((M.length:Nat):Int))),(20,.one (.val .int 0))] [] [(32,.rcd [.raw (.int .i32 0),.raw (.int .u32 0),.val (.sl (.sl .int)) f,.val (.sl (.sl .int)) c,.val (.sl .int) a,.val (.sl .int) b,.val .int w,.mk 32 9 .str ord,.val .str bk]),(150,.rcd [.raw (.int .i32 0),.raw (.int .u32 0),.val (.sl (.sl .int)) f2,.val (.sl (.sl .int)) c2,.val (.sl .int) a2,.val (.sl .int) b2,.val .int w2,.mk 150 9 .str ord2,.val .str bk2]),(159,.rcd [.raw (.int .i32 0),.raw (.int .u32 0),.val (.sl (.sl .int)) f,.val (.sl (.sl .int)) c,.val (.sl .int) a,.val (.sl .int) b,.val .int w,.mk 159 9 .str ord,.val .str bk])]) ?_ ?_
  ·refine zAf ?_ ?_ ?_<;>simp only [E1,E3,E5,E6,E14,E15,E16,E17,B0,B1,Q3,Q4,Q5,Q6,push_cast,seval,reduceCtorEq,cI]
   all_goals first|exact ⟨_,rfl⟩|skip
  clear hK
  repeat' (first|(refine goK (by assumption) ?_; iterate 4 (try clear hK K))|(refine zAb fun K hK=>?_)|((first|refine zAa hE rfl ?_|refine zAi ?_); simp +contextual only [hnl,↓kA,push_cast,seval,reduceCtorEq,cI])|refine zAd ?_|((first|refine zAg ?_|refine zAj ?_); simp only [thenQ,zAh,if_true,if_false,Nat.reduceEqDiff,reduceCtorEq])|(refine zAe (by rfl) (fun hb=>?_) (fun hb=>?_)<;>(try simp only [bq,reduceCtorEq] at hb)<;>(try omega))|refine zAr (by rfl) ?_ ?_|refine andS ?_|(refine ⟨fun hc=>?_,fun hc=>?_⟩)|(intro hc; try omega))
  refine zBL hE (fun D s=>s.env 1=.one (.padr (.prod (.sl (.sl .int)) (.prod (.sl .str) .int)) (q,l,n)) ∧
   s.env 3=.one (.box 32) ∧
   s.env 5=.one (.val (.sl .str) (M.map Prod.fst)) ∧
   s.env 6=.one (.val (.sl .str) (bksV M)) ∧
   s.env 14=.I m ∧
   s.env 15=.one (.box 150) ∧
   s.env 16=.one (.val .int ((m:Nat):Int)) ∧
   s.env 17=.one (.val .int 0) ∧
   s.env 18=.one (.box 159) ∧
   s.env 19=.one (.val .int ((M.length:Nat):Int)) ∧
   s.env 20=.one (.val .int 0) ∧
   s.boxes 32=some (.rcd [.raw (.int .i32 0),.raw (.int .u32 0),.val (.sl (.sl .int)) f,.val (.sl (.sl .int)) c,.val (.sl .int) a,.val (.sl .int) b,.val .int w,.mk 32 9 .str ord,.val .str bk]) ∧
   s.boxes 150=some (.rcd [.raw (.int .i32 0),.raw (.int .u32 0),.val (.sl (.sl .int)) f2,.val (.sl (.sl .int)) c2,.val (.sl .int) a2,.val (.sl .int) b2,.val .int w2,.mk 150 9 .str ord2,.val .str bk2]) ∧
   s.boxes 159=some (.rcd [.raw (.int .i32 0),.raw (.int .u32 0),.val (.sl (.sl .int)) f,.val (.sl (.sl .int)) c,.val (.sl .int) a,.val (.sl .int) b,.val .int w,.mk 159 9 .str ord,.val .str bk]) ∧
   (D 0=true→s.env 163=.one (.val .int 0)) ∧
   (D 1=true→s.env 164=.one (.val .bool false)) ∧
   (D 2=true→s.env 165=.one (.val .bool false)) ∧
   (D 3=true→s.env 166=.one (.val .int 0)) ∧
   (D 4=true→s.env 167=.one (.val .bool false)) ∧
   (D 5=true→s.env 168=.one (.val .bool false)) ∧
   (D 6=true→s.env 169=.one (.val .bool false)) ∧
   (D 7=true→s.env 170=.one (.box 150)) ∧
   (D 8=true→s.env 171=.one (.val .bool false)) ∧
   (D 9=true→s.env 172=.one (.val .bool false)) ∧
   (D 10=true→s.env 173=.one (.val .bool false)) ∧
   (D 11=true→s.env 174=.one (.box 159)) ∧
   (D 12=true→s.env 175=.one (.val .bool false)) ∧
   (D 13=true→s.env 176=.one (.val .bool false)) ∧
   (D 14=true→s.env 177=.one (.val .bool false)) ∧
   (D 15=true→s.env 178=.one (.val .int ((m:Nat):Int))) ∧
   (D 16=true→s.env 179=.I m) ∧
   (D 17=true→s.env 180=.one (.val .bool false)) ∧
   (D 18=true→s.env 181=.one (.val .bool false)) ∧
   (D 19=true→s.env 182=.one (.val .bool false)) ∧
   (D 20=true→s.env 183=.one (.val .int ((M.length:Nat):Int))) ∧
   (D 21=true→s.env 184=.one (.val (.sl .str) (M.map Prod.fst))) ∧
   (D 22=true→s.env 185=.I ((M.map Prod.fst).length:Nat)) ∧
   (D 23=true→s.env 186=.one (.val .bool false)) ∧
   (D 24=true→s.env 187=.one (.val .bool false)) ∧
   (D 25=true→s.env 188=.one (.val .bool false)) ∧
   (D 26=true→s.env 189=.one (.box 150)) ∧
   (D 27=true→s.env 190=.one (.val .str bk2)) ∧
   (D 28=true→s.env 191=.one (.val (.sl .str) (bksV M))) ∧
   (D 29=true→s.env 192=.I m) ∧
   (D 30=true→s.env 193=.one (.padr .str bk2)) ∧
   (D 31=true→s.env 194=.one (.val .str bk2)) ∧
   (D 32=true→s.env 195=.one (.val .bool false)) ∧
   (D 33=true→s.env 196=.one (.val .bool false)) ∧
   (D 34=true→s.env 197=.one (.val .bool false)) ∧
   (D 35=true→s.env 198=.one (.box 159)) ∧
   (D 36=true→s.env 199=.one (.box 32)) ∧
   (D 37=true→s.env 200=.one (.val .bool true)) ∧
   (D 38=true→s.env 201=.one (.val .bool false)) ∧
   (D 39=true→s.env 202=.one (.val .bool false)) ∧
   (D 40=true→s.env 203=.one (.val .bool false)) ∧
   (D 41=true→s.env 204=.one (.box 32)) ∧
   (D 42=true→s.env 205=.one (.val .bool true)) ∧
   (D 43=true→s.env 206=.one (.val .bool false)) ∧
   (D 44=true→s.env 207=.one (.val .bool false))) rfl (by kernel_rfl) ?_ ?_ ?_
  ·dsimp only
   simp only [push_cast,seval,reduceCtorEq,cI]
  ·refine ⟨fun D s h0 hp hI=>?_,fun D s h0 hp hI=>?_,fun D s h0 hp hI=>?_,fun D s h0 hp hI=>?_,fun D s h0 hp hI=>?_,fun D s h0 hp hI=>?_,fun D s h0 hp hI=>?_,fun D s h0 hp hI=>?_,fun D s h0 hp hI=>?_,fun D s h0 hp hI=>?_,fun D s h0 hp hI=>?_,fun D s h0 hp hI=>?_,fun D s h0 hp hI=>?_,fun D s h0 hp hI=>?_,fun D s h0 hp hI=>?_,fun D s h0 hp hI=>?_,fun D s h0 hp hI=>?_,fun D s h0 hp hI=>?_,fun D s h0 hp hI=>?_,fun D s h0 hp hI=>?_,fun D s h0 hp hI=>?_,fun D s h0 hp hI=>?_,fun D s h0 hp hI=>?_,fun D s h0 hp hI=>?_,fun D s h0 hp hI=>?_,fun D s h0 hp hI=>?_,fun D s h0 hp hI=>?_,fun D s h0 hp hI=>?_,fun D s h0 hp hI=>?_,fun D s h0 hp hI=>?_,fun D s h0 hp hI=>?_,fun D s h0 hp hI=>?_,fun D s h0 hp hI=>?_,fun D s h0 hp hI=>?_,fun D s h0 hp hI=>?_,fun D s h0 hp hI=>?_,fun D s h0 hp hI=>?_,fun D s h0 hp hI=>?_,fun D s h0 hp hI=>?_,fun D s h0 hp hI=>?_,fun D s h0 hp hI=>?_,fun D s h0 hp hI=>?_,fun D s h0 hp hI=>?_,fun D s h0 hp hI=>?_,fun D s h0 hp hI=>?_,trivial⟩
   all_goals obtain ⟨E1,E3,E5,E6,E14,E15,E16,E17,E18,E19,E20,B0,B1,B2,F0,F1,F2,F3,F4,F5,F6,F7,F8,F9,F10,F11,F12,F13,F14,F15,F16,F17,F18,F19,F20,F21,F22,F23,F24,F25,F26,F27,F28,F29,F30,F31,F32,F33,F34,F35,F36,F37,F38,F39,F40,F41,F42,F43,F44⟩:=hI
   all_goals (try simp [preds,Region.binds] at hp)
   all_goals first|(simp +contextual only [hnl,h0,hp,E1,E3,E5,E6,E14,E15,E16,E17,E18,E19,E20,B0,B1,B2,F0,F1,F2,F3,F4,F5,F6,F7,F8,F9,F10,F11,F12,F13,F14,F15,F16,F17,F18,F19,F20,F21,F22,F23,F24,F25,F26,F27,F28,F29,F30,F31,F32,F33,F34,F35,F36,F37,F38,F39,F40,F41,F42,F43,F44,setD,↓kN,↓kP,↓kG,push_cast,seval,reduceCtorEq,cI])|(simp +contextual only [hnl,h0,E1,E3,E5,E6,E14,E15,E16,E17,E18,E19,E20,B0,B1,B2,F0,F1,F2,F3,F4,F5,F6,F7,F8,F9,F10,F11,F12,F13,F14,F15,F16,F17,F18,F19,F20,F21,F22,F23,F24,F25,F26,F27,F28,F29,F30,F31,F32,F33,F34,F35,F36,F37,F38,F39,F40,F41,F42,F43,F44,setD,↓kN,↓kP,↓kG,push_cast,seval,reduceCtorEq,cI])
   all_goals first|omega|(refine And.intro ?_ ?_<;>omega)|rfl|skip
  intro D s hD hI
  obtain ⟨E1,E3,E5,E6,E14,E15,E16,E17,E18,E19,E20,B0,B1,B2,F0,F1,F2,F3,F4,F5,F6,F7,F8,F9,F10,F11,F12,F13,F14,F15,F16,F17,F18,F19,F20,F21,F22,F23,F24,F25,F26,F27,F28,F29,F30,F31,F32,F33,F34,F35,F36,F37,F38,F39,F40,F41,F42,F43,F44⟩:=hI
  have Q3:=F44 (hD 44 (by decide))
  refine hK _ ?_
  refine zAo (t:=AS.of [(1,.one (.padr (.prod (.sl (.sl .int)) (.prod (.sl .str) .int)) (q,l,n))),(3,.one (.box 32)),(5,.one (.val (.sl .str) (M.map Prod.fst))),(6,.one (.val (.sl .str) (bksV M))),(14,.I m),(15,.one (.box 150)),(207,.one (.val .bool false))] [] [(32,.rcd [.raw (.int .i32 0),.raw (.int .u32 0),.val (.sl (.sl .int)) f,.val (.sl (.sl .int)) c,.val (.sl .int) a,.val (.sl .int) b,.val .int w,.mk 32 9 .str ord,.val .str bk]),(150,.rcd [.raw (.int .i32 0),.raw (.int .u32 0),.val (.sl (.sl .int)) f2,.val (.sl (.sl .int)) c2,.val (.sl .int) a2,.val (.sl .int) b2,.val .int w2,.mk 150 9 .str ord2,.val .str bk2])]) ?_ ?_
  ·refine zAf ?_ ?_ ?_<;>simp only [E1,E3,E5,E6,E14,E15,B0,B1,Q3,push_cast,seval,reduceCtorEq,cI]
   all_goals first|exact ⟨_,rfl⟩|skip
  clear hK
  replace hnl:=hnl0
  repeat' (first|(refine goK (by assumption) ?_; iterate 4 (try clear hK K))|(refine zAb fun K hK=>?_)|((first|refine zAa hE rfl ?_|refine zAi ?_); simp +contextual only [hnl,↓kA,push_cast,seval,reduceCtorEq,cI])|refine zAd ?_|((first|refine zAg ?_|refine zAj ?_); simp only [thenQ,zAh,if_true,if_false,Nat.reduceEqDiff,reduceCtorEq])|(refine zAe (by rfl) (fun hb=>?_) (fun hb=>?_)<;>(try simp only [bq,reduceCtorEq] at hb)<;>(try omega))|refine zAr (by rfl) ?_ ?_|refine andS ?_|(refine ⟨fun hc=>?_,fun hc=>?_⟩)|(intro hc; try omega))
  refine zAk (fun (y:Nat×HX)=>AS.of [(1,.one (.padr (.prod (.sl (.sl .int)) (.prod (.sl .str) .int)) (q,l,n))),(3,.one (.box 32)),(5,.one (.val (.sl .str) (M.map Prod.fst))),(6,.one (.val (.sl .str) (bksV M))),(14,.I m),(15,.one (.box 150)),(21,.I y.1)] [] [(32,.rcd [.raw (.int .i32 0),.raw (.int .u32 0),.val (.sl (.sl .int)) f,.val (.sl (.sl .int)) c,.val (.sl .int) a,.val (.sl .int) b,.val .int w,.mk 32 9 .str ord,.val .str bk]),(150,.rcd [.raw (.int .i32 0),.raw (.int .u32 0),.val (.sl (.sl .int)) y.2.2.2.1,.val (.sl (.sl .int)) y.2.2.2.2.1,.val (.sl .int) y.2.2.2.2.2.1,.val (.sl .int) y.2.2.2.2.2.2.1,.val .int y.2.2.2.2.2.2.2.1,.mk 150 9 .str y.2.2.2.2.2.2.2.2.1,.val .str y.2.2.2.2.2.2.2.2.2.1])]) (fun y=>(m≤y.1∧y.1≤M.length)∧y.2=hAt q M y.1) (fun y=>M.length - y.1) (m,((),(),f2,c2,a2,b2,w2,ord2,bk2,())) ⟨⟨Nat.le_refl _,hml⟩,hh2.symm⟩ ?_ ?_
  ·refine zAf ?_ ?_ ?_<;>simp only [push_cast,seval,reduceCtorEq,cI]
   all_goals first|rfl|exact ⟨rfl,rfl⟩|trace_state
  clear hnl
  rintro ⟨k,h⟩ ⟨⟨hk1,hk2⟩,hy⟩ K3 hL3
  dsimp only at hk1 hk2 hy ⊢
  rcases Nat.lt_or_ge k M.length with hlt3|hge
  ·obtain ⟨d1,d2⟩:=hA3 k hlt3
   have h5:=hA2' k hk2
   rw [←hy] at d1 d2 h5
   have hmk:(M.map Prod.fst).getD k ByteArray.empty=(M.getD k (ByteArray.empty,0)).1:=zGo Prod.fst M k (ByteArray.empty,0)
   obtain ⟨⟨t,v⟩,hyk⟩:∃ y,M.getD k (ByteArray.empty,0)=y:=⟨_,rfl⟩
   rw [hyk] at d1 d2 hmk
   dsimp only at d1 d2 hmk
   obtain ⟨⟨⟨⟩,⟨⟩,(f4:List (List Int)),(c4:List (List Int)),(a4:List Int),(b4:List Int),(w4:Int),(ord4:List ByteArray),(bk4:ByteArray),⟨⟩⟩,hh4⟩:∃ h2,doX h t=h2:=⟨_,rfl⟩
   rw [hh4] at d2
   obtain ⟨⟨⟩,⟨⟩,(f3:List (List Int)),(c3:List (List Int)),(a3:List Int),(b3:List Int),(w3:Int),(ord3:List ByteArray),(bk3:ByteArray),⟨⟩⟩:=h
   dsimp only
   have hnl:=And.intro hnl1 (And.intro (eq_true h5) (And.intro hmk (And.intro d1 hh4)))
   repeat' (first|(refine goK (by assumption) ?_; iterate 4 (try clear hK K))|(refine zAb fun K hK=>?_)|((first|refine zAa hE rfl ?_|refine zAi ?_); simp +contextual only [hnl,↓kA,push_cast,seval,reduceCtorEq,cI])|refine zAd ?_|((first|refine zAg ?_|refine zAj ?_); simp only [thenQ,zAh,if_true,if_false,Nat.reduceEqDiff,reduceCtorEq])|(refine zAe (by rfl) (fun hb=>?_) (fun hb=>?_)<;>(try simp only [bq,reduceCtorEq] at hb)<;>(try omega))|refine zAr (by rfl) ?_ ?_|refine andS ?_|(refine ⟨fun hc=>?_,fun hc=>?_⟩)|(intro hc; try omega))
   all_goals (first|(refine hL3 _ (k+1,((),(),f4,c4,a4,b4,w4,ord4,bk4,())) ⟨⟨by omega,by omega⟩,d2.symm⟩ (by dsimp only; omega) ?_; refine zAf ?_ ?_ ?_<;>simp only [push_cast,seval,reduceCtorEq,cI])|trace_state)
   all_goals first|rfl|trace_state
  ·obtain rfl:k=M.length:=by omega
   rw [hA1] at hy
   subst hy
   dsimp only
   have hnl:=hnl3
   repeat' (first|(refine goK (by assumption) ?_; iterate 4 (try clear hK K))|(refine zAb fun K hK=>?_)|((first|refine zAa hE rfl ?_|refine zAi ?_); simp +contextual only [hnl,↓kA,push_cast,seval,reduceCtorEq,cI])|refine zAd ?_|((first|refine zAg ?_|refine zAj ?_); simp only [thenQ,zAh,if_true,if_false,Nat.reduceEqDiff,reduceCtorEq])|(refine zAe (by rfl) (fun hb=>?_) (fun hb=>?_)<;>(try simp only [bq,reduceCtorEq] at hb)<;>(try omega))|refine zAr (by rfl) ?_ ?_|refine andS ?_|(refine ⟨fun hc=>?_,fun hc=>?_⟩)|(intro hc; try omega))
   refine zBL hE (fun D s=>s.env 1=.one (.padr (.prod (.sl (.sl .int)) (.prod (.sl .str) .int)) (q,l,n)) ∧
    s.env 3=.one (.box 32) ∧
    s.env 5=.one (.val (.sl .str) (M.map Prod.fst)) ∧
    s.env 6=.one (.val (.sl .str) (bksV M)) ∧
    s.env 14=.I m ∧
    s.env 15=.one (.box 150) ∧
    s.boxes 32=some (.rcd [.raw (.int .i32 0),.raw (.int .u32 0),.val (.sl (.sl .int)) f,.val (.sl (.sl .int)) c,.val (.sl .int) a,.val (.sl .int) b,.val .int w,.mk 32 9 .str ord,.val .str bk]) ∧
    s.boxes 150=some (.rcd [.raw (.int .i32 0),.raw (.int .u32 0),.val (.sl (.sl .int)) f,.val (.sl (.sl .int)) c,.val (.sl .int) a,.val (.sl .int) b,.val .int w,.mk 150 9 .str ord,.val .str bk]) ∧
    (D 0=true→s.env 223=.one (.val (.sl .str) (bksV M))) ∧
    (D 1=true→s.env 224=.I m) ∧
    (D 2=true→s.env 225=.one (.padr .str bk2)) ∧
    (D 3=true→s.env 226=.one (.val .str bk2)) ∧
    (D 4=true→s.env 227=.one (.box 32)) ∧
    (D 5=true→s.env 228=.one (.val .str bk)) ∧
    (D 6=true→s.env 229=.tup [.val .str bk,.val .int ((M.length:Nat):Int),.val .int 0]) ∧
    (D 7=true→s.env 222=.tup [.val .str bk,.val .int ((M.length:Nat):Int),.val .int 0]) ∧
    (D 8=true→s.env 230=.one (.val .str bk)) ∧
    (D 9=true→s.env 231=.one (.val .int ((M.length:Nat):Int))) ∧
    (D 10=true→s.env 232=.one (.val .int 0)) ∧
    (D 11=true→s.env 22=.one (.val .str bk)) ∧
    (D 12=true→s.env 23=.one (.val .int ((M.length:Nat):Int))) ∧
    (D 13=true→s.env 24=.one (.val .int 0))) rfl (by kernel_rfl) ?_ ?_ ?_
   ·dsimp only
    simp only [push_cast,seval,reduceCtorEq,cI]
   ·refine ⟨fun D s h0 hp hI=>?_,fun D s h0 hp hI=>?_,fun D s h0 hp hI=>?_,fun D s h0 hp hI=>?_,fun D s h0 hp hI=>?_,fun D s h0 hp hI=>?_,fun D s h0 hp hI=>?_,fun D s h0 hp hI=>?_,fun D s h0 hp hI=>?_,fun D s h0 hp hI=>?_,fun D s h0 hp hI=>?_,fun D s h0 hp hI=>?_,fun D s h0 hp hI=>?_,fun D s h0 hp hI=>?_,trivial⟩
    all_goals obtain ⟨E1,E3,E5,E6,E14,E15,B0,B1,F0,F1,F2,F3,F4,F5,F6,F7,F8,F9,F10,F11,F12,F13⟩:=hI
    all_goals (try simp [preds,Region.binds] at hp)
    all_goals first|(simp +contextual only [hnl,h0,hp,E1,E3,E5,E6,E14,E15,B0,B1,F0,F1,F2,F3,F4,F5,F6,F7,F8,F9,F10,F11,F12,F13,setD,↓kN,↓kP,↓kG,push_cast,seval,reduceCtorEq,cI])|(simp +contextual only [hnl,h0,E1,E3,E5,E6,E14,E15,B0,B1,F0,F1,F2,F3,F4,F5,F6,F7,F8,F9,F10,F11,F12,F13,setD,↓kN,↓kP,↓kG,push_cast,seval,reduceCtorEq,cI])
    all_goals first|omega|(refine And.intro ?_ ?_<;>omega)|rfl|skip
   intro D s hD hI
   obtain ⟨E1,E3,E5,E6,E14,E15,B0,B1,F0,F1,F2,F3,F4,F5,F6,F7,F8,F9,F10,F11,F12,F13⟩:=hI
   have Q3:=F11 (hD 11 (by decide))
   have Q4:=F12 (hD 12 (by decide))
   have Q5:=F13 (hD 13 (by decide))
   refine hK _ ?_
   refine zAo (t:=AS.of [(3,.one (.box 32)),(5,.one (.val (.sl .str) (M.map Prod.fst))),(15,.one (.box 150)),(22,.one (.val .str bk)),(23,.one (.val .int ((M.length:Nat):Int))),(24,.one (.val .int 0))] [] [(32,.rcd [.raw (.int .i32 0),.raw (.int .u32 0),.val (.sl (.sl .int)) f,.val (.sl (.sl .int)) c,.val (.sl .int) a,.val (.sl .int) b,.val .int w,.mk 32 9 .str ord,.val .str bk]),(150,.rcd [.raw (.int .i32 0),.raw (.int .u32 0),.val (.sl (.sl .int)) f,.val (.sl (.sl .int)) c,.val (.sl .int) a,.val (.sl .int) b,.val .int w,.mk 150 9 .str ord,.val .str bk])]) ?_ ?_
   ·refine zAf ?_ ?_ ?_<;>simp only [E1,E3,E5,E6,E14,E15,B0,B1,Q3,Q4,Q5,push_cast,seval,reduceCtorEq,cI]
    all_goals first|exact ⟨_,rfl⟩|skip
   clear hK
   repeat' (first|(refine goK (by assumption) ?_; iterate 4 (try clear hK K))|(refine zAb fun K hK=>?_)|((first|refine zAa hE rfl ?_|refine zAi ?_); simp +contextual only [hnl,↓kA,push_cast,seval,reduceCtorEq,cI])|refine zAd ?_|((first|refine zAg ?_|refine zAj ?_); simp only [thenQ,zAh,if_true,if_false,Nat.reduceEqDiff,reduceCtorEq])|(refine zAe (by rfl) (fun hb=>?_) (fun hb=>?_)<;>(try simp only [bq,reduceCtorEq] at hb)<;>(try omega))|refine zAr (by rfl) ?_ ?_|refine andS ?_|(refine ⟨fun hc=>?_,fun hc=>?_⟩)|(intro hc; try omega))
   all_goals trace_state
end Go.Proofs.YtekfodeknpnkbaaGreatDoor
