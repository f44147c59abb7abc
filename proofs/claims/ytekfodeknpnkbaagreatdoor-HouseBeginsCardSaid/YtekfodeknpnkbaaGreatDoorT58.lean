import Derived.Test.YtekfodeknpnkbaaGreatDoorT48
import Derived.Test.YtekfodeknpnkbaaGreatDoorT56
set_option linter.unusedSimpArgs false
set_option linter.unusedVariables false
namespace Go.Proofs.YtekfodeknpnkbaaGreatDoor
open Go.RowKit Go.VS Go.OT
theorem HL.uniq {h:HX} {L M:List Line} (q:HL h L) (r:HL h M):L=M:=by
 have e:=q.read.symm.trans r.read
 injection e
end Go.Proofs.YtekfodeknpnkbaaGreatDoor
namespace Go.Proofs.YtekfodeknpnkbaaGreatDoor
open Go.RowKit Go.VS
@[push_cast] def zQu:Con:=⟨[.dat (.sl (.sl .int)),.dat (.sl .str),.dat .int],fun _=>True,fun _=>{res:=[.val .bool true]}⟩
set_option maxHeartbeats 8000000 in
theorem zLR:FnSpec Tryz.prog 7 zQu:=by
 refine FnSpec.of_tri' (E:=know _ [] [] []) (zAl (kc zDg (kc zDB (kc zBU (kc zCQ (kc zCU (kc zIm (kc zJt (kc zES (kc zC2 (kc zDK (kc zEg (kc zKd all_nil)))))))))))) all_nil all_nil) Tryz.func7 rfl rfl (by kernel_rfl) ?_
 intro C x hE hnl hfit hpre
 simp only [Tryz.ntmps7,Tryz.results7,maxLen,seval,push_cast] at hnl hfit hpre ⊢
 obtain ⟨(q:List (List Int)),(l:List ByteArray),(n:Int),_⟩:=x
 dsimp only at hfit hpre ⊢
 have hem:({data:=#[]}:ByteArray)=ByteArray.empty:=rfl
 have hnl0:=hnl
 by_cases hlg:zFm l=true
 ·replace hnl:=And.intro hnl hlg
  exact auA
 rw [Bool.not_eq_true] at hlg
 have hls:∀ t∈l,t.size≤100000:=fun t ht=>by have:=(zFM hlg).2 t ht; omega
 by_cases he:zAu q=0
 rotate_left
 ·replace hnl:=And.intro hnl (And.intro hlg (eq_false he))
  exact auA
 have hin:=zAR he
 have hbp:BothP q l:=⟨he,hls⟩
 have hr:=(HR.new hin).all (l.take 30)
 have hhi:=zGC (l.take 30) (Hist.new (c:=q))
 obtain ⟨⟨⟨⟩,⟨⟩,(f:List (List Int)),(c:List (List Int)),(a:List Int),(b:List Int),(w:Int),(ord:List ByteArray),(bk:ByteArray),⟨⟩⟩,hh⟩:∃ h2,doAll (newH q) (l.take 30)=h2:=⟨_,rfl⟩
 obtain ⟨⟨(rc:List (List Int)),(ra:List Int),(rb:List Int),(rw:Int),(rn:Int),(rl:List Line),⟨⟩⟩,hx⟩:∃ x2,zGP (newR q) (l.take 30)=x2:=⟨_,rfl⟩
 rw [hh,hx] at hr
 rw [hh] at hhi
 obtain ⟨M,hM⟩:=hhi
 obtain rfl:rl=M:=hr.hl.uniq (hM.hl hin)
 have h60:=hr.hl.len.2
 have h60':rl.length≤60:=h60
 obtain ⟨hA1,hA2,hA3⟩:=hM.at
 obtain ⟨u,hu⟩:∃ u,Int.toNat (n % 18446744073709551616)=u:=⟨_,rfl⟩
 have hu2:Int.toNat (((rl.length:Int)+1) % 18446744073709551616)=rl.length+1:=by omega
 obtain ⟨m,hm⟩:∃ m,u % (rl.length+1)=m:=⟨_,rfl⟩
 have hml:m≤rl.length:=by have:=Nat.mod_lt u (show 0<rl.length+1 by omega); omega
 have hm2:(u:Int) % ((rl.length:Int)+1)=m:=by rw [←hm]; rfl
 obtain ⟨hp1,hp2,hp3,hp4⟩:=hM.part hin hml
 have hmg:=zKc hin hM hml
 have hwp:WritePre (rl.take m):=⟨by have:=List.length_take (i:=m) (l:=rl); omega,fun y hy=>(hr.hl.ln y (List.mem_of_mem_take hy)).pre⟩
 have hwb:=wr_bk (rl.take m)
 have hps:=zSA (L:=rl.take m) (fun y hy=>hr.hl.ln y (List.mem_of_mem_take hy)) (by have:=List.length_take (i:=m) (l:=rl); omega)
 have htl:(rl.take m).length=m:=by rw [List.length_take]; omega
 rw [htl] at hwb
 have hpl:=hp1.hl hin
 have hB:hBk ((),(),f,c,a,b,w,ord,bk,())=bk:=rfl
 rw [hB] at hmg
 obtain ⟨pt,hpt⟩:∃ pt,bkF 0 (rl.take m)=pt:=⟨_,rfl⟩
 rw [hpt] at hp2 hp4 hmg hwb hps
 have hq1:rpL pt=rl.take m:=by unfold rpL; rw [hp2]
 have hq2:rpE q pt=0:=by unfold rpE; rw [if_pos he,hp2,if_pos rfl,hq1,hp3]
 have hq3:rpI q pt=m:=by unfold rpI; rw [if_pos he,hp2,if_pos rfl,hq1,hp3]
 have hq4:rpH q pt=hAt q rl m:=by unfold rpH; rw [hq1,hp3]
 obtain ⟨h2,hh2⟩:∃ h2,hAt q rl m=h2:=⟨_,rfl⟩
 rw [hh2] at hq4 hp4 hpl
 have hsz2:=hpl.inv.st.sz
 have hbz:bk.size≤1000000:=by have h6:=hr.hl.inv.bk; have h7:=hr.hl.inv.ord; rw [hB] at h6; omega
 have hszH:=hr.hl.inv.st.sz
 obtain ⟨⟨⟩,⟨⟩,(f2:List (List Int)),(c2:List (List Int)),(a2:List Int),(b2:List Int),(w2:Int),(ord2:List ByteArray),(bk2:ByteArray),⟨⟩⟩:=h2
 have hB2:hBk ((),(),f2,c2,a2,b2,w2,ord2,bk2,())=bk2:=rfl
 rw [hB2] at hp4
 subst hp4
 have hS2:hSt ((),(),f2,c2,a2,b2,w2,ord2,bk2,())=(c2,a2,b2,w2):=rfl
 have hS:hSt ((),(),f,c,a,b,w,ord,bk,())=(c,a,b,w):=rfl
 rw [hS2] at hsz2
 rw [hS] at hszH
 have h2i:InR (m:Int):=by unfold InR; omega
 have hnlB:=And.intro hnl0 (And.intro hem (And.intro (eq_true hr) (And.intro hS (And.intro hB (And.intro (eq_true hszH) hmg)))))
 replace hnl:=And.intro hnl (And.intro hlg (And.intro he (And.intro (eq_true hbp) (And.intro hh (And.intro hx (And.intro hu (And.intro hu2 (And.intro hm (And.intro hm2 (And.intro (eq_true hwp) (And.intro hwb (And.intro hq2 (And.intro hq3 (And.intro hq4 (And.intro hB2 (And.intro hS2 (And.intro (eq_true hsz2) htl)))))))))))))))))
 clear hu hu2 hm hm2 hwp hwb hq1 hp2 hp3 hmg hbp hh hx hls hlg hS hB hszH
 repeat' (first|(refine goK (by assumption) ?_; iterate 4 (try clear hK K))|(refine zAb fun K hK=>?_)|((first|refine zAa hE rfl ?_|refine zAi ?_); simp +contextual only [hnl,↓kA,push_cast,seval,reduceCtorEq,cI])|(refine zAg ?_; simp only [thenQ,zAh,if_true,if_false,Nat.reduceEqDiff,reduceCtorEq])|(refine zAe (by rfl) (fun hb=>?_) (fun hb=>?_)<;>(try simp only [bq,reduceCtorEq] at hb)<;>(try omega))|refine andS ?_|(refine ⟨fun hc=>?_,fun hc=>?_⟩)|fail)
 refine ⟨show m≤9223372036854775807 by clear hnl hnlB; omega,?_⟩
 repeat' (first|(refine goK (by assumption) ?_; iterate 4 (try clear hK K))|(refine zAb fun K hK=>?_)|(refine zAa hE rfl ?_; simp +contextual only [hnl,↓kA,push_cast,seval,reduceCtorEq,cI])|refine zAd ?_|(refine zAg ?_; simp only [thenQ,zAh,if_true,if_false,Nat.reduceEqDiff,reduceCtorEq])|(refine zAe (by rfl) (fun hb=>?_) (fun hb=>?_)<;>(try simp only [bq,reduceCtorEq] at hb)<;>(try omega))|refine andS ?_|fail)
 refine zAk (fun (y:Nat×HX)=>AS.of [(10,.one (.box 41)),(11,.one (.box 1041)),(13,.one (.val .str bk2)),(14,.one (.box 69)),(17,.I y.1)] [] [(41,.rcd [.raw (.int .i32 0),.raw (.int .u32 0),.val (.sl (.sl .int)) f,.val (.sl (.sl .int)) c,.val (.sl .int) a,.val (.sl .int) b,.val .int w,.mk 41 9 .str ord,.val .str bk]),(1041,.rcd [.val (.sl (.sl .int)) rc,.val (.sl .int) ra,.val (.sl .int) rb,.val .int rw,.val .int rn,.val (.sl (.prod .str .int)) rl]),(69,.rcd [.raw (.int .i32 0),.raw (.int .u32 0),.val (.sl (.sl .int)) y.2.2.2.1,.val (.sl (.sl .int)) y.2.2.2.2.1,.val (.sl .int) y.2.2.2.2.2.1,.val (.sl .int) y.2.2.2.2.2.2.1,.val .int y.2.2.2.2.2.2.2.1,.mk 69 9 .str y.2.2.2.2.2.2.2.2.1,.val .str y.2.2.2.2.2.2.2.2.2.1])]) (fun y=>(m≤y.1∧y.1≤rl.length)∧y.2=hAt q rl y.1) (fun y=>rl.length - y.1) (m,((),(),f2,c2,a2,b2,w2,ord2,bk2,())) ⟨⟨Nat.le_refl _,hml⟩,hh2.symm⟩ ?_ ?_
 ·refine zAf ?_ ?_ ?_<;>simp only [push_cast,seval,reduceCtorEq,cI]
  all_goals first|rfl|exact ⟨rfl,rfl⟩|exact ⟨rfl,rfl,rfl⟩|trace_state
 rintro ⟨k,h⟩ ⟨⟨hk1,hk2⟩,hy⟩ K' hLp
 dsimp only at hk1 hk2 hy ⊢
 rcases Nat.lt_or_ge k rl.length with hlt|hge
 ·obtain ⟨d1,d2⟩:=hA3 k hlt
  have h5:=((hA2 k hk2).hl hin).inv
  rw [←hy] at d1 d2 h5
  obtain ⟨⟨t,v⟩,hyk⟩:∃ y,rl.getD k (ByteArray.empty,0)=y:=⟨_,rfl⟩
  rw [hyk] at d1 d2
  dsimp only at d1 d2
  obtain ⟨⟨⟨⟩,⟨⟩,(f4:List (List Int)),(c4:List (List Int)),(a4:List Int),(b4:List Int),(w4:Int),(ord4:List ByteArray),(bk4:ByteArray),⟨⟩⟩,hh4⟩:∃ h2,doX h t=h2:=⟨_,rfl⟩
  rw [hh4] at d2
  obtain ⟨⟨⟩,⟨⟩,(f3:List (List Int)),(c3:List (List Int)),(a3:List Int),(b3:List Int),(w3:Int),(ord3:List ByteArray),(bk3:ByteArray),⟨⟩⟩:=h
  dsimp only
  replace hnl:=And.intro hnl0 (And.intro (eq_true h5) (And.intro hyk (And.intro d1 hh4)))
  repeat' (first|(refine goK (by assumption) ?_; iterate 4 (try clear hK K))|(refine zAb fun K hK=>?_)|(refine zAa hE rfl ?_; simp +contextual only [hnl,↓kA,push_cast,seval,reduceCtorEq,cI])|refine zAd ?_|(refine zAg ?_; simp only [thenQ,zAh,if_true,if_false,Nat.reduceEqDiff,reduceCtorEq])|(refine zAe (by rfl) (fun hb=>?_) (fun hb=>?_)<;>(try simp only [bq,reduceCtorEq] at hb)<;>(try omega))|refine andS ?_|fail)
  refine hLp _ (k+1,((),(),f4,c4,a4,b4,w4,ord4,bk4,())) ⟨⟨by omega,by omega⟩,d2.symm⟩ (by dsimp only; omega) ?_
  refine zAf ?_ ?_ ?_<;>simp only [push_cast,seval,reduceCtorEq,cI]
 ·obtain rfl:k=rl.length:=by omega
  rw [hA1] at hy
  subst hy
  dsimp only
  replace hnl:=hnlB
  exact auA
end Go.Proofs.YtekfodeknpnkbaaGreatDoor
