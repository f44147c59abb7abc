import Derived.Test.YtekfodeknpnkbaaGreatDoorJ12
set_option linter.unusedSimpArgs false
set_option linter.unusedVariables false
namespace Go.Proofs.YtekfodeknpnkbaaGreatDoor
open Go.RowKit Go.VS Go.OT Go.LC
structure ImpPre (c:List (List Int)) (rc:RC):Prop where
 hrc:rc=.deep 38 3 .int (deepJ rc)
 ex:∃ a b:List Int,MQ a b c/\Pl a b (deepJ rc)
 cols:wid c<=6
abbrev zQf:=List (List Int)×RC×Unit
def impL (c p:List (List Int)):Bool:=decide (0<=(lwN c p (c.length+wid c)).last)
@[push_cast] def zXp:Con:=⟨[.dat (.sl (.sl .int)),.lend],fun (x:zQf)=>ImpPre x.1 x.2.1,
 fun (x:zQf)=>Out.mk [.own (.flat 3 .int (if impL x.1 (deepJ x.2.1)=true then [] else (lwN x.1 (deepJ x.2.1) (x.1.length+wid x.1)).far)),.val .bool (impL x.1 (deepJ x.2.1))]
  [(0,.deep 38 3 .int (if impL x.1 (deepJ x.2.1)=true then impV x.1 (deepJ x.2.1) (x.1.length+wid x.1) else deepJ x.2.1))] []⟩
theorem MQ.dims {a b:List Int} {c:List (List Int)} (h:MQ a b c):c.length=a.length/\wid c=b.length:=by
 have h1:=h.hc.rows
 have h2:=h.a5
 exact ⟨h1,h.hc.cols 0 (by omega)⟩
theorem zVY {a b:List Int} {c p:List (List Int)} (hq:MQ a b c) (hp:Pl a b p) (k:Nat) (hk:k<=c.length+wid c):LowPre c p (.flat 3 .int (lwK c p (c.length+wid c) k).far) (.flat 3 .int (lwK c p (c.length+wid c) k).by'):=by
 obtain ⟨d1,d2⟩:=MQ.dims hq
 have sim:=zFt (q:=p) hq.hc hq.a5 hq.b5.2 k
 have h5:=hq.a5
 have h6:=hq.b5
 rw [<-d1,<-d2] at sim
 refine ⟨by rw [zAU],by rw [zAU],by omega,by omega,by rw [d1,d2]; exact hq.hc,by rw [d1,d2]; exact hp.tab,?_⟩
 rw [zAU,zAU]
 exact ⟨sim.l1,sim.l2,fun v hv=>by have h7:=sim.bnd v hv; dsimp only; omega⟩
theorem zTR (c p:List (List Int)) (N k:Nat):lwAll c p ⟨(lwK c p N k).far,(lwK c p N k).by',-1⟩=lwK c p N (k+1):=rfl
structure Rd (c p:List (List Int)) (N:Nat) (f:Nat->Nat) (by0:List Int) (x P:Nat):Prop where
 by':∀ v,v<N->by0.getD v 0=((f v:Nat):Int)/\f v<N
 lt:∀ m,it f m x<N
 rnd:Round (cw c.length (gt c)) (eTo c.length (wid c) (gt p) c.length) f x P
 le:P<=N
theorem Rd.next {c p:List (List Int)} {N:Nat} {f:Nat->Nat} {by0:List Int} {x P:Nat} (h:Rd c p N f by0 x P) (m:Nat):by0.getD (it f m x) 0=((it f (m+1) x:Nat):Int):=(h.by' _ (h.lt m)).1
theorem zXq {a b:List Int} {c p:List (List Int)} (hq:MQ a b c) (hp:Pl a b p) (h:¬(lwN c p (c.length+wid c)).last<0) :
 (lwN c p (c.length+wid c)).last.toNat<c.length+wid c/\(∀ v,v<c.length+wid c->(lwN c p (c.length+wid c)).by'.getD v 0=((byF (lwN c p (c.length+wid c)).by' v:Nat):Int)/\byF (lwN c p (c.length+wid c)).by' v<c.length+wid c) /\
 Rd c p (c.length+wid c) (byF (lwN c p (c.length+wid c)).by') (lwN c p (c.length+wid c)).by' (rx c p (c.length+wid c)) (rp c p (c.length+wid c)):=by
 obtain ⟨d1,d2⟩:=MQ.dims hq
 have himp:=zEP hq hp
 have sim:=zFt (q:=p) hq.hc hq.a5 hq.b5.2 (a.length+b.length)
 rw [<-d1,<-d2] at himp sim
 obtain ⟨h1,h2,h3⟩:=himp.2 h
 have hL:lwN c p (c.length+wid c)=lwK c p (c.length+wid c) (c.length+wid c):=rfl
 rw [<-hL] at sim
 have hby:∀ v,v<c.length+wid c->(lwN c p (c.length+wid c)).by'.getD v 0=((byF (lwN c p (c.length+wid c)).by' v:Nat):Int)/\byF (lwN c p (c.length+wid c)).by' v<c.length+wid c:=fun v hv=>by
  have k1:=sim.b v hv
  have k2:=sim.bl v hv
  unfold byF
  omega
 have hlt:∀ m,it (byF (lwN c p (c.length+wid c)).by') m (rx c p (c.length+wid c))<c.length+wid c:=by
  intro m
  induction m with
  | zero=>exact h2
  | succ m ih=>exact (hby _ ih).2
 exact ⟨h1,hby,hby,hlt,h3,zLh _ _ (fun m=>it (byF (lwN c p (c.length+wid c)).by') m (rx c p (c.length+wid c))) (fun m _=>hlt m) (fun i j hij hj=>h3.inj hij hj)⟩
set_option maxHeartbeats 4000000 in
theorem zTt:FnSpec Tryz.prog 219 zXp:=by
 refine FnSpec.of_tri' (E:=know _ [] [] [25,27]) (zAl (kc zTK all_nil) all_nil all_nil) Tryz.func219 rfl rfl kr ?_
 intro C x hE hnl hfit hpre
 simp only [Tryz.ntmps219,Tryz.results219,maxLen,seval,push_cast] at hnl hfit hpre ⊢
 obtain ⟨(c:List (List Int)),(rc:RC),_⟩:=x
 dsimp only at hfit hpre ⊢
 obtain ⟨h1,⟨a,b,hq,hp⟩,hw6⟩:=hpre
 generalize deepJ rc=p at *
 subst h1
 obtain ⟨d1,d2⟩:=MQ.dims hq
 have ha5:=hq.a5
 have hb5:=hq.b5
 have hw:(c.getD 0 []).length=wid c:=rfl
 have himp:=zEP hq hp
 rw [<-d1,<-d2] at himp
 have hL0:impL c p=decide (0<=(lwN c p (c.length+wid c)).last):=rfl
 replace hnl:=aa hnl hw
 repeat' (first|(refine goK (by assumption) ?_; iterate 4 (try clear hK K))|(refine zAb fun K hK=>?_)|((first|refine zAa hE rfl ?_|((first|refine zAd hE 1 rfl rfl kr ?_|refine zAd hE 2 rfl rfl kr ?_|refine zAd hE 3 rfl rfl kr ?_|refine zAd hE 4 rfl rfl kr ?_); simp only [ao,List.length_nil,Nat.reduceAdd,Nat.reduceSub,ak,List.take_zero,al,ar])); simp +contextual only [hnl,↓kA,push_cast,seval,reduceCtorEq,cI])|refine zAc ?_|refine andS ?_|fail)
 refine zCH 7 25 25 (by simp only [push_cast,seval,reduceCtorEq,cI]; rfl) (by omega) ?_
 refine zCH 8 27 27 (by simp only [push_cast,seval,reduceCtorEq,cI]; rfl) (by omega) ?_
 refine zAk (fun k:Nat=>AS.of [(0,.one (.val (.sl (.sl .int)) c)),(1,.one (.ref 0)),(6,.I ((c.length:Int)+(wid c:Int))),(7,.one (.ref 25)),(8,.one (.ref 27)),(9,.I (lwK c p (c.length+wid c) k).last),(10,.I k)]
  [(0,.deep 38 3 .int p),(25,.flat 3 .int (lwK c p (c.length+wid c) k).far),(27,.flat 3 .int (lwK c p (c.length+wid c) k).by')] []) (fun k=>k<=c.length+wid c) (fun k=>c.length+wid c - k) 0 (aq _) ?_ ?_
 ·refine zAf ?_ ?_ ?_<;>simp only [push_cast,seval,reduceCtorEq,cI]
  ·rfl
  ·have hN:((c.length:Int)+(wid c:Int)).toNat=c.length+wid c:=by omega
   rw [hN]
   exact ⟨.inl rfl,.inl rfl⟩
 intro k hk K' hL
 have hlow:=zVY hq hp k hk
 have hnx:=zTR c p (c.length+wid c) k
 replace hnl:=aa hnl hnx
 repeat' (first|(refine goK (by assumption) ?_; iterate 4 (try clear hK K))|(refine zAb fun K hK=>?_)|((first|refine zAa hE rfl ?_|refine zAi ?_); simp +contextual only [hnl,↓kA,push_cast,seval,reduceCtorEq,cI])|refine zAc ?_|((first|refine zAg ?_|refine zAj ?_); simp only [thenQ,zAh,if_true,if_false,Nat.reduceEqDiff,reduceCtorEq])|(refine zAe (by rfl) (fun hb=>?_) (fun hb=>?_)<;>(try simp only [bq,reduceCtorEq] at hb)<;>(try omega))|refine andS ?_|fail)
 ·refine hL _ (k+1) (by omega) (by omega) ?_
  refine zAf ?_ ?_ ?_<;>simp only [push_cast,seval,reduceCtorEq,cI]
  all_goals first|exact ⟨.inl rfl,.inl rfl⟩|rfl
 ·obtain rfl:k=c.length+wid c:=by omega
  have hLN:lwK c p (c.length+wid c) (c.length+wid c)=lwN c p (c.length+wid c):=rfl
  rw [hLN] at hb ⊢
  have hi:impL c p=false:=aF (by omega)
  rw [hi]
  exact ⟨⟨rfl,rfl⟩,rfl⟩
 obtain rfl:k=c.length+wid c:=by omega
 have hLN:lwK c p (c.length+wid c) (c.length+wid c)=lwN c p (c.length+wid c):=rfl
 rw [hLN] at hb ⊢
 have hi:impL c p=true:=aD (by omega)
 rw [hi]
 obtain ⟨r1,r2,r3⟩:=zXq hq hp hb
 obtain ⟨k1,k2,k3,k4⟩:=hp.turn hq.hb (by rw [<-d1,<-d2]; exact r3.rnd)
 rw [<-d1] at k1 k2
 have hV:impV c p (c.length+wid c)=turnK c.length p (byF (lwN c p (c.length+wid c)).by') (rx c p (c.length+wid c)) (rl c p (c.length+wid c)) (rp c p (c.length+wid c)):=rfl
 have hrl:rl c p (c.length+wid c)=zA3 c.length p (byF (lwN c p (c.length+wid c)).by') (rx c p (c.length+wid c)) (rp c p (c.length+wid c)):=rfl
 have hrx:rx c p (c.length+wid c)=it (byF (lwN c p (c.length+wid c)).by') (c.length+wid c) (lwN c p (c.length+wid c)).last.toNat:=rfl
 rw [<-hrl] at k1 k2
 have hbl:(lwN c p (c.length+wid c)).by'.length=c.length+wid c:=(zFt (q:=p) (R:=c.length) (C:=wid c) (by rw [d1,d2]; exact hq.hc) (by omega) (by omega) (c.length+wid c)).l2
 have hl0:(lwN c p (c.length+wid c)).last=(((lwN c p (c.length+wid c)).last.toNat:Nat):Int):=by omega
 generalize rl c p (c.length+wid c)=l at *
 generalize rp c p (c.length+wid c)=P at *
 clear hL hnx hlow
 rw [hl0]
 clear hl0 hLN himp hL0
 generalize (lwN c p (c.length+wid c)).far=fr0 at *
 generalize (lwN c p (c.length+wid c)).last.toNat=v0 at *
 generalize (lwN c p (c.length+wid c)).by'=by0 at *
 generalize byF by0=f at *
 have hv0:∀ m,it f m v0<c.length+wid c:=by
  intro m
  induction m with
  | zero=>exact r1
  | succ m ih=>exact (r2 _ ih).2
 refine zAk (fun k:Nat=>AS.of [(0,.one (.val (.sl (.sl .int)) c)),(1,.one (.ref 0)),(6,.I ((c.length:Int)+(wid c:Int))),(8,.one (.ref 27)),(9,.I ((it f k v0:Nat):Int)),(11,.I k)]
  [(0,.deep 38 3 .int p),(27,.flat 3 .int by0)] []) (fun k=>k<=c.length+wid c) (fun k=>c.length+wid c - k) 0 (aq _) ?_ ?_
 ·refine zAf ?_ ?_ ?_<;>simp only [push_cast,seval,reduceCtorEq,cI]
  all_goals first|rfl|skip
 intro k hk K2 hL2
 have hvk:=hv0 k
 have hnx2:by0.getD (it f k v0) 0=((it f (k+1) v0:Nat):Int):=(r2 _ hvk).1
 replace hnl:=aa hnl hnx2
 repeat' (first|(refine goK (by assumption) ?_; iterate 4 (try clear hK K))|(refine zAb fun K hK=>?_)|(refine zAa hE rfl ?_; simp +contextual only [hnl,↓kA,push_cast,seval,reduceCtorEq,cI])|refine zAc ?_|((first|refine zAg ?_|refine zAj ?_); simp only [thenQ,zAh,if_true,if_false,Nat.reduceEqDiff,reduceCtorEq])|(refine zAe (by rfl) (fun hb=>?_) (fun hb=>?_)<;>(try simp only [bq,reduceCtorEq] at hb)<;>(try omega))|refine andS ?_|fail)
 ·refine hL2 _ (k+1) (by omega) (by omega) ?_
  refine zAf ?_ ?_ ?_<;>simp only [push_cast,seval,reduceCtorEq,cI]
  all_goals first|rfl|skip
 obtain rfl:k=c.length+wid c:=by omega
 rw [<-hrx]
 clear hnx2 hvk hL2 hrx
 generalize rx c p (c.length+wid c)=x at *
 have hpl:=hp.tab.rows
 refine zAk (fun m:Nat=>AS.of [(0,.one (.val (.sl (.sl .int)) c)),(1,.one (.ref 0)),(8,.one (.ref 27)),(9,.I ((it f m x:Nat):Int)),(12,.I x),(13,.I (zA3 c.length p f x m)),(14,.one (.val .bool (decide (m=0))))]
  [(0,.deep 38 3 .int p),(27,.flat 3 .int by0)] []) (fun m=>m<=P) (fun m=>P - m) 0 (aq _) ?_ ?_
 ·refine zAf ?_ ?_ ?_<;>simp only [push_cast,seval,reduceCtorEq,cI]
  exact ⟨rfl,rfl⟩
 intro m hm K3 hL3
 have hnx:=r3.next m
 have hvm:=r3.lt m
 have hs:=zDb r3.rnd m
 rcases ai m P with hmP|hmP
 ·have hne:m≠0->it f m x≠x:=fun h=>r3.rnd.first m (by omega) hmP
  rcases hs with hs|hs
  ·obtain ⟨i,j,hi,hj,s1,s2⟩:=hs
   have hls:zA3 c.length p f x (m+1)=zA3 c.length p f x m:=ae (by omega)
   have tp:0<=gt p i j/\gt p i j<=200:=hp.tab.at' i j (by omega) (by omega)
   unfold gt at tp
   have tpr:=hp.tab.cols i (by omega)
   rw [s1] at hnx hne ⊢
   rw [s2] at hnx
   have hsub:(c.length:Int)+(j:Int) - (c.length:Int)=(j:Int):=by omega
   have hsum:((c.length:Int)+(j:Int)).toNat=c.length+j:=by omega
   have hcast:((c.length+j:Nat):Int)=(c.length:Int)+(j:Int):=by omega
   have hlt:¬(c.length:Int)+(j:Int)<(c.length:Int):=by omega
   by_cases hm0:m=0
   ·subst hm0
    replace hnl:=aa hnl (aa hnx (aa hsub hsum))
    repeat' (first|(refine goK (by assumption) ?_; iterate 4 (try clear hK K))|(refine zAb fun K hK=>?_)|(refine zAa hE rfl ?_; simp +contextual only [hnl,↓kA,push_cast,seval,reduceCtorEq,cI])|refine zAc ?_|(refine zAg ?_; simp only [thenQ,zAh,if_true,if_false,Nat.reduceEqDiff,reduceCtorEq])|(refine zAe (by rfl) (fun hb=>?_) (fun hb=>?_)<;>(try simp only [bq,reduceCtorEq] at hb)<;>(try omega))|refine andS ?_|fail)
    all_goals refine hL3 _ (0+1) (by omega) (by omega) ?_
    all_goals refine zAf ?_ ?_ ?_<;>simp only [push_cast,seval,reduceCtorEq,cI]
    all_goals exact ⟨by rw [s2],by rw [hls]⟩
   ·have hne2:=hne hm0
    have hne3:¬(c.length:Int)+(j:Int)=(x:Int):=by omega
    replace hnl:=aa hnl (aa (aB hm0) (aa (aB hne3) (aa hnx (aa hsub hsum))))
    repeat' (first|(refine goK (by assumption) ?_; iterate 4 (try clear hK K))|(refine zAb fun K hK=>?_)|(refine zAa hE rfl ?_; simp +contextual only [hnl,↓kA,push_cast,seval,reduceCtorEq,cI])|refine zAc ?_|(refine zAg ?_; simp only [thenQ,zAh,if_true,if_false,Nat.reduceEqDiff,reduceCtorEq])|(refine zAe (by rfl) (fun hb=>?_) (fun hb=>?_)<;>(try simp only [bq,reduceCtorEq] at hb)<;>(try omega))|refine andS ?_|fail)
    all_goals refine hL3 _ (m+1) (by omega) (by omega) ?_
    all_goals refine zAf ?_ ?_ ?_<;>simp only [push_cast,seval,reduceCtorEq,cI]
    all_goals exact ⟨by rw [s2],by rw [hls]⟩
  ·obtain ⟨i,j,hi,hj,h0,s1,s2⟩:=hs
   have hls:zA3 c.length p f x (m+1)=if zA3 c.length p f x m<0\/(p.getD i []).getD j 0<zA3 c.length p f x m then (p.getD i []).getD j 0 else zA3 c.length p f x m:=by
    have e:f (it f m x) - c.length=j:=by
     have:f (it f m x)=c.length+j:=s2
     omega
    have e2:zA3 c.length p f x (m+1)=if it f m x<c.length then (if zA3 c.length p f x m<0\/(p.getD (it f m x) []).getD (f (it f m x) - c.length) 0<zA3 c.length p f x m then (p.getD (it f m x) []).getD (f (it f m x) - c.length) 0 else zA3 c.length p f x m) else zA3 c.length p f x m:=rfl
    rw [e2,ah (by omega),e,s1]
   have tp:0<=gt p i j/\gt p i j<=200:=hp.tab.at' i j (by omega) (by omega)
   unfold gt at tp
   have tpr:=hp.tab.cols i (by omega)
   rw [s1] at hnx hne ⊢
   rw [s2] at hnx
   have hsub:(c.length:Int)+(j:Int) - (c.length:Int)=(j:Int):=by omega
   have hsum:((c.length:Int)+(j:Int)).toNat=c.length+j:=by omega
   have hcast:((c.length+j:Nat):Int)=(c.length:Int)+(j:Int):=by omega
   by_cases hm0:m=0
   ·subst hm0
    replace hnl:=aa hnl (aa hnx (aa hsub hsum))
    repeat' (first|(refine goK (by assumption) ?_; iterate 4 (try clear hK K))|(refine zAb fun K hK=>?_)|((first|refine zAa hE rfl ?_|((first|refine zAd hE 1 rfl rfl kr ?_|refine zAd hE 2 rfl rfl kr ?_|refine zAd hE 3 rfl rfl kr ?_|refine zAd hE 4 rfl rfl kr ?_); simp only [ao,List.length_nil,Nat.reduceAdd,Nat.reduceSub,ak,List.take_zero,al,ar])); simp +contextual only [hnl,↓kA,push_cast,seval,reduceCtorEq,cI])|refine zAc ?_|(refine zAg ?_; simp only [thenQ,zAh,if_true,if_false,Nat.reduceEqDiff,reduceCtorEq])|(refine zAe (by rfl) (fun hb=>?_) (fun hb=>?_)<;>(try simp only [bq,reduceCtorEq] at hb)<;>(try omega))|refine andS ?_|(refine ⟨fun hc=>?_,fun hc=>?_⟩)|fail)
    all_goals refine hL3 _ (0+1) (by omega) (by omega) ?_
    all_goals refine zAf ?_ ?_ ?_<;>simp only [push_cast,seval,reduceCtorEq,cI]
    all_goals exact ⟨by rw [s2]; exact hcast.symm,by rw [hls]; first|rw [ah (by omega)]|rw [ae (by omega)]⟩
   ·have hne2:=hne hm0
    have hne3:¬(i:Int)=(x:Int):=by omega
    replace hnl:=aa hnl (aa (aB hm0) (aa (aB hne3) (aa hnx (aa hsub hsum))))
    repeat' (first|(refine goK (by assumption) ?_; iterate 4 (try clear hK K))|(refine zAb fun K hK=>?_)|((first|refine zAa hE rfl ?_|((first|refine zAd hE 1 rfl rfl kr ?_|refine zAd hE 2 rfl rfl kr ?_|refine zAd hE 3 rfl rfl kr ?_|refine zAd hE 4 rfl rfl kr ?_); simp only [ao,List.length_nil,Nat.reduceAdd,Nat.reduceSub,ak,List.take_zero,al,ar])); simp +contextual only [hnl,↓kA,push_cast,seval,reduceCtorEq,cI])|refine zAc ?_|(refine zAg ?_; simp only [thenQ,zAh,if_true,if_false,Nat.reduceEqDiff,reduceCtorEq])|(refine zAe (by rfl) (fun hb=>?_) (fun hb=>?_)<;>(try simp only [bq,reduceCtorEq] at hb)<;>(try omega))|refine andS ?_|(refine ⟨fun hc=>?_,fun hc=>?_⟩)|fail)
    all_goals refine hL3 _ (m+1) (by omega) (by omega) ?_
    all_goals refine zAf ?_ ?_ ?_<;>simp only [push_cast,seval,reduceCtorEq,cI]
    all_goals exact ⟨by rw [s2]; exact hcast.symm,by rw [hls]; first|rw [ah (by omega)]|rw [ae (by omega)]⟩
 obtain rfl:m=P:=by omega
 have hbk:=r3.rnd.back
 have hp1:¬m=0:=by have:=r3.rnd.pos; omega
 replace hnl:=aa hnl (aa hbk (aB hp1))
 repeat' (first|(refine goK (by assumption) ?_; iterate 4 (try clear hK K))|(refine zAb fun K hK=>?_)|(refine zAa hE rfl ?_; simp +contextual only [hnl,↓kA,push_cast,seval,reduceCtorEq,cI])|refine zAc ?_|(refine zAj ?_; simp only [thenQ,zAh,if_true,if_false,Nat.reduceEqDiff,reduceCtorEq])|(refine zAe (by rfl) (fun hb=>?_) (fun hb=>?_)<;>(try simp only [bq,reduceCtorEq] at hb)<;>(try omega))|fail)
 rw [<-hrl]
 clear hL3 hnx hvm hs hbk hm hmP
 have hsz:Sz c.length (wid c) p:=by rw [d1,d2]; exact hp.tab.sz
 have hP12:m<=12:=by have:=r3.le; omega
 refine zAk (fun k:Nat=>AS.of [(0,.one (.val (.sl (.sl .int)) c)),(1,.one (.ref 0)),(8,.one (.ref 27)),(9,.I ((it f k x:Nat):Int)),(12,.I x),(13,.I l),(16,.one (.val .bool (decide (k=0))))]
  [(0,.deep 38 3 .int (turnK c.length p f x l k)),(27,.flat 3 .int by0)] []) (fun k=>k<=m) (fun k=>m - k) 0 (aq _) ?_ ?_
 ·refine zAf ?_ ?_ ?_<;>simp only [push_cast,seval,reduceCtorEq,cI]
  ·rfl
  ·exact .inl rfl
 intro k hk K4 hL4
 have hnx:=r3.next k
 have hvm:=r3.lt k
 have hs:=zDb r3.rnd k
 have hT:=zSM r3.rnd hsz (l:=l) (by omega) k hk
 have hlm:0<=l*(k:Int)/\l*(k:Int)<=2400:=⟨Int.mul_nonneg (by omega) (by omega),by have:=Int.mul_le_mul (show l<=200 by omega) (show (k:Int)<=12 by omega) (by omega) (by omega); omega⟩
 rcases ai k m with hmP|hmP
 ·have hne:k≠0->it f k x≠x:=fun h=>r3.rnd.first k (by omega) hmP
  rcases hs with hs|hs
  ·obtain ⟨i,j,hi,hj,s1,s2⟩:=hs
   have hls:turnK c.length p f x l (k+1)=Go.OT.addAt (turnK c.length p f x l k) i j l:=by
    have e:f (it f k x)=i:=s2
    have e2:turnK c.length p f x l (k+1)=if it f k x<c.length then Go.OT.addAt (turnK c.length p f x l k) (it f k x) (f (it f k x) - c.length) (-l) else Go.OT.addAt (turnK c.length p f x l k) (f (it f k x)) (it f k x - c.length) l:=rfl
    rw [e2,ae (by omega),e,show it f k x - c.length=j by omega]
   generalize turnK c.length p f x l k=q at hT hls ⊢
   have t1:=hT.sz.rows
   have t2:=hT.sz.cols i hi
   have t3:_<=(q.getD i []).getD j 0/\(q.getD i []).getD j 0<=_:=hT.near i j hi hj
   have tp:0<=gt p i j/\gt p i j<=200:=hp.tab.at' i j (by omega) (by omega)
   unfold gt at tp
   unfold gt at t3
   have tpr:=hp.tab.cols i (by omega)
   rw [s1] at hnx hne ⊢
   rw [s2] at hnx
   have hsub:(c.length:Int)+(j:Int) - (c.length:Int)=(j:Int):=by omega
   have hsum:((c.length:Int)+(j:Int)).toNat=c.length+j:=by omega
   have hcast:((c.length+j:Nat):Int)=(c.length:Int)+(j:Int):=by omega
   have hlt:¬(c.length:Int)+(j:Int)<(c.length:Int):=by omega
   by_cases hk0:k=0
   ·subst hk0
    replace hnl:=aa hnl (aa hnx (aa hsub hsum))
    repeat' (first|(refine goK (by assumption) ?_; iterate 4 (try clear hK K))|(refine zAb fun K hK=>?_)|(refine zAa hE rfl ?_; simp +contextual only [hnl,↓kA,push_cast,seval,reduceCtorEq,cI])|refine zAc ?_|(refine zAg ?_; simp only [thenQ,zAh,if_true,if_false,Nat.reduceEqDiff,reduceCtorEq])|(refine zAe (by rfl) (fun hb=>?_) (fun hb=>?_)<;>(try simp only [bq,reduceCtorEq] at hb)<;>(try omega))|refine andS ?_|fail)
    refine hL4 _ (0+1) (by omega) (by omega) ?_
    refine zAf ?_ ?_ ?_<;>simp only [push_cast,seval,reduceCtorEq,cI]
    ·exact congrArg (fun z:Nat=>((z:Nat):Int)) s2.symm
    ·exact .inl (congrArg (RC.deep 38 3 .int) hls.symm)
   ·have hne2:=hne hk0
    have hne3:¬(c.length:Int)+(j:Int)=(x:Int):=by omega
    replace hnl:=aa hnl (aa (aB hk0) (aa (aB hne3) (aa hnx (aa hsub hsum))))
    repeat' (first|(refine goK (by assumption) ?_; iterate 4 (try clear hK K))|(refine zAb fun K hK=>?_)|(refine zAa hE rfl ?_; simp +contextual only [hnl,↓kA,push_cast,seval,reduceCtorEq,cI])|refine zAc ?_|(refine zAg ?_; simp only [thenQ,zAh,if_true,if_false,Nat.reduceEqDiff,reduceCtorEq])|(refine zAe (by rfl) (fun hb=>?_) (fun hb=>?_)<;>(try simp only [bq,reduceCtorEq] at hb)<;>(try omega))|refine andS ?_|fail)
    refine hL4 _ (k+1) (by omega) (by omega) ?_
    refine zAf ?_ ?_ ?_<;>simp only [push_cast,seval,reduceCtorEq,cI]
    ·exact congrArg (fun z:Nat=>((z:Nat):Int)) s2.symm
    ·exact .inl (congrArg (RC.deep 38 3 .int) hls.symm)
  ·obtain ⟨i,j,hi,hj,h0,s1,s2⟩:=hs
   have hls:turnK c.length p f x l (k+1)=Go.OT.addAt (turnK c.length p f x l k) i j (-l):=by
    have e:f (it f k x) - c.length=j:=by
     have:f (it f k x)=c.length+j:=s2
     omega
    have e2:turnK c.length p f x l (k+1)=if it f k x<c.length then Go.OT.addAt (turnK c.length p f x l k) (it f k x) (f (it f k x) - c.length) (-l) else Go.OT.addAt (turnK c.length p f x l k) (f (it f k x)) (it f k x - c.length) l:=rfl
    rw [e2,ah (by omega),e,s1]
   generalize turnK c.length p f x l k=q at hT hls ⊢
   have t1:=hT.sz.rows
   have t2:=hT.sz.cols i hi
   have t3:_<=(q.getD i []).getD j 0/\(q.getD i []).getD j 0<=_:=hT.near i j hi hj
   have tp:0<=gt p i j/\gt p i j<=200:=hp.tab.at' i j (by omega) (by omega)
   unfold gt at tp
   unfold gt at t3
   have tpr:=hp.tab.cols i (by omega)
   rw [s1] at hnx hne ⊢
   rw [s2] at hnx
   have hsub:(c.length:Int)+(j:Int) - (c.length:Int)=(j:Int):=by omega
   have hsum:((c.length:Int)+(j:Int)).toNat=c.length+j:=by omega
   have hcast:((c.length+j:Nat):Int)=(c.length:Int)+(j:Int):=by omega
   by_cases hk0:k=0
   ·subst hk0
    replace hnl:=aa hnl (aa hnx (aa hsub hsum))
    repeat' (first|(refine goK (by assumption) ?_; iterate 4 (try clear hK K))|(refine zAb fun K hK=>?_)|((first|refine zAa hE rfl ?_|((first|refine zAd hE 1 rfl rfl kr ?_|refine zAd hE 2 rfl rfl kr ?_|refine zAd hE 3 rfl rfl kr ?_|refine zAd hE 4 rfl rfl kr ?_); simp only [ao,List.length_nil,Nat.reduceAdd,Nat.reduceSub,ak,List.take_zero,al,ar])); simp +contextual only [hnl,↓kA,push_cast,seval,reduceCtorEq,cI])|refine zAc ?_|(refine zAg ?_; simp only [thenQ,zAh,if_true,if_false,Nat.reduceEqDiff,reduceCtorEq])|(refine zAe (by rfl) (fun hb=>?_) (fun hb=>?_)<;>(try simp only [bq,reduceCtorEq] at hb)<;>(try omega))|refine andS ?_|fail)
    refine hL4 _ (0+1) (by omega) (by omega) ?_
    refine zAf ?_ ?_ ?_<;>simp only [push_cast,seval,reduceCtorEq,cI]
    ·exact hcast.symm.trans (congrArg (fun z:Nat=>((z:Nat):Int)) s2.symm)
    ·exact .inl (congrArg (RC.deep 38 3 .int) hls.symm)
   ·have hne2:=hne hk0
    have hne3:¬(i:Int)=(x:Int):=by omega
    replace hnl:=aa hnl (aa (aB hk0) (aa (aB hne3) (aa hnx (aa hsub hsum))))
    repeat' (first|(refine goK (by assumption) ?_; iterate 4 (try clear hK K))|(refine zAb fun K hK=>?_)|((first|refine zAa hE rfl ?_|((first|refine zAd hE 1 rfl rfl kr ?_|refine zAd hE 2 rfl rfl kr ?_|refine zAd hE 3 rfl rfl kr ?_|refine zAd hE 4 rfl rfl kr ?_); simp only [ao,List.length_nil,Nat.reduceAdd,Nat.reduceSub,ak,List.take_zero,al,ar])); simp +contextual only [hnl,↓kA,push_cast,seval,reduceCtorEq,cI])|refine zAc ?_|(refine zAg ?_; simp only [thenQ,zAh,if_true,if_false,Nat.reduceEqDiff,reduceCtorEq])|(refine zAe (by rfl) (fun hb=>?_) (fun hb=>?_)<;>(try simp only [bq,reduceCtorEq] at hb)<;>(try omega))|refine andS ?_|fail)
    refine hL4 _ (k+1) (by omega) (by omega) ?_
    refine zAf ?_ ?_ ?_<;>simp only [push_cast,seval,reduceCtorEq,cI]
    ·exact hcast.symm.trans (congrArg (fun z:Nat=>((z:Nat):Int)) s2.symm)
    ·exact .inl (congrArg (RC.deep 38 3 .int) hls.symm)
 obtain rfl:k=m:=by omega
 have hbk:=r3.rnd.back
 replace hnl:=aa hnl (aa hbk (aB hp1))
 repeat' (first|(refine goK (by assumption) ?_; iterate 4 (try clear hK K))|(refine zAb fun K hK=>?_)|((first|refine zAa hE rfl ?_|refine zAi ?_); simp +contextual only [hnl,↓kA,push_cast,seval,reduceCtorEq,cI])|(refine zAj ?_; simp only [thenQ,zAh,if_true,if_false,Nat.reduceEqDiff,reduceCtorEq])|(refine zAe (by rfl) (fun hb=>?_) (fun hb=>?_)<;>(try simp only [bq,reduceCtorEq] at hb)<;>(try omega))|fail)
 rw [ah hi,ah hi,hi,hV]
 exact ⟨⟨rfl,rfl⟩,rfl⟩
end Go.Proofs.YtekfodeknpnkbaaGreatDoor
namespace Go.Proofs.YtekfodeknpnkbaaGreatDoor
open Go.RowKit Go.VS Go.OT Go.LC
abbrev zJv:=List Int×List Int×List (List Int)×Unit
def zNd (a b:List Int) (c:List (List Int)):List Int:=(List.range a.length).map fun i => -((zGU a b c).getD i 0)
def zNc (a b:List Int) (c:List (List Int)):List Int:=(List.range b.length).map fun j=>(zGU a b c).getD (a.length+j) 0
@[push_cast] def zXZ:Con:=⟨[.dat (.sl .int),.dat (.sl .int),.dat (.sl (.sl .int))],fun (x:zJv)=>MQ x.1 x.2.1 x.2.2.1,
 fun (x:zJv)=>{res:=[.own (.deep 38 3 .int (zDQ x.1 x.2.1 x.2.2.1)),.val (.prod (.sl .int) (.sl .int)) (zNd x.1 x.2.1 x.2.2.1,zNc x.1 x.2.1 x.2.2.1)]}⟩
structure SolI (a b:List Int) (c:List (List Int)) (y:Nat×List (List Int)):Prop where
 eq:zF1 c (a.length+b.length) y.1 y.2=zDQ a b c
 pl:Pl a b y.2
 lt:costN a.length b.length c y.2<y.1
set_option maxHeartbeats 1000000 in
theorem zUp:FnSpec Tryz.prog 197 zXZ:=by
 refine FnSpec.of_tri' (E:=know _ [] [] []) (zAl (kc zQM (kc zTt all_nil)) all_nil all_nil) Tryz.func197 rfl rfl kr ?_
 intro C x hE hnl hfit hpre
 simp only [Tryz.ntmps197,Tryz.results197,maxLen,seval,push_cast] at hnl hfit hpre ⊢
 obtain ⟨(a:List Int),(b:List Int),(c:List (List Int)),_⟩:=x
 dsimp only at hfit hpre ⊢
 obtain ⟨d1,d2⟩:=MQ.dims hpre
 have ha5:=hpre.a5
 have hb5:=hpre.b5
 have hcp:CornPre a b:=⟨by omega,by omega,hpre.ha,hpre.hb⟩
 repeat' (first|(refine goK (by assumption) ?_; iterate 4 (try clear hK K))|(refine zAb fun K hK=>?_)|(refine zAa hE rfl ?_; simp +contextual only [hnl,↓kA,push_cast,seval,reduceCtorEq,cI])|refine zAc ?_|refine andS ?_|fail)
 refine zAk (fun y:Nat×List (List Int)=>AS.of [(0,.one (.val (.sl .int) a)),(1,.one (.val (.sl .int) b)),(2,.one (.val (.sl (.sl .int)) c)),(7,.one (.box 7)),(8,.one (.ref 16))] [(16,.deep 38 3 .int y.2)] [(7,.rcd [.nils,.nils])])
  (SolI a b c) (fun y=>y.1) (costN a.length b.length c (cornV a b)+1,cornV a b) ⟨rfl,hpre.corner,bT _⟩ ?_ ?_
 ·refine zAf ?_ ?_ ?_<;>simp only [push_cast,seval,reduceCtorEq,cI]
  all_goals first|exact .inl rfl|skip
 intro y hI K' hL
 obtain ⟨n,p⟩:=y
 obtain ⟨i1,i2,i3⟩:=hI
 dsimp only at i1 i2 i3 ⊢
 have hip:ImpPre c (.deep 38 3 .int p):=⟨by rw [zIA],⟨a,b,hpre,by rw [zIA]; exact i2⟩,by omega⟩
 obtain ⟨n,rfl⟩:∃ m,n=m+1:=⟨n - 1,by omega⟩
 have hN:c.length+wid c=a.length+b.length:=by omega
 by_cases hl:(lwN c p (c.length+wid c)).last<0
 ·have hi:impL c p=false:=aF (by omega)
  have hp1:zDQ a b c=p:=by
   rw [<-i1]
   rw [hN] at hl
   exact ah hl
  have hD:zGU a b c=(lwN c p (c.length+wid c)).far:=by
   unfold zGU
   rw [hp1,hN]
  have hfl:(lwN c p (c.length+wid c)).far.length=c.length+wid c:=(zFt (q:=p) (R:=c.length) (C:=wid c) (by rw [d1,d2]; exact hpre.hc) (by omega) (by omega) (c.length+wid c)).l1
  have hfb:=(zFt (q:=p) (R:=c.length) (C:=wid c) (by rw [d1,d2]; exact hpre.hc) (by omega) (by omega) (c.length+wid c)).bnd
  have hLN:lwK c p (c.length+wid c) (c.length+wid c)=lwN c p (c.length+wid c):=rfl
  rw [hLN] at hfb
  obtain ⟨fr,hfr⟩:∃ fr,fr=(lwN c p (c.length+wid c)).far:=⟨_,rfl⟩
  rw [<-hfr] at hfl hfb hD
  have hfb:∀ v,v<c.length+wid c -> -1000000000<=fr.getD v 0/\fr.getD v 0<=0:=fun v hv=>by have:=hfb v hv; omega
  have hR:zNd a b c=(List.range a.length).map fun i => -(fr.getD i 0):=by unfold zNd; rw [hD]
  have hC:zNc a b c=(List.range b.length).map fun j=>fr.getD (a.length+j) 0:=by unfold zNc; rw [hD]
  rw [hp1,hR,hC]
  replace hnl:=aa hnl hi
  repeat' (first|(refine goK (by assumption) ?_; iterate 4 (try clear hK K))|(refine zAb fun K hK=>?_)|(refine zAa hE rfl ?_; simp +contextual only [hnl,↓kA,push_cast,seval,reduceCtorEq,cI])|refine zAc ?_|(refine zAg ?_; simp only [thenQ,zAh,if_true,if_false,Nat.reduceEqDiff,reduceCtorEq])|(refine zAe (by rfl) (fun hb=>?_) (fun hb=>?_)<;>(try simp only [bq,reduceCtorEq] at hb)<;>(try omega))|refine andS ?_|fail)
  refine zAk (fun k:Nat=>AS.of [(0,.one (.val (.sl .int) a)),(1,.one (.val (.sl .int) b)),(7,.one (.box 7)),(8,.one (.ref 16)),(9,.one (.ref 20)),(11,.one (.box 11)),(12,.I k)] [(16,.deep 38 3 .int p),(20,.flat 3 .int fr),(38,.flat 3 .int ((List.range k).map fun i => -(fr.getD i 0)))] [(7,.rcd [.nils,.nils]),(11,.rcd [.ref 38,.nils])])
   (fun k=>k<=a.length) (fun k=>a.length - k) 0 (aq _) ?_ ?_
  ·refine zAf ?_ ?_ ?_<;>simp only [push_cast,seval,reduceCtorEq,cI]
   all_goals first|exact ⟨by rw [hfr]; exact .inl rfl,by omega,rfl⟩|skip
  intro k hk K2 hL2
  have hfk:=hfb k
  have hlen:((List.range k).map fun i => -(fr.getD i 0)).length=k:=by simp
  replace hnl:=aa hnl hlen
  repeat' (first|(refine goK (by assumption) ?_; iterate 4 (try clear hK K))|(refine zAb fun K hK=>?_)|((first|refine zAa hE rfl ?_|((first|refine zAd hE 1 rfl rfl kr ?_|refine zAd hE 2 rfl rfl kr ?_|refine zAd hE 3 rfl rfl kr ?_|refine zAd hE 4 rfl rfl kr ?_); simp only [ao,List.length_nil,Nat.reduceAdd,Nat.reduceSub,ak,List.take_zero,al,ar])); simp +contextual only [hnl,↓kA,push_cast,seval,reduceCtorEq,cI])|refine zAc ?_|((first|refine zAg ?_|refine zAj ?_); simp only [thenQ,zAh,if_true,if_false,Nat.reduceEqDiff,reduceCtorEq])|(refine zAe (by rfl) (fun hb=>?_) (fun hb=>?_)<;>(try simp only [bq,reduceCtorEq] at hb)<;>(try omega))|refine andS ?_|fail)
  ·refine hL2 _ (k+1) (by omega) (by omega) ?_
   refine zAf ?_ ?_ ?_<;>simp only [push_cast,seval,reduceCtorEq,cI]
   all_goals first|(left; rw [cT,bF]; rfl)|skip
  obtain rfl:k=a.length:=by omega
  clear hL2 hfk
  refine zAk (fun k:Nat=>AS.of [(0,.one (.val (.sl .int) a)),(1,.one (.val (.sl .int) b)),(7,.one (.box 7)),(8,.one (.ref 16)),(9,.one (.ref 20)),(11,.one (.box 11)),(13,.I k)] [(16,.deep 38 3 .int p),(20,.flat 3 .int fr),(38,.flat 3 .int ((List.range a.length).map fun i => -(fr.getD i 0))),(56,.flat 3 .int ((List.range k).map fun j=>fr.getD (a.length+j) 0))] [(7,.rcd [.nils,.nils]),(11,.rcd [.ref 38,.ref 56])])
   (fun k=>k<=b.length) (fun k=>b.length - k) 0 (aq _) ?_ ?_
  ·refine zAf ?_ ?_ ?_<;>simp only [push_cast,seval,reduceCtorEq,cI]
   all_goals first|omega|exact ⟨by omega,rfl⟩|skip
  intro k hk2 K3 hL3
  have hlen2:((List.range k).map fun j=>fr.getD (a.length+j) 0).length=k:=by simp
  have hsum:((a.length:Int)+(k:Int)).toNat=a.length+k:=by omega
  replace hnl:=aa hnl (aa hlen2 hsum)
  rcases ai k b.length with hkb|hkb
  ·repeat' (first|(refine goK (by assumption) ?_; iterate 4 (try clear hK K))|(refine zAb fun K hK=>?_)|((first|refine zAa hE rfl ?_|((first|refine zAd hE 1 rfl rfl kr ?_|refine zAd hE 2 rfl rfl kr ?_|refine zAd hE 3 rfl rfl kr ?_|refine zAd hE 4 rfl rfl kr ?_); simp only [ao,List.length_nil,Nat.reduceAdd,Nat.reduceSub,ak,List.take_zero,al,ar])); simp +contextual only [hnl,↓kA,push_cast,seval,reduceCtorEq,cI])|refine zAc ?_|(refine zAg ?_; simp only [thenQ,zAh,if_true,if_false,Nat.reduceEqDiff,reduceCtorEq])|(refine zAe (by rfl) (fun hb=>?_) (fun hb=>?_)<;>(try simp only [bq,reduceCtorEq] at hb)<;>(try omega))|refine andS ?_|fail)
   refine hL3 _ (k+1) (by omega) (by omega) ?_
   refine zAf ?_ ?_ ?_<;>simp only [push_cast,seval,reduceCtorEq,cI]
   all_goals first|(left; rw [cT,bF]; rfl)|skip
  ·obtain rfl:k=b.length:=by omega
   refine zAr (t:=AS.of [(1,.one (.val (.sl .int) b)),(7,.one (.box 7)),(8,.one (.ref 16)),(11,.one (.box 11)),(13,.I b.length)] [(16,.deep 38 3 .int p)] [(7,.rcd [.nils,.nils]),(11,.rcd [.val (.sl .int) ((List.range a.length).map fun i => -(fr.getD i 0)),.val (.sl .int) ((List.range b.length).map fun j=>fr.getD (a.length+j) 0)])]) ?_ ?_
   ·refine zAf ?_ ?_ ?_<;>simp only [push_cast,seval,reduceCtorEq,cI]
    all_goals skip
   exact auB
 ·have hi:impL c p=true:=aD (by omega)
  obtain ⟨k1,k2,_,_⟩:=zGE hpre i2 (by rw [<-hN]; exact hl)
  have i1':zF1 c (a.length+b.length) n (impV c p (a.length+b.length))=zDQ a b c:=by
   rw [<-i1]
   rw [hN] at hl
   exact (ae hl).symm
  replace hnl:=aa hnl hi
  repeat' (first|(refine goK (by assumption) ?_; iterate 4 (try clear hK K))|(refine zAb fun K hK=>?_)|(refine zAa hE rfl ?_; simp +contextual only [hnl,↓kA,push_cast,seval,reduceCtorEq,cI])|refine zAc ?_|(refine zAj ?_; simp only [thenQ,zAh,if_true,if_false,Nat.reduceEqDiff,reduceCtorEq])|(refine zAe (by rfl) (fun hb=>?_) (fun hb=>?_)<;>(try simp only [bq,reduceCtorEq] at hb)<;>(try omega))|refine andS ?_|fail)
  refine hL _ (n,impV c p (a.length+b.length)) ⟨i1',k1,by dsimp only; omega⟩ (bT n) ?_
  refine zAf ?_ ?_ ?_<;>simp only [push_cast,seval,reduceCtorEq,cI]
  all_goals first|(rw [hN]; exact .inl rfl)|skip
end Go.Proofs.YtekfodeknpnkbaaGreatDoor
namespace Go.Proofs.YtekfodeknpnkbaaGreatDoor
open Go.RowKit Go.VS Go.OT
theorem zSz:∀ (l:List Int),sumL l=lsum l:=by
 intro l
 have h:∀ k,k<=l.length->sg k (ga l)=lsum (l.take k):=by
  intro k
  induction k with
  | zero=>intro _; rfl
  | succ k ih =>
   intro hk
   rw [zBR l k (by omega),<-ih (by omega)]
   rfl
 have:=h l.length (ap _)
 rwa [bS] at this
theorem zJJ (r s:List Int):∀ k,dotK r s k=sg k fun j=>r.getD j 0*s.getD j 0
 | 0=>rfl
 | k+1=>by simp only [dotK,sg,zJJ r s k]
theorem zF2 {R C:Nat} {c t:List (List Int)} (h:Sz R C t):spend c t=cst R C (gt c) (gt t):=by
 have h1:∀ k,k<=R->zCW c t k=sg k fun i=>sg C fun j=>gt c i j*gt t i j:=by
  intro k
  induction k with
  | zero=>intro _; rfl
  | succ k ih =>
   intro hk
   simp only [zCW,sg]
   rw [ih (by omega),zJJ,h.cols k (by omega)]
   rfl
 unfold spend
 rw [h.rows]
 exact h1 R (ap _)
theorem worth_eq {a b:List Int} {p:zBp}:zIh a b p=worth a.length b.length (ga a) (ga b) (ga p.1) (ga p.2):=by
 unfold zIh worth
 rw [zJJ,zJJ]
 rfl
section
variable {a b:List Int} {c:List (List Int)}
theorem zFH (h:zEr a b c=0):Best a b c (cheapV a b c):=by
 obtain ⟨h1,h2⟩:=zOU h
 exact h1.mc.best (by rw [zSz,zSz,h2])
theorem zKv (h:zEr a b c=0):zN9 a b c=cst a.length b.length (gt c) (gt (cheapV a b c)):=by
 rw [zTB h]
 exact zF2 (zFH h).shp.tab.sz
theorem zTC (h:zEr a b c=0) {q:List (List Int)} (hq:IsPlan a.length b.length (ga a) (ga b) (gt q)):zN9 a b c<=cst a.length b.length (gt c) (gt q):=by
 rw [zKv h]
 obtain ⟨r,s,h1,h2,_⟩:=(zFH h).good
 exact (zFH h).plan.least h1 h2 hq
theorem least_of (h:zEr a b c=0) {q:List (List Int)} (hq:IsPlan a.length b.length (ga a) (ga b) (gt q)) {u v:Nat->Int} (h1:Holds a.length b.length (gt c) u v) (h2:Tight a.length b.length (gt c) (gt q) u v):zN9 a b c=cst a.length b.length (gt c) (gt q):=by
 have k1:=zTC h hq
 have k2:=hq.least h1 h2 (zFH h).plan
 rw [<-zKv h] at k2
 omega
end
end Go.Proofs.YtekfodeknpnkbaaGreatDoor
namespace Go.Proofs.YtekfodeknpnkbaaGreatDoor
open Go.RowKit Go.VS Go.OT Go.LC
theorem zQ4 {a b:List Int} {c:List (List Int)} (h:MQ a b c):Fit c (zDQ a b c):=⟨_,_,⟨by have:=h.a5; omega,by have:=h.b5; omega⟩,h.hc,(zOq h).1.tab⟩
@[push_cast] def zUe:Con:=⟨[.dat (.sl .int),.dat (.sl .int),.dat (.sl (.sl .int))],fun (x:zJv)=>MQ x.1 x.2.1 x.2.2.1,fun (x:zJv)=>{res:=[.val .int (spend x.2.2.1 (zDQ x.1 x.2.1 x.2.2.1))]}⟩
theorem zPA:FnSpec Tryz.prog 156 zUe:=by
 refine FnSpec.of_tri' (E:=know _ [] [] []) (zAl (kc zUp (kc zJa all_nil)) all_nil all_nil) Tryz.func156 rfl rfl kr ?_
 intro C x hE hnl hfit hpre
 simp only [Tryz.ntmps156,Tryz.results156,maxLen,seval,push_cast] at hnl hfit hpre ⊢
 obtain ⟨(a:List Int),(b:List Int),(c:List (List Int)),_⟩:=x
 dsimp only at hfit hpre ⊢
 have h1:=zQ4 hpre
 exact auA
section
variable {a b:List Int} {c:List (List Int)}
end
end Go.Proofs.YtekfodeknpnkbaaGreatDoor
namespace Go.Proofs.YtekfodeknpnkbaaGreatDoor
open Go.RowKit Go.VS Go.OT
def dumA (a b:List Int) (m:Int):List Int:=a++[lsum b - m]
def dumC (c:List (List Int)) (d e:Int):List (List Int):=(c.map fun r=>r++[d])++[List.replicate (wid c) d++[e]]
abbrev zQd:=List Int×List Int×List (List Int)×Int×Int×Int×Unit
structure DumP (a b:List Int) (c:List (List Int)) (m:Int):Prop where
 f:ForOK a b c
 lo:0<=m
 hi:m<=lsum a/\m<=lsum b
@[push_cast] def zW3:Con:=⟨[.dat (.sl .int),.dat (.sl .int),.dat (.sl (.sl .int)),.dat .int,.dat .int,.dat .int],fun (x:zQd)=>DumP x.1 x.2.1 x.2.2.1 x.2.2.2.1,
 fun (x:zQd)=>{res:=[.own (.flat 3 .int (dumA x.1 x.2.1 x.2.2.2.1)),.own (.flat 3 .int (dumA x.2.1 x.1 x.2.2.2.1)),.own (.deep 38 3 .int (dumC x.2.2.1 x.2.2.2.2.1 x.2.2.2.2.2.1))]}⟩
theorem zTd:FnSpec Tryz.prog 157 zW3:=by
 refine FnSpec.of_tri' (E:=know _ [] [] [21,30,46]) (zAl (kc zD9 all_nil) all_nil all_nil) Tryz.func157 rfl rfl kr ?_
 intro C x hE hnl hfit hpre
 simp only [Tryz.ntmps157,Tryz.results157,maxLen,seval,push_cast] at hnl hfit hpre ⊢
 obtain ⟨(a:List Int),(b:List Int),(c:List (List Int)),(m:Int),(d:Int),(e:Int),_⟩:=x
 dsimp only at hfit hpre ⊢
 obtain ⟨hf,hm0,hm1,hm2⟩:=hpre
 obtain ⟨s1,s2,s3,s4⟩:=MC.sums hf
 have ha5:=hf.mc.a5
 have hb5:=hf.mc.b5
 have hr:=hf.rows
 have hw:=hf.cols
 replace hnl:=aa hnl (aa (fun m=>aG (s1 m)) (fun m=>aG (s2 m)))
 repeat' (first|(refine goK (by assumption) ?_; iterate 4 (try clear hK K))|(refine zAb fun K hK=>?_)|(refine zAa hE rfl ?_; simp +contextual only [hnl,↓kA,push_cast,seval,reduceCtorEq,cI])|refine zAc ?_|refine andS ?_|fail)
 refine zAk (fun k:Nat=>AS.of [(1,.one (.val (.sl .int) b)),(2,.one (.val (.sl (.sl .int)) c)),(4,.I d),(5,.I e),(15,.one (.ref 21)),(16,.one (.ref 30)),(17,.one (.ref 56)),(18,.one .nils),(19,.I k)] [(21,.flat 3 .int (dumA a b m)),(30,.flat 3 .int (dumA b a m)),(56,.deep 38 3 .int ((c.take k).map fun r=>r++[d]))] []) (fun k=>k<=c.length) (fun k=>c.length - k) 0 (aq _) ?_ ?_
 ·refine zAf ?_ ?_ ?_<;>simp only [push_cast,seval,reduceCtorEq,cI]
  exact ⟨.inl rfl,.inl rfl,by omega⟩
 intro k hk K' hL
 rcases ai k c.length with hkc|hkc
 ·have hrow:(c.getD k []).length=wid c:=hf.hc.len hkc
  have hml:(List.map (fun r=>r++[d]) (List.take k c)).length<=6:=by rw [bp,aU]; omega
  have hms:List.map (fun r=>r++[d]) (List.take k c)++[c.getD k []++[d]]=List.map (fun r=>r++[d]) (List.take (k+1) c):=by
   rw [bb hkc,bF]
   simp [ab,hkc]
  have hrl:List.length (c.getD k [])<=1000000:=by rw [hrow]; omega
  have hml2:(List.map (fun r=>r++[d]) (List.take k c)).length<=1000000:=by omega
  replace hnl:=aa hnl (aa hrl hml2)
  repeat' (first|(refine goK (by assumption) ?_; iterate 4 (try clear hK K))|(refine zAb fun K hK=>?_)|(refine zAa hE rfl ?_; simp +contextual only [hnl,↓kA,push_cast,seval,reduceCtorEq,cI])|refine zAc ?_|(refine zAg ?_; simp only [thenQ,zAh,if_true,if_false,Nat.reduceEqDiff,reduceCtorEq])|(refine zAe (by rfl) (fun hb=>?_) (fun hb=>?_)<;>(try simp only [bq,reduceCtorEq] at hb)<;>(try omega))|refine andS ?_|fail)
  rw [hms]
  refine hL _ (k+1) (by omega) (by omega) ?_
  refine zAf ?_ ?_ ?_<;>simp only [push_cast,seval,reduceCtorEq,cI]
  all_goals exact .inl rfl
 ·obtain rfl:k=c.length:=by omega
  repeat' (first|(refine goK (by assumption) ?_; iterate 4 (try clear hK K))|(refine zAb fun K hK=>?_)|(refine zAa hE rfl ?_; simp +contextual only [hnl,↓kA,push_cast,seval,reduceCtorEq,cI])|refine zAc ?_|(refine zAj ?_; simp only [thenQ,zAh,if_true,if_false,Nat.reduceEqDiff,reduceCtorEq])|(refine zAe (by rfl) (fun hb=>?_) (fun hb=>?_)<;>(try simp only [bq,reduceCtorEq] at hb)<;>(try omega))|fail)
  refine zAk (fun k:Nat=>AS.of [(1,.one (.val (.sl .int) b)),(4,.I d),(5,.I e),(15,.one (.ref 21)),(16,.one (.ref 30)),(17,.one (.ref 56)),(18,.one (.ref 66)),(20,.I k)] [(21,.flat 3 .int (dumA a b m)),(30,.flat 3 .int (dumA b a m)),(56,.deep 38 3 .int (c.map fun r=>r++[d])),(66,.flat 3 .int (List.replicate k d))] []) (fun k=>k<=b.length) (fun k=>b.length - k) 0 (aq _) ?_ ?_
  ·refine zAf ?_ ?_ ?_<;>simp only [push_cast,seval,reduceCtorEq,cI]
   first|exact ⟨.inl (by rw [bS]),by omega⟩|exact ⟨.inl (by rw [bS]),by omega,rfl⟩
  intro k hk2 K2 hL2
  have hl1:(List.replicate k d).length<=1000000:=by rw [aE]; omega
  have hl2:(List.map (fun r=>r++[d]) c).length<=1000000:=by rw [bp]; omega
  have hl3:List.replicate k d++[d]=List.replicate (k+1) d:=List.replicate_succ'.symm
  replace hnl:=aa hnl (aa hl1 hl2)
  repeat' (first|(refine goK (by assumption) ?_; iterate 4 (try clear hK K))|(refine zAb fun K hK=>?_)|((first|refine zAa hE rfl ?_|refine zAi ?_); simp +contextual only [hnl,↓kA,push_cast,seval,reduceCtorEq,cI])|refine zAc ?_|((first|refine zAg ?_|refine zAj ?_); simp only [thenQ,zAh,if_true,if_false,Nat.reduceEqDiff,reduceCtorEq])|(refine zAe (by rfl) (fun hb=>?_) (fun hb=>?_)<;>(try simp only [bq,reduceCtorEq] at hb)<;>(try omega))|refine andS ?_|fail)
  ·rw [hl3]
   refine hL2 _ (k+1) (by omega) (by omega) ?_
   refine zAf ?_ ?_ ?_<;>simp only [push_cast,seval,reduceCtorEq,cI]
   all_goals exact .inl rfl
  ·obtain rfl:k=b.length:=by omega
   simp only [dumC,hw]
end Go.Proofs.YtekfodeknpnkbaaGreatDoor
namespace Go.Proofs.YtekfodeknpnkbaaGreatDoor
open Go.RowKit Go.VS Go.OT Go.LC
theorem zCd {l:List Int} (h:zBL l=true):l.length<=5/\0<=lsum l/\lsum l<=150:=by
 unfold zBL at h
 simp only [av,au,ay] at h
 obtain ⟨h1,h2⟩:=h
 have h3:=zDL 30 (by omega) l h2
 omega
section
variable {a b:List Int} {c:List (List Int)} {m d e:Int}
theorem zBK (a b:List Int) (m:Int):(dumA a b m).length=a.length+1:=by simp [dumA]
theorem zFi {i:Nat} (hi:i<a.length+1):ga (dumA a b m) i=withD a.length (ga a) (sumL b - m) i:=by
 unfold withD dumA ga
 rw [zBg]
 by_cases h:i<a.length
 ·rw [ah h,ab,bd h,<-ab]
 ·obtain rfl:i=a.length:=by omega
  rw [ae h,ab,a8 (ap _)]
  simp
theorem zNO (c:List (List Int)) (d e:Int):(dumC c d e).length=c.length+1:=by simp [dumC]
theorem zJL {i:Nat} (hi:i<c.length):(dumC c d e).getD i []=c.getD i []++[d]:=by
 unfold dumC
 rw [ab,bd (by simpa using hi)]
 simp [ab,hi]
theorem zKF:(dumC c d e).getD c.length []=List.replicate (wid c) d++[e]:=by
 unfold dumC
 rw [ab,a8 (by simp)]
 simp
theorem zJK (hc:InTab 0 99 c) {i j:Nat} (hi:i<c.length+1) (hj:j<wid c+1):gt (dumC c d e) i j=costD c.length (wid c) (gt c) d e i j:=by
 unfold gt costD
 by_cases h:i<c.length
 ·rw [ah h,zJL h]
  have hl:=hc.len h
  by_cases h2:j<wid c
  ·rw [ah h2,ab,bd (by omega),<-ab]
  ·obtain rfl:j=wid c:=by omega
   rw [ae h2,ab,a8 (by omega),hl]
   simp
 ·obtain rfl:i=c.length:=by omega
  rw [ae h,zKF]
  by_cases h2:j<wid c
  ·rw [ah h2,ab,bd (by simpa using h2)]
   simp [h2]
  ·obtain rfl:j=wid c:=by omega
   rw [ae h2,ab,a8 (by simp)]
   simp
theorem zNP (h:DumP a b c m) (hd:0<=d/\d<=99) (he:0<=e/\e<=1000000):MQ (dumA a b m) (dumA b a m) (dumC c d e):=by
 obtain ⟨hf,h1,h2,h3⟩:=h
 have hm:=hf.mc
 have ha5:=hm.a5
 have hb5:=hm.b5
 have hr:=hf.rows
 have hw:=hf.cols
 obtain ⟨a1,a2,a3⟩:=zCd hf.ha
 obtain ⟨b1,b2,b3⟩:=zCd hf.hb
 rw [zBg] at a2 a3 h2
 rw [zBg] at b2 b3 h3
 have hA:∀ (x y:List Int),Bnd 0 200 x->0<=sumL y - m/\sumL y - m<=200->Bnd 0 200 (dumA x y m):=fun x y hx hy n hn=>by
  unfold dumA at hn
  rw [zBg] at hn
  rcases aV.1 hn with h|h
  ·exact hx n h
  ·have:n=sumL y - m:=by simpa using h
   omega
 refine ⟨by rw [zBK]; omega,by rw [zBK]; omega,hA a b hm.ha (by omega),hA b a hm.hb (by omega),⟨by rw [zNO,zBK]; omega,fun i hi=>?_,fun i j hi hj=>?_⟩,?_⟩
 ·rw [zBK] at hi ⊢
  rcases ai i c.length with h|h
  ·rw [zJL h,aL,hf.hc.len h,hw]; rfl
  ·obtain rfl:i=c.length:=by omega
   rw [zKF,aL,aE,hw]; rfl
 ·rw [zBK] at hi hj
  have h9:=zJK (d:=d) (e:=e) hf.hc (i:=i) (j:=j) (by omega) (by omega)
  unfold gt at h9
  rw [h9]
  unfold costD
  split
  ·rename_i h
   split
   ·rename_i h'
    have k9:0<=gt c i j/\gt c i j<=99:=hf.hc.at h h'
    exact ⟨k9.1,cD k9.2 (by omega)⟩
   ·omega
  ·split
   ·omega
   ·omega
 ·show sumL (dumA a b m)=sumL (dumA b a m)
  have key:∀ x y:List Int,sumL (dumA x y m)=sumL x+(sumL y - m):=fun x y=>by
   unfold sumL
   rw [zBK,zAm _ fun i hi=>zFi hi,zUo]
   rfl
  rw [key,key]
  omega
theorem zTc (h:DumP a b c m) (hd:0<=d/\d<=99) (he:0<=e/\e<=1000000) :
 (∃ Q,IsPlan (a.length+1) (b.length+1) (withD a.length (ga a) (sumL b - m)) (withD b.length (ga b) (sumL a - m)) Q/\cst (a.length+1) (b.length+1) (costD a.length b.length (gt c) d e) Q=spend (dumC c d e) (zDQ (dumA a b m) (dumA b a m) (dumC c d e))) /\
 ∀ Q,IsPlan (a.length+1) (b.length+1) (withD a.length (ga a) (sumL b - m)) (withD b.length (ga b) (sumL a - m)) Q->spend (dumC c d e) (zDQ (dumA a b m) (dumA b a m) (dumC c d e))<=cst (a.length+1) (b.length+1) (costD a.length b.length (gt c) d e) Q:=by
 have hq:=zNP h hd he
 obtain ⟨g1,g2,g3⟩:=zOq hq
 have hpl:=g1.plan
 have hr:=h.f.rows
 have hw:=h.f.cols
 rw [zBK,zBK] at hpl g2 g3
 have hsz:=g1.tab.sz
 rw [zBK,zBK] at hsz
 have eC:∀ Q,cst (a.length+1) (b.length+1) (costD a.length b.length (gt c) d e) Q=cst (a.length+1) (b.length+1) (gt (dumC c d e)) Q:=fun Q=>by
  unfold cst
  refine zAm _ fun i hi=>zAm _ fun j hj=>?_
  rw [zJK h.f.hc (by omega) (by omega),hr,hw]
 refine ⟨⟨gt (zDQ (dumA a b m) (dumA b a m) (dumC c d e)),⟨hpl.nn,fun i hi=>(hpl.row i hi).trans (zFi hi),fun j hj=>(hpl.col j hj).trans (zFi hj)⟩,?_⟩,fun Q hQ=>?_⟩
 ·rw [eC,zF2 hsz]
 ·rw [eC,zF2 hsz]
  exact hpl.least g2 g3 ⟨hQ.nn,fun i hi=>(hQ.row i hi).trans (zFi hi).symm,fun j hj=>(hQ.col j hj).trans (zFi hj).symm⟩
end
end Go.Proofs.YtekfodeknpnkbaaGreatDoor
namespace Go.Proofs.YtekfodeknpnkbaaGreatDoor
open Go.RowKit Go.VS Go.OT Go.LC
theorem zRo {a b:List Int} {c:List (List Int)} {w:Int} (hf:ForOK a b c) (hw:0<=w/\w<=99):DumP a b c 0/\spend (dumC c w 0) (zDQ (dumA a b 0) (dumA b a 0) (dumC c w 0))=zB0 a b c w:=by
 have hd:DumP a b c 0:=⟨hf,by omega,by have:=MC.sums hf; omega⟩
 obtain ⟨h1,h2⟩:=zTc hd hw (e:=0) (by omega)
 exact ⟨hd,zIC hf.mc w h1 h2⟩
theorem zLn:FnSpec Tryz.prog 110 zKZ:=by
 refine FnSpec.of_tri' (E:=know _ [] [] []) (zAl (kc zTd (kc zPA all_nil)) all_nil all_nil) Tryz.func110 rfl rfl kr ?_
 intro C x hE hnl hfit hpre
 simp only [Tryz.ntmps110,Tryz.results110,maxLen,seval,push_cast] at hnl hfit hpre ⊢
 obtain ⟨(a:List Int),(b:List Int),(c:List (List Int)),(w:Int),_⟩:=x
 dsimp only at hfit hpre ⊢
 obtain ⟨hf,hw⟩:=hpre
 obtain ⟨h1,h2⟩:=zRo hf hw
 have h3:=zNP h1 hw (e:=0) (by omega)
 replace hnl:=aa hnl (aa h1 (aa h2 h3))
 exact auB
theorem zLm:FnSpec Tryz.prog 60 zKS:=by
 refine FnSpec.of_tri' (E:=know _ [] [] []) (zAl (kc zFV (kc zLn all_nil)) all_nil all_nil) Tryz.func60 rfl rfl kr ?_
 intro C x hE hnl hfit hpre
 simp only [Tryz.ntmps60,Tryz.results60,maxLen,seval,push_cast] at hnl hfit hpre ⊢
 obtain ⟨(a:List Int),(b:List Int),(c:List (List Int)),(w:Int),_⟩:=x
 dsimp only at hfit hpre ⊢
 by_cases he:errWd a b c w=0
 ·have h1:=zCn he
  have h3:zBq a b c w=zB0 a b c w:=ah he
  replace hnl:=aa hnl (aa he (aa h3 (aa h1.1 h1.2)))
  exact auB
 ·have h3:zBq a b c w=0:=ae he
  replace hnl:=aa hnl (aa h3 (aB he))
  exact auB
end Go.Proofs.YtekfodeknpnkbaaGreatDoor
namespace Go.Proofs.YtekfodeknpnkbaaGreatDoor
open Go.RowKit Go.VS Go.OT Go.LC
theorem zUL:(true != true)=false/\(false != false)=false/\(!true)=false/\(!false)=true/\(∀ n:Int,decide (n=n)=true)/\(∀ p:Prop,(False/\p)=False)/\(∀ p:Prop,(p/\False)=False)/\decide True=true/\decide False=false :=
 ⟨rfl,rfl,rfl,rfl,fun n=>aD rfl,fun p=>false_and p,fun p=>and_false p,rfl,rfl⟩
end Go.Proofs.YtekfodeknpnkbaaGreatDoor
namespace Go.Proofs.YtekfodeknpnkbaaGreatDoor
open Go.RowKit Go.VS Go.OT
def cK (p:List (List Int)) (i k:Nat):Int:=sg i fun r=>gt p r k
def colB (p:List (List Int)) (i j:Nat):List Int:=tbl (wid p) fun k=>cK p i k+(if k<j then gt p i k else 0)
section
variable {p:List (List Int)}
theorem zNF (i j:Nat):(colB p i j).length=wid p:=zAY _ _
theorem zQF (i j:Nat) {k:Nat} (hk:k<wid p):(colB p i j).getD k 0=cK p i k+(if k<j then gt p i k else 0):=zBw _ _ hk
theorem zQG (i:Nat):colB p i (wid p)=colB p (i+1) 0:=zAE fun k hk=>by
 rw [ah hk,ae (by omega)]
 show _=(cK p i k+gt p i k)+0
 omega
theorem zQH {i j:Nat} (hj:j<wid p) {x:Int} (hx:x=(colB p i j).getD j 0+gt p i j):(colB p i j).set j x=colB p i (j+1):=by
 unfold colB at hx ⊢
 rw [zBw _ _ hj,ae (by omega)] at hx
 rw [zEF]
 refine zAE fun k hk=>?_
 by_cases h:k=j
 ·subst h
  rw [ah rfl,ah (by omega),hx]
  omega
 ·rw [ae h]
  by_cases h2:k<j
  ·rw [ah h2,ah (by omega)]
  ·rw [ae h2,ae (by omega)]
theorem zQI:colB p 0 0=List.replicate (wid p) 0:=by
 unfold colB tbl
 apply List.ext_getElem
 ·simp
 ·intro k h1 h2
  simp [cK,sg]
theorem zUM (h:InPlan p):∀ i k,i<=p.length->k<wid p->0<=cK p i k/\cK p i k<=150*i
 | 0,k,_,_=>by simp [cK,sg]
 | i+1,k,hi,hk=>by
  have h1:=zUM h i k (by omega) hk
  have h2:0<=gt p i k/\gt p i k<=150:=h.at (show i<p.length by omega) hk
  show 0<=cK p i k+gt p i k/\cK p i k+gt p i k<=_
  omega
end
theorem zH2 {p:List (List Int)} (h:InPlan p) {i:Nat} (hi:i<p.length) (m:Nat):InR (lsum ((p.getD i []).take m)):=by
 have h1:=h.row hi
 have h2:=h.cols
 have key:∀ m,m<=(p.getD i []).length->0<=lsum ((p.getD i []).take m)/\lsum ((p.getD i []).take m)<=150*m:=by
  intro m
  induction m with
  | zero=>intro _; simp [lsum]
  | succ m ih =>
   intro hm
   have:=ih (by omega)
   have k3:0<=(p.getD i []).getD m 0/\(p.getD i []).getD m 0<=150:=h.at hi (by omega)
   rw [zBR _ m (by omega)]
   omega
 rcases ai (p.getD i []).length m with h3|h3
 ·rw [aS (by omega)]
  have:=key _ (ap _)
  rw [bS] at this
  unfold InR
  omega
 ·have:=key m h3
  unfold InR
  omega
structure LooseP (a b:List Int) (p:List (List Int)):Prop where
 rows:p.length=a.length
 cols:wid p=b.length
 ra:∀ i,i<p.length->lsum (p.getD i [])<=a.getD i 0
 cb:∀ k,k<wid p->cK p p.length k<=b.getD k 0
theorem looseP_iff {a b:List Int} {p:List (List Int)}:LooseP a b p↔(p.length=a.length/\wid p=b.length/\(∀ i,i<p.length->lsum (p.getD i [])<=a.getD i 0)/\∀ k,k<wid p->cK p p.length k<=b.getD k 0) :=
 ⟨fun ⟨a,b,c,d⟩=>⟨a,b,c,d⟩,fun ⟨a,b,c,d⟩=>⟨a,b,c,d⟩⟩
instance (a b:List Int) (p:List (List Int)):Decidable (LooseP a b p):=decidable_of_iff _ looseP_iff.symm
def errLo (a b:List Int) (p:List (List Int)):Int:=if zAq a=0/\zAq b=0/\zAR p=0 then if LooseP a b p then 0 else 7 else 1
@[push_cast] def loCon:Con:=⟨[.dat (.sl .int),.dat (.sl .int),.dat (.sl (.sl .int))],fun _=>True,fun (x:List Int×List Int×List (List Int)×Unit)=>{res:=[.val .int (errLo x.1 x.2.1 x.2.2.1)]}⟩
theorem zEM (a:List Int):zAq a=0\/zAq a=1:=by
 unfold zAq
 split<;>simp
theorem zXR (a b:List Int) (p:List (List Int)):(zAq a=0/\zAq b=0/\zAR p=0/\orV [zAq a,zAq b,zAR p]=0)\/(errLo a b p=1/\orV [zAq a,zAq b,zAR p]=1):=by
 have h1:=zEM a
 have h2:=zEM b
 have h3:=zEO p
 simp only [zD7,zHN]
 by_cases h:zAq a=0/\zAq b=0/\zAR p=0
 ·obtain ⟨e1,e2,e3⟩:=h
  left
  rw [ah e1,ah e2,ah e3]
  exact ⟨e1,e2,e3,rfl⟩
 ·right
  refine ⟨ae h,?_⟩
  by_cases e1:zAq a=0
  ·by_cases e2:zAq b=0
   ·have e3:¬zAR p=0:=fun e3=>h ⟨e1,e2,e3⟩
    rw [ah e1,ah e2,ae e3]
    omega
   ·rw [ah e1,ae e2]
    omega
  ·rw [ae e1]
   omega
theorem zVW:FnSpec Tryz.prog 70 loCon:=by
 refine FnSpec.of_tri' (E:=know _ [] [] []) (zAl (kc zJm (kc zHT (kc zJ5 (kc zD6 all_nil)))) all_nil all_nil) Tryz.func70 rfl rfl kr ?_
 intro C x hE hnl hfit hpre
 simp only [Tryz.ntmps70,Tryz.results70,maxLen,seval,push_cast] at hnl hfit hpre ⊢
 obtain ⟨(a:List Int),(b:List Int),(p:List (List Int)),_⟩:=x
 dsimp only at hfit hpre ⊢
 rcases zXR a b p with ⟨e1,e2,e3,e0⟩|⟨e1,e0⟩
 ·have hp:=zDI e3
  have hw:(p.getD 0 []).length=wid p:=rfl
  have hpr:=hp.rows
  have hpc:=hp.cols
  have eL:∀ h:LooseP a b p,errLo a b p=0:=fun h=>by rw [errLo,ah ⟨e1,e2,e3⟩,ah h]
  have eN:¬LooseP a b p->errLo a b p=7:=fun h=>by rw [errLo,ah ⟨e1,e2,e3⟩,ae h]
  replace hnl:=aa hnl (aa e0 hw)
  by_cases hs:p.length=a.length/\wid p=b.length
  ·obtain ⟨hs1,hs2⟩:=hs
   have hsum:∀ i,i<p.length->∀ m,InR (lsum ((p.getD i []).take m)):=fun i hi=>zH2 hp hi
   repeat' (first|(refine goK (by assumption) ?_; iterate 4 (try clear hK K))|(refine zAb fun K hK=>?_)|(refine zAa hE rfl ?_; simp +contextual only [hnl,↓kA,push_cast,seval,reduceCtorEq,cI])|refine zAc ?_|(refine zAg ?_; simp only [thenQ,zAh,if_true,if_false,Nat.reduceEqDiff,reduceCtorEq])|(refine zAe (by rfl) (fun hb=>?_) (fun hb=>?_)<;>(try simp only [bq,reduceCtorEq] at hb)<;>(try omega))|refine andS ?_|(refine ⟨fun hc=>?_,fun hc=>?_⟩)|fail)
   refine zAk (fun i:Nat=>AS.of [(0,.one (.val (.sl .int) a)),(1,.one (.val (.sl .int) b)),(8,.one (.ref 42)),(43,.one (.val (.sl (.sl .int)) p)),(44,.I p.length),(45,.I i)] [(42,.flat 3 .int (colB p i 0))] []) (fun i=>i<=p.length/\∀ r,r<i->lsum (p.getD r [])<=a.getD r 0) (fun i=>p.length - i) 0 ⟨aq _,by omega⟩ ?_ ?_
   ·refine zAf ?_ ?_ ?_<;>simp only [push_cast,seval,reduceCtorEq,cI]
    rw [zQI,hs2]
    exact .inl rfl
   intro i ⟨hi,hall⟩ K' hL
   rcases ai i p.length with hip|hip
   ·have hrow:=hp.row hip
    have hsi:=hsum i hip
    replace hnl:=aa hnl (fun m=>aG (hsi m))
    repeat' (first|(refine goK (by assumption) ?_; iterate 4 (try clear hK K))|(refine zAb fun K hK=>?_)|((first|refine zAa hE rfl ?_|refine zAi ?_|((first|refine zAd hE 1 rfl rfl kr ?_|refine zAd hE 2 rfl rfl kr ?_|refine zAd hE 3 rfl rfl kr ?_|refine zAd hE 4 rfl rfl kr ?_); simp only [ao,List.length_nil,Nat.reduceAdd,Nat.reduceSub,ak,List.take_zero,al,ar])); simp +contextual only [hnl,↓kA,push_cast,seval,reduceCtorEq,cI])|refine zAc ?_|(refine zAg ?_; simp only [thenQ,zAh,if_true,if_false,Nat.reduceEqDiff,reduceCtorEq])|(refine zAe (by rfl) (fun hb=>?_) (fun hb=>?_)<;>(try simp only [bq,reduceCtorEq] at hb)<;>(try omega))|refine andS ?_|fail)
    ·exact (eN fun h=>by have:=h.ra i hip; omega).symm
    ·refine zAk (fun j:Nat=>AS.of [(0,.one (.val (.sl .int) a)),(1,.one (.val (.sl .int) b)),(8,.one (.ref 42)),(9,.I i),(43,.one (.val (.sl (.sl .int)) p)),(44,.I p.length),(45,.I i),(57,.one (.val (.sl .int) (p.getD i []))),(58,.I (p.getD i []).length),(59,.I j)] [(42,.flat 3 .int (colB p i j))] []) (fun j=>j<=wid p) (fun j=>wid p - j) 0 (aq _) ?_ ?_
     ·refine zAf ?_ ?_ ?_<;>simp only [push_cast,seval,reduceCtorEq,cI]
      all_goals skip
     intro j hj K2 hL2
     have hcl:=zNF (p:=p) i j
     rcases ai j (wid p) with hjw|hjw
     ·have k1:=zQF (p:=p) i j hjw
      rw [ae (aZ j)] at k1
      have k2:=zUM hp i j hi hjw
      have k3:0<=(p.getD i []).getD j 0/\(p.getD i []).getD j 0<=150:=hp.at hip hjw
      have k4:=zQH (i:=i) hjw (x:=(colB p i j).getD j 0+(p.getD i []).getD j 0) rfl
      repeat' (first|(refine goK (by assumption) ?_; iterate 4 (try clear hK K))|(refine zAb fun K hK=>?_)|(refine zAa hE rfl ?_; simp +contextual only [hnl,↓kA,push_cast,seval,reduceCtorEq,cI])|refine zAc ?_|(refine zAg ?_; simp only [thenQ,zAh,if_true,if_false,Nat.reduceEqDiff,reduceCtorEq])|(refine zAe (by rfl) (fun hb=>?_) (fun hb=>?_)<;>(try simp only [bq,reduceCtorEq] at hb)<;>(try omega))|refine andS ?_|fail)
      all_goals try rw [k4]
      all_goals refine hL2 _ (j+1) (by omega) (by omega) ?_
      all_goals refine zAf ?_ ?_ ?_<;>simp only [push_cast,seval,reduceCtorEq,cI]
      all_goals first|exact .inl rfl|skip
     ·obtain rfl:j=wid p:=by omega
      have k5:=zQG (p:=p) i
      repeat' (first|(refine goK (by assumption) ?_; iterate 4 (try clear hK K))|(refine zAb fun K hK=>?_)|(refine zAa hE rfl ?_; simp +contextual only [hnl,↓kA,push_cast,seval,reduceCtorEq,cI])|(refine zAj ?_; simp only [thenQ,zAh,if_true,if_false,Nat.reduceEqDiff,reduceCtorEq])|(refine zAe (by rfl) (fun hb=>?_) (fun hb=>?_)<;>(try simp only [bq,reduceCtorEq] at hb)<;>(try omega))|refine andS ?_|fail)
      refine hL _ (i+1) ⟨by omega,fun r hr=>?_⟩ (by omega) ?_
      ·rcases ai r i with h|h
       ·exact hall r h
       ·obtain rfl:r=i:=by omega
        omega
      refine zAf ?_ ?_ ?_<;>simp only [push_cast,seval,reduceCtorEq,cI]
      rw [k5]
      exact .inl rfl
   ·obtain rfl:i=p.length:=by omega
    have hcl:=zNF (p:=p) p.length 0
    repeat' (first|(refine goK (by assumption) ?_; iterate 4 (try clear hK K))|(refine zAb fun K hK=>?_)|(refine zAa hE rfl ?_; simp +contextual only [hnl,↓kA,push_cast,seval,reduceCtorEq,cI])|refine zAc ?_|(refine zAj ?_; simp only [thenQ,zAh,if_true,if_false,Nat.reduceEqDiff,reduceCtorEq])|(refine zAe (by rfl) (fun hb=>?_) (fun hb=>?_)<;>(try simp only [bq,reduceCtorEq] at hb)<;>(try omega))|fail)
    refine zAk (fun k:Nat=>AS.of [(1,.one (.val (.sl .int) b)),(73,.one (.ref 42)),(74,.I (colB p p.length 0).length),(75,.I k)] [(42,.flat 3 .int (colB p p.length 0))] []) (fun k=>k<=wid p/\∀ j,j<k->cK p p.length j<=b.getD j 0) (fun k=>wid p - k) 0 ⟨aq _,by omega⟩ ?_ ?_
    ·refine zAf ?_ ?_ ?_<;>simp only [push_cast,seval,reduceCtorEq,cI]
     all_goals skip
    intro k ⟨hk,hal2⟩ K3 hL3
    rcases ai k (wid p) with hkw|hkw
    ·have k1:=zQF (p:=p) p.length 0 hkw
     rw [ae (bE _),cZ] at k1
     repeat' (first|(refine goK (by assumption) ?_; iterate 4 (try clear hK K))|(refine zAb fun K hK=>?_)|((first|refine zAa hE rfl ?_|refine zAi ?_); simp +contextual only [hnl,↓kA,push_cast,seval,reduceCtorEq,cI])|refine zAc ?_|(refine zAg ?_; simp only [thenQ,zAh,if_true,if_false,Nat.reduceEqDiff,reduceCtorEq])|(refine zAe (by rfl) (fun hb=>?_) (fun hb=>?_)<;>(try simp only [bq,reduceCtorEq] at hb)<;>(try omega))|refine andS ?_|fail)
     ·exact (eN fun h=>by have:=h.cb k hkw; omega).symm
     ·refine hL3 _ (k+1) ⟨by omega,fun j hj=>?_⟩ (by omega) ?_
      ·rcases ai j k with h|h
       ·exact hal2 j h
       ·obtain rfl:j=k:=by omega
        omega
      refine zAf ?_ ?_ ?_<;>simp only [push_cast,seval,reduceCtorEq,cI]
    ·obtain rfl:k=wid p:=by omega
     repeat' (first|(refine goK (by assumption) ?_; iterate 4 (try clear hK K))|(refine zAb fun K hK=>?_)|((first|refine zAa hE rfl ?_|refine zAi ?_); simp +contextual only [hnl,↓kA,push_cast,seval,reduceCtorEq,cI])|(refine zAj ?_; simp only [thenQ,zAh,if_true,if_false,Nat.reduceEqDiff,reduceCtorEq])|(refine zAe (by rfl) (fun hb=>?_) (fun hb=>?_)<;>(try simp only [bq,reduceCtorEq] at hb)<;>(try omega))|fail)
     exact (eL ⟨hs1,hs2,fun i hi=>hall i hi,fun k hk=>hal2 k hk⟩).symm
  ·repeat' (first|(refine goK (by assumption) ?_; iterate 4 (try clear hK K))|(refine zAb fun K hK=>?_)|((first|refine zAa hE rfl ?_|refine zAi ?_); simp +contextual only [hnl,↓kA,push_cast,seval,reduceCtorEq,cI])|(refine zAg ?_; simp only [thenQ,zAh,if_true,if_false,Nat.reduceEqDiff,reduceCtorEq])|(refine zAe (by rfl) (fun hb=>?_) (fun hb=>?_)<;>(try simp only [bq,reduceCtorEq] at hb)<;>(try omega))|refine andS ?_|(refine ⟨fun hc=>?_,fun hc=>?_⟩)|fail)
   all_goals first|exact (eN fun h=>hs ⟨h.rows,h.cols⟩).symm|skip
   done
 ·replace hnl:=aa hnl (aa e1 e0)
  exact auB
end Go.Proofs.YtekfodeknpnkbaaGreatDoor
namespace Go.Proofs.YtekfodeknpnkbaaGreatDoor
open Go.RowKit Go.VS Go.OT
def movK (p:List (List Int)) (i:Nat):Int:=sg i fun r=>lsum (p.getD r [])
theorem zM4 {p:List (List Int)} (h:InPlan p) {i:Nat} (hi:i<p.length):0<=lsum (p.getD i [])/\lsum (p.getD i [])<=750:=by
 have h1:=h.row hi
 have h2:=h.cols
 rw [zBg]
 have k1:0<=sumL (p.getD i []):=zCM _ fun j hj=>(h.at hi (show j<wid p by omega)).1
 have k2:sumL (p.getD i [])<=(p.getD i []).length*150:=zLA _ fun j hj=>(h.at hi (show j<wid p by omega)).2
 omega
theorem zFR {p:List (List Int)} (h:InPlan p):∀ i,i<=p.length->0<=movK p i/\movK p i<=750*i
 | 0,_=>by simp [movK,sg]
 | i+1,hi=>by
  have h1:=zFR h i (by omega)
  have h2:=zM4 h (show i<p.length by omega)
  show 0<=movK p i+lsum (p.getD i [])/\movK p i+lsum (p.getD i [])<=_
  omega
@[push_cast] def zUV:Con:=⟨[.dat (.sl (.sl .int))],fun (x:List (List Int)×Unit)=>InPlan x.1,fun (x:List (List Int)×Unit)=>{res:=[.val .int (movK x.1 x.1.length)]}⟩
theorem zTV:FnSpec Tryz.prog 73 zUV:=by
 refine FnSpec.of_tri' (E:=know _ [] [] []) (zAl (kc zD6 all_nil) all_nil all_nil) Tryz.func73 rfl rfl kr ?_
 intro C x hE hnl hfit hpre
 simp only [Tryz.ntmps73,Tryz.results73,maxLen,seval,push_cast] at hnl hfit hpre ⊢
 obtain ⟨(p:List (List Int)),_⟩:=x
 dsimp only at hfit hpre ⊢
 have hpr:=hpre.rows
 repeat' (first|(refine goK (by assumption) ?_; iterate 4 (try clear hK K))|(refine zAb fun K hK=>?_)|(refine zAa hE rfl ?_; simp +contextual only [hnl,↓kA,push_cast,seval,reduceCtorEq,cI])|refine zAc ?_|fail)
 refine zAk (fun i:Nat=>AS.of [(3,.I (movK p i)),(6,.one (.val (.sl (.sl .int)) p)),(7,.I p.length),(8,.I i)] [] []) (fun i=>i<=p.length) (fun i=>p.length - i) 0 (aq _) ?_ ?_
 ·refine zAf ?_ ?_ ?_<;>simp only [push_cast,seval,reduceCtorEq,cI]
  all_goals rfl
 intro i hi K' hL
 rcases ai i p.length with hip|hip
 ·have hsi:=zH2 hpre hip
  have h1:=zFR hpre i hi
  have h2:=zM4 hpre hip
  replace hnl:=aa hnl (fun m=>aG (hsi m))
  repeat' (first|(refine goK (by assumption) ?_; iterate 4 (try clear hK K))|(refine zAb fun K hK=>?_)|(refine zAa hE rfl ?_; simp +contextual only [hnl,↓kA,push_cast,seval,reduceCtorEq,cI])|refine zAc ?_|(refine zAg ?_; simp only [thenQ,zAh,if_true,if_false,Nat.reduceEqDiff,reduceCtorEq])|(refine zAe (by rfl) (fun hb=>?_) (fun hb=>?_)<;>(try simp only [bq,reduceCtorEq] at hb)<;>(try omega))|refine andS ?_|fail)
  refine hL _ (i+1) (by omega) (by omega) ?_
  refine zAf ?_ ?_ ?_<;>simp only [push_cast,seval,reduceCtorEq,cI]
  all_goals rfl
 ·obtain rfl:i=p.length:=by omega
  exact auB
def errLC (a b:List Int) (c:List (List Int)) (w:Int) (t:List (List Int)):Int:=if errWd a b c w=0 then errLo a b t else errWd a b c w
def costV (a b:List Int) (c:List (List Int)) (w:Int) (t:List (List Int)):Int:=spend c t+w*(lsum a+lsum b - 2*movK t t.length)
def costL (a b:List Int) (c:List (List Int)) (w:Int) (t:List (List Int)):Int:=if errLC a b c w t=0 then costV a b c w t else 0
theorem zNX {a b:List Int} {c:List (List Int)} {w:Int} {t:List (List Int)} (h:errLC a b c w t=0):errWd a b c w=0/\InPlan t/\LooseP a b t:=by
 unfold errLC at h
 split at h
 ·rename_i h1
  unfold errLo at h
  split at h
  ·rename_i h2
   split at h
   ·rename_i h3; exact ⟨h1,zDI h2.2.2,h3⟩
   ·omega
  ·omega
 ·rename_i h1; exact absurd h h1
theorem zUS {a b:List Int} {c:List (List Int)} {t:List (List Int)} (hf:ForOK a b c) (hp:InPlan t) (hl:LooseP a b t):Fit c t:=by
 have hm:=hf.mc
 refine ⟨a.length,b.length,⟨by have:=hm.a5; omega,by have:=hm.b5; omega⟩,⟨hm.hc.rows,hm.hc.cols,fun i j hi hj=>by have:=hm.hc.at' i j hi hj; omega⟩,⟨hl.rows,fun i hi=>?_,fun i j hi hj=>?_⟩⟩
 ·rw [hp.row (by rw [hl.rows]; exact hi)]; exact hl.cols
 ·have h1:0<=(t.getD i []).getD j 0/\(t.getD i []).getD j 0<=150:=hp.at (by rw [hl.rows]; exact hi) (by rw [hl.cols]; exact hj)
  omega
theorem zUT {a b:List Int} {t:List (List Int)} (hp:InPlan t) (hl:LooseP a b t) {i:Nat} (hi:i<a.length):rowS b.length (gt t) i=lsum (t.getD i []):=by
 rw [zBg]
 unfold sumL
 rw [hp.row (by rw [hl.rows]; exact hi),hl.cols]
 rfl
theorem zVV {a b:List Int} {t:List (List Int)} (hp:InPlan t) (hl:LooseP a b t):IsPart a.length b.length (ga a) (ga b) (gt t)/\units a.length b.length (gt t)=movK t t.length:=by
 refine ⟨⟨fun i j hi hj=>(hp.at (show i<t.length by rw [hl.rows]; exact hi) (show j<wid t by rw [hl.cols]; exact hj)).1,fun i hi=>?_,fun j hj=>?_⟩,?_⟩
 ·rw [zUT hp hl hi]
  exact hl.ra i (by rw [hl.rows]; exact hi)
 ·have h1:=hl.cb j (by rw [hl.cols]; exact hj)
  rw [hl.rows] at h1
  exact h1
 ·unfold units movK
  rw [hl.rows]
  exact zAm _ fun i hi=>zUT hp hl hi
end Go.Proofs.YtekfodeknpnkbaaGreatDoor
