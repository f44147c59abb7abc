import Derived.Test.YtekfodeknpnkbaaGreatDoorT35
import Derived.Test.YtekfodeknpnkbaaGreatDoorT36
import Derived.Test.YtekfodeknpnkbaaGreatDoorT37
import Derived.Test.YtekfodeknpnkbaaGreatDoorT39
set_option linter.unusedSimpArgs false
set_option linter.unusedVariables false
namespace Go.Proofs.YtekfodeknpnkbaaGreatDoor
open Go.RowKit Go.VS
@[push_cast] def zYD:Con:=⟨[.dat .str,.dat .byte],fun (x:ByteArray×Nat×Unit)=>x.1.size≤1000000,fun (x:ByteArray×Nat×Unit)=>{res:=[.val .str (rcut1 x.1 x.2.1),.val .str (rcut2 x.1 x.2.1),.val .bool (zAy x.1 x.2.1)]}⟩
theorem zUs:FnSpec Tryz.prog 159 zYD:=by
 refine FnSpec.of_tri' (E:=know [] [] [] []) (zAl all_nil all_nil all_nil) Tryz.func159 rfl rfl (by kernel_rfl) ?_
 intro C x hE hnl hfit hpre
 simp only [Tryz.ntmps159,Tryz.results159,maxLen,seval,push_cast] at hnl hfit hpre ⊢
 obtain ⟨(s:ByteArray),(y:Nat),_⟩:=x
 dsimp only at hfit hpre ⊢
 have hem:({data:=#[]}:ByteArray)=ByteArray.empty:=rfl
 replace hnl:=And.intro hnl hem
 repeat' (first|(refine goK (by assumption) ?_; iterate 4 (try clear hK K))|(refine zAb fun K hK=>?_)|(refine zAa hE rfl ?_; simp +contextual only [hnl,↓kA,push_cast,seval,reduceCtorEq])|refine zAd ?_|fail)
 refine zAk (fun k:Nat=>AS.of [(0,.one (.val .str s)),(1,.one (.val .byte y)),(7,.I k)] [] []) (fun k=>k≤s.size∧zCr s y (s.size - k) k=cutI s y) (fun k=>s.size - k) 0 ⟨Nat.zero_le _,rfl⟩ ?_ ?_
 ·refine zAf ?_ ?_ ?_<;>simp only [push_cast,seval,reduceCtorEq]
 intro k ⟨hk,hc⟩ K' hL
 rcases Nat.lt_or_ge k s.size with hks|hks
 ·obtain ⟨m,hm⟩:∃ m,s.size - k=m+1:=⟨s.size - k - 1,by omega⟩
  have hc':=hc
  rw [hm] at hc'
  have hstep:zCr s y (m+1) k=if byteV s k=y then k else zCr s y m (k+1):=rfl
  rw [hstep] at hc'
  by_cases h1:byteV s k=y
  ·rw [if_pos h1] at hc'
   have e1:zAy s y=true:=decide_eq_true (by omega)
   have e2:rcut1 s y=s.extract 0 k:=by rw [rcut1,if_pos e1,←hc']
   have e3:rcut2 s y=s.extract (k+1) s.size:=by rw [rcut2,if_pos e1,←hc']
   replace hnl:=And.intro hnl (And.intro e1 (And.intro e2 (And.intro e3 (show decide ((s.data.toList.getD k 0).toNat=y)=true from decide_eq_true h1))))
   repeat' (first|(refine goK (by assumption) ?_; iterate 4 (try clear hK K))|(refine zAb fun K hK=>?_)|((first|refine zAa hE rfl ?_|refine zAi ?_|((first|refine zAc hE 1 rfl rfl (by kernel_rfl) ?_|refine zAc hE 2 rfl rfl (by kernel_rfl) ?_|refine zAc hE 3 rfl rfl (by kernel_rfl) ?_|refine zAc hE 4 rfl rfl (by kernel_rfl) ?_); simp only [List.length_cons,List.length_nil,Nat.reduceAdd,Nat.reduceSub,List.take_succ_cons,List.take_zero,List.drop_succ_cons,List.drop_zero])); simp +contextual only [hnl,↓kA,push_cast,seval,reduceCtorEq])|refine zAd ?_|(refine zAg ?_; simp only [thenQ,zAh,if_true,if_false,Nat.reduceEqDiff,reduceCtorEq])|(refine zAe (by rfl) (fun hb=>?_) (fun hb=>?_)<;>(try simp only [bq,reduceCtorEq] at hb)<;>(try omega))|refine andS ?_|fail)
   all_goals rw [show ((k:Int)+1).toNat=k+1 by omega]
  ·rw [if_neg h1] at hc'
   replace hnl:=And.intro hnl (show decide ((s.data.toList.getD k 0).toNat=y)=false from decide_eq_false h1)
   repeat' (first|(refine goK (by assumption) ?_; iterate 4 (try clear hK K))|(refine zAb fun K hK=>?_)|(refine zAa hE rfl ?_; simp +contextual only [hnl,↓kA,push_cast,seval,reduceCtorEq])|refine zAd ?_|(refine zAg ?_; simp only [thenQ,zAh,if_true,if_false,Nat.reduceEqDiff,reduceCtorEq])|(refine zAe (by rfl) (fun hb=>?_) (fun hb=>?_)<;>(try simp only [bq,reduceCtorEq] at hb)<;>(try omega))|refine andS ?_|fail)
   refine hL _ (k+1) ⟨by omega,by rw [show s.size - (k+1)=m by omega]; exact hc'⟩ (by omega) ?_
   refine zAf ?_ ?_ ?_<;>simp only [push_cast,seval,reduceCtorEq]
 ·obtain rfl:k=s.size:=by omega
  rw [Nat.sub_self] at hc
  have hc':s.size=cutI s y:=hc
  have e1:zAy s y=false:=decide_eq_false (by omega)
  have e2:rcut1 s y=s:=by rw [rcut1,e1]; rfl
  have e3:rcut2 s y=ByteArray.empty:=by rw [rcut2,e1]; rfl
  replace hnl:=And.intro hnl (And.intro e1 (And.intro e2 e3))
  exact auC
end Go.Proofs.YtekfodeknpnkbaaGreatDoor
namespace Go.Proofs.YtekfodeknpnkbaaGreatDoor
open Go.RowKit Go.VS
@[push_cast] def zWj:Con:=⟨[.dat .str,.dat .int],fun (x:ByteArray×Int×Unit)=>x.1.size≤1000000,fun (x:ByteArray×Int×Unit) =>
 {res:=[.val (.prod .str .int) (if zCk x.1=true then zCM x.1 else (ByteArray.empty,0)),.val .int (if zCk x.1=true then sumV x.2.1 (textV (numRV (zBJ x.1)) (zA6 x.1)) else 0),
  .val .str (if zCk x.1=true then rcut2 x.1 10 else ByteArray.empty),.val .bool (zCk x.1 && decide (lineV x.2.1 (zCM x.1)=zBD x.1))]}⟩
set_option maxHeartbeats 1500000 in
theorem zRp:FnSpec Tryz.prog 112 zWj:=by
 refine FnSpec.of_tri' (E:=know _ [] [] []) (zAl (kc zUs (kc zMC (kc zMD (kc zMu all_nil)))) all_nil all_nil) Tryz.func112 rfl rfl (by kernel_rfl) ?_
 intro C x hE hnl hfit hpre
 simp only [Tryz.ntmps112,Tryz.results112,maxLen,seval,push_cast] at hnl hfit hpre ⊢
 obtain ⟨(s:ByteArray),(before:Int),_⟩:=x
 dsimp only at hfit hpre ⊢
 have hem:({data:=#[]}:ByteArray)=ByteArray.empty:=rfl
 have z1:=zFT s 10
 have z2:=zEs (rcut1 s 10) 32
 have f1:rcut1 s 10=zBD s:=rfl
 have f2:rcut2 (zBD s) 32=zAX s:=rfl
 have f3:rcut1 (zAX s) 32=zBJ s:=rfl
 have f4:rcut2 (zAX s) 32=zA6 s:=rfl
 rw [f1] at z1 z2
 rw [f2] at z2
 cases hg:zCk s with
 | true =>
  have hg':=hg
  unfold zCk at hg'
  simp only [Bool.and_eq_true,decide_eq_true_eq] at hg'
  obtain ⟨g1,g2,g3,g4,g5,g6⟩:=hg'
  have g4':(zBl (zBJ s) && decide (numRV (zBJ s)≤999999))=true:=g4
  have hn:zBl (zBJ s)=true∧numRV (zBJ s)≤999999:=by simpa [nxIs] using g4
  have hn0:0≤numRV (zBJ s):=by
   rw [numRV,if_pos hn.1]
   have h1:=hn.1
   rw [zBl,Bool.and_eq_true,decide_eq_true_eq] at h1
   exact (zE9 h1.1.2.1 h1.1.2.1 (zCT.1 h1.2)).1
  have hlp:LinePre (zA6 s,numRV (zBJ s)):=⟨by dsimp only; omega,by dsimp only; unfold InR; omega⟩
  have hl:(zA6 s,numRV (zBJ s))=zCM s:=rfl
  replace hnl:=And.intro hnl (And.intro hem (And.intro f1 (And.intro f2 (And.intro f3 (And.intro f4 (And.intro hg (And.intro g1 (And.intro g2 (And.intro g3 (And.intro g4' (And.intro (eq_true hlp) (show decide (1≤((zA6 s).size:Int)∧((zA6 s).size:Int)≤30)=true from decide_eq_true ⟨g5,g6⟩))))))))))))
  repeat' (first|(refine goK (by assumption) ?_; iterate 4 (try clear hK K))|(refine zAb fun K hK=>?_)|((first|refine zAa hE rfl ?_|refine zAi ?_|((first|refine zAc hE 1 rfl rfl (by kernel_rfl) ?_|refine zAc hE 2 rfl rfl (by kernel_rfl) ?_|refine zAc hE 3 rfl rfl (by kernel_rfl) ?_|refine zAc hE 4 rfl rfl (by kernel_rfl) ?_); simp only [List.length_cons,List.length_nil,Nat.reduceAdd,Nat.reduceSub,List.take_succ_cons,List.take_zero,List.drop_succ_cons,List.drop_zero])); simp +contextual only [hnl,↓kA,push_cast,seval,reduceCtorEq])|refine zAd ?_|((first|refine zAg ?_|refine zAj ?_); simp only [thenQ,zAh,if_true,if_false,Nat.reduceEqDiff,reduceCtorEq])|(refine zAe (by rfl) (fun hb=>?_) (fun hb=>?_)<;>(try simp only [bq,reduceCtorEq] at hb)<;>(try omega))|refine zAr (by rfl) ?_ ?_|refine andS ?_|(refine ⟨fun hc=>?_,fun hc=>?_⟩)|(intro hc; try omega))
  all_goals rfl
 | false =>
  replace hnl:=And.intro hnl (And.intro hem (And.intro f1 (And.intro f2 (And.intro f3 (And.intro f4 hg)))))
  cases g1:zAy s 10 with
  | false =>
   replace hnl:=And.intro hnl g1
   repeat' (first|(refine goK (by assumption) ?_; iterate 4 (try clear hK K))|(refine zAb fun K hK=>?_)|((first|refine zAa hE rfl ?_|refine zAi ?_|((first|refine zAc hE 1 rfl rfl (by kernel_rfl) ?_|refine zAc hE 2 rfl rfl (by kernel_rfl) ?_|refine zAc hE 3 rfl rfl (by kernel_rfl) ?_|refine zAc hE 4 rfl rfl (by kernel_rfl) ?_); simp only [List.length_cons,List.length_nil,Nat.reduceAdd,Nat.reduceSub,List.take_succ_cons,List.take_zero,List.drop_succ_cons,List.drop_zero])); simp +contextual only [hnl,↓kA,push_cast,seval,reduceCtorEq])|refine zAd ?_|((first|refine zAg ?_|refine zAj ?_); simp only [thenQ,zAh,if_true,if_false,Nat.reduceEqDiff,reduceCtorEq])|(refine zAe (by rfl) (fun hb=>?_) (fun hb=>?_)<;>(try simp only [bq,reduceCtorEq] at hb)<;>(try omega))|refine zAr (by rfl) ?_ ?_|refine andS ?_|(refine ⟨fun hc=>?_,fun hc=>?_⟩)|(intro hc; try omega))
  | true =>
  cases g2:zAy (zBD s) 32 with
  | false =>
   replace hnl:=And.intro hnl (And.intro g1 g2)
   repeat' (first|(refine goK (by assumption) ?_; iterate 4 (try clear hK K))|(refine zAb fun K hK=>?_)|((first|refine zAa hE rfl ?_|refine zAi ?_|((first|refine zAc hE 1 rfl rfl (by kernel_rfl) ?_|refine zAc hE 2 rfl rfl (by kernel_rfl) ?_|refine zAc hE 3 rfl rfl (by kernel_rfl) ?_|refine zAc hE 4 rfl rfl (by kernel_rfl) ?_); simp only [List.length_cons,List.length_nil,Nat.reduceAdd,Nat.reduceSub,List.take_succ_cons,List.take_zero,List.drop_succ_cons,List.drop_zero])); simp +contextual only [hnl,↓kA,push_cast,seval,reduceCtorEq])|refine zAd ?_|((first|refine zAg ?_|refine zAj ?_); simp only [thenQ,zAh,if_true,if_false,Nat.reduceEqDiff,reduceCtorEq])|(refine zAe (by rfl) (fun hb=>?_) (fun hb=>?_)<;>(try simp only [bq,reduceCtorEq] at hb)<;>(try omega))|refine zAr (by rfl) ?_ ?_|refine andS ?_|(refine ⟨fun hc=>?_,fun hc=>?_⟩)|(intro hc; try omega))
  | true =>
  cases g3:zAy (zAX s) 32 with
  | false =>
   replace hnl:=And.intro hnl (And.intro g1 (And.intro g2 g3))
   repeat' (first|(refine goK (by assumption) ?_; iterate 4 (try clear hK K))|(refine zAb fun K hK=>?_)|((first|refine zAa hE rfl ?_|refine zAi ?_|((first|refine zAc hE 1 rfl rfl (by kernel_rfl) ?_|refine zAc hE 2 rfl rfl (by kernel_rfl) ?_|refine zAc hE 3 rfl rfl (by kernel_rfl) ?_|refine zAc hE 4 rfl rfl (by kernel_rfl) ?_); simp only [List.length_cons,List.length_nil,Nat.reduceAdd,Nat.reduceSub,List.take_succ_cons,List.take_zero,List.drop_succ_cons,List.drop_zero])); simp +contextual only [hnl,↓kA,push_cast,seval,reduceCtorEq])|refine zAd ?_|((first|refine zAg ?_|refine zAj ?_); simp only [thenQ,zAh,if_true,if_false,Nat.reduceEqDiff,reduceCtorEq])|(refine zAe (by rfl) (fun hb=>?_) (fun hb=>?_)<;>(try simp only [bq,reduceCtorEq] at hb)<;>(try omega))|refine zAr (by rfl) ?_ ?_|refine andS ?_|(refine ⟨fun hc=>?_,fun hc=>?_⟩)|(intro hc; try omega))
  | true =>
  cases g4:(zBl (zBJ s) && decide (numRV (zBJ s)≤999999)) with
  | false =>
   replace hnl:=And.intro hnl (And.intro g1 (And.intro g2 (And.intro g3 g4)))
   repeat' (first|(refine goK (by assumption) ?_; iterate 4 (try clear hK K))|(refine zAb fun K hK=>?_)|((first|refine zAa hE rfl ?_|refine zAi ?_|((first|refine zAc hE 1 rfl rfl (by kernel_rfl) ?_|refine zAc hE 2 rfl rfl (by kernel_rfl) ?_|refine zAc hE 3 rfl rfl (by kernel_rfl) ?_|refine zAc hE 4 rfl rfl (by kernel_rfl) ?_); simp only [List.length_cons,List.length_nil,Nat.reduceAdd,Nat.reduceSub,List.take_succ_cons,List.take_zero,List.drop_succ_cons,List.drop_zero])); simp +contextual only [hnl,↓kA,push_cast,seval,reduceCtorEq])|refine zAd ?_|((first|refine zAg ?_|refine zAj ?_); simp only [thenQ,zAh,if_true,if_false,Nat.reduceEqDiff,reduceCtorEq])|(refine zAe (by rfl) (fun hb=>?_) (fun hb=>?_)<;>(try simp only [bq,reduceCtorEq] at hb)<;>(try omega))|refine zAr (by rfl) ?_ ?_|refine andS ?_|(refine ⟨fun hc=>?_,fun hc=>?_⟩)|(intro hc; try omega))
  | true =>
  have g5:decide (1≤((zA6 s).size:Int)∧((zA6 s).size:Int)≤30)=false:=by
   have g4':nxIs s=true:=g4
   rw [zCk,g1,g2,g3,g4'] at hg
   simpa only [Bool.true_and] using hg
  replace hnl:=And.intro hnl (And.intro g1 (And.intro g2 (And.intro g3 (And.intro g4 g5))))
  exact auC
end Go.Proofs.YtekfodeknpnkbaaGreatDoor
namespace Go.Proofs.YtekfodeknpnkbaaGreatDoor
open Go.RowKit Go.VS
@[push_cast] def zV2:Con:=⟨[.dat .str],fun (x:ByteArray×Unit)=>x.1.size≤1000000,fun (x:ByteArray×Unit)=>{res:=[.own (.flat 61 (.prod .str .int) (zAL 60 x.1 0).1),.val .str (zAL 60 x.1 0).2]}⟩
set_option maxHeartbeats 1500000 in
theorem zRh:FnSpec Tryz.prog 66 zV2:=by
 refine FnSpec.of_tri' (E:=know _ [] [] []) (zAl (kc zRp all_nil) all_nil all_nil) Tryz.func66 rfl rfl (by kernel_rfl) ?_
 intro C x hE hnl hfit hpre
 simp only [Tryz.ntmps66,Tryz.results66,maxLen,seval,push_cast] at hnl hfit hpre ⊢
 obtain ⟨(book:ByteArray),_⟩:=x
 dsimp only at hfit hpre ⊢
 repeat' (first|(refine goK (by assumption) ?_; iterate 4 (try clear hK K))|(refine zAb fun K hK=>?_)|(refine zAa hE rfl ?_; simp +contextual only [hnl,↓kA,push_cast,seval,reduceCtorEq])|refine zAd ?_|fail)
 refine zAk (fun y:List Line×ByteArray×Int=>AS.of [(0,.one (.val .str y.2.1)),(4,.one (.ref 26)),(5,.I y.2.2)] [(26,.flat 61 (.prod .str .int) y.1)] []) (fun y=>y.1.length≤60∧y.2.1.size≤1000000∧zAL 60 book 0=(y.1++(zAL (60 - y.1.length) y.2.1 y.2.2).1,(zAL (60 - y.1.length) y.2.1 y.2.2).2)) (fun y=>60 - y.1.length) ([],book,0) ⟨Nat.zero_le _,hpre,rfl⟩ ?_ ?_
 ·refine zAf ?_ ?_ ?_<;>simp only [push_cast,seval,reduceCtorEq]
  all_goals first|rfl|omega|exact ⟨by omega,rfl⟩
 rintro ⟨out,b,s⟩ ⟨h1,h2,h3⟩ K' hL
 dsimp only at h1 h2 h3 ⊢
 rcases Nat.lt_or_ge out.length 60 with h4|h4
 ·obtain ⟨m,hm⟩:∃ m,60 - out.length=m+1:=⟨60 - out.length - 1,by omega⟩
  rw [hm] at h3
  cases hk:nxOK b s with
  | true =>
   rw [zEl hk] at h3
   have hg:zCk b=true:=by
    rw [nxOK,Bool.and_eq_true] at hk; exact hk.1
   have hk':(zCk b && decide (lineV s (zCM b)=zBD b))=true:=hk
   have hz:=zEs b 10
   have hq:lineV s (zCM b)=zBD b:=by
    have h5:=hk'
    rw [Bool.and_eq_true,decide_eq_true_eq] at h5
    exact h5.2
   replace hnl:=And.intro hnl (And.intro hk' hg)
   repeat' (first|(refine goK (by assumption) ?_; iterate 4 (try clear hK K))|(refine zAb fun K hK=>?_)|((first|refine zAa hE rfl ?_|refine zAi ?_); simp +contextual only [hnl,↓kA,push_cast,seval,reduceCtorEq])|refine zAd ?_|((first|refine zAg ?_|refine zAj ?_); simp only [thenQ,zAh,if_true,if_false,Nat.reduceEqDiff,reduceCtorEq])|(refine zAe (by rfl) (fun hb=>?_) (fun hb=>?_)<;>(try simp only [bq,reduceCtorEq] at hb)<;>(try omega))|refine andS ?_|fail)
   ·exact absurd hq hb
   refine hL _ (out++[zCM b],rcut2 b 10,nxSum b s) ⟨?_,?_,?_⟩ ?_ ?_
   ·dsimp only; rw [List.length_append]; simp; omega
   ·dsimp only; omega
   ·dsimp only
    rw [h3,List.length_append,show 60 - (out.length+[zCM b].length)=m by simp; omega,List.append_assoc]
    rfl
   ·dsimp only; rw [List.length_append]; simp; omega
   refine zAf ?_ ?_ ?_<;>simp only [push_cast,seval,reduceCtorEq]
   rfl
  | false =>
   rw [zBr (n:=m+1) (b:=b) (s:=s) (by rw [hk]; decide),List.append_nil] at h3
   cases hg:zCk b with
   | true =>
    have hd:decide (lineV s (zCM b)=zBD b)=false:=by rw [nxOK,hg,Bool.true_and] at hk; exact hk
    replace hnl:=And.intro hnl (And.intro hd (And.intro hg h3))
    exact auC
   | false =>
    replace hnl:=And.intro hnl (And.intro hg h3)
    exact auC
 ·rw [show 60 - out.length=0 by omega] at h3
  have h3':zAL 60 book 0=(out,b):=by rw [h3]; show (out++[],b)=_; rw [List.append_nil]
  replace hnl:=And.intro hnl h3'
  exact auC
end Go.Proofs.YtekfodeknpnkbaaGreatDoor
