import Derived.Test.YtekfodeknpnkbaaGreatDoorT21
import Derived.Test.YtekfodeknpnkbaaGreatDoorT26
set_option linter.unusedSimpArgs false
set_option linter.unusedVariables false
namespace Go.Proofs.YtekfodeknpnkbaaGreatDoor
open Go.RowKit Go.VS
theorem zJq:FnSpec Tryz.prog 168 zEC:=by
 refine FnSpec.of_tri' (E:=know [] [] [] []) (zAl all_nil all_nil all_nil) Tryz.func168 rfl rfl (by kernel_rfl) ?_
 intro C x hE hnl hfit hpre
 simp only [Tryz.ntmps168,Tryz.results168,maxLen,seval,push_cast] at hnl hfit hpre ⊢
 obtain ⟨(n:Int),(lo:Int),(hi:Int),_⟩:=x
 dsimp only at hfit hpre ⊢
 repeat' (first|(refine goK (by assumption) ?_; iterate 4 (try clear hK K))|(refine zAb fun K hK=>?_)|((first|refine zAa hE rfl ?_|refine zAi ?_); simp +contextual only [hnl,↓kA,push_cast,seval,reduceCtorEq,cI])|(refine ⟨fun hc=>?_,fun hc=>?_⟩)|fail)
 all_goals first|omega|(simp only [decide_eq_decide]; omega)|(simp only [hc,decide_true,decide_false,Bool.true_or,Bool.false_or]; done)|(simp; done)|(simp; omega)|(simp [*]; done)|(simp [*]; omega)
end Go.Proofs.YtekfodeknpnkbaaGreatDoor
namespace Go.Proofs.YtekfodeknpnkbaaGreatDoor
open Go.RowKit Go.VS
theorem zN7 {l:List Int} {x:Int} (h1:x∈l) (h2:¬(0≤x∧x≤30)):zAt l=1 :=
 zIy (by simp only [List.any_eq_true,Bool.or_eq_true,decide_eq_true_eq]; exact ⟨x,h1,by omega⟩)
theorem zER:FnSpec Tryz.prog 129 zLG:=by
 refine FnSpec.of_tri' (E:=know [] [] [] []) (zAl all_nil all_nil all_nil) Tryz.func129 rfl rfl (by kernel_rfl) ?_
 intro C x hE hnl hfit hpre
 simp only [Tryz.ntmps129,Tryz.results129,maxLen,seval,push_cast] at hnl hfit hpre ⊢
 obtain ⟨(l:List Int),_⟩:=x
 dsimp only at hfit hpre ⊢
 repeat' (first|(refine goK (by assumption) ?_; iterate 4 (try clear hK K))|(refine zAb fun K hK=>?_)|(refine zAa hE rfl ?_; simp +contextual only [hnl,↓kA,push_cast,seval,reduceCtorEq,cI])|refine zAd ?_|fail)
 refine zAk (fun k:Nat=>AS.of [(0,.one (.val (.sl .int) l)),(3,.I (lsum (l.take k))),(4,.I k)] [] []) (fun k=>k≤l.length) (fun k=>l.length - k) 0 (Nat.zero_le _) ?_ ?_
 ·refine zAf ?_ ?_ ?_<;>simp only [push_cast,seval,reduceCtorEq,cI]
  simp [lsum]
 intro k hk K' hL
 repeat' (first|(refine goK (by assumption) ?_; iterate 4 (try clear hK K))|(refine zAb fun K hK=>?_)|((first|refine zAa hE rfl ?_|refine zAi ?_); simp +contextual only [hnl,↓kA,push_cast,seval,reduceCtorEq,cI])|refine zAd ?_|((first|refine zAg ?_|refine zAj ?_); simp only [thenQ,zAh,if_true,if_false,Nat.reduceEqDiff,reduceCtorEq])|(refine zAe (by rfl) (fun hb=>?_) (fun hb=>?_)<;>(try simp only [bq,reduceCtorEq] at hb)<;>(try omega))|refine andS ?_|fail)
 ·refine ⟨by rw [←zBH l k (by omega)]; exact hpre _,?_⟩
  repeat' (first|(refine goK (by assumption) ?_; iterate 4 (try clear hK K))|(refine zAa hE rfl ?_; simp +contextual only [hnl,↓kA,push_cast,seval,reduceCtorEq,cI])|refine andS ?_|fail)
  refine hL _ (k+1) (by omega) (by omega) ?_
  refine zAf ?_ ?_ ?_<;>simp only [push_cast,seval,reduceCtorEq,cI]
  exact (zBH l k (by omega)).symm
 ·obtain rfl:k=l.length:=by omega
  simp
theorem zJf:FnSpec Tryz.prog 123 zQk:=by
 refine FnSpec.of_tri' (E:=know _ [] [] []) (zAl (kc zJq all_nil) all_nil all_nil) Tryz.func123 rfl rfl (by kernel_rfl) ?_
 intro C x hE hnl hfit hpre
 simp only [Tryz.ntmps123,Tryz.results123,maxLen,seval,push_cast] at hnl hfit hpre ⊢
 obtain ⟨(l:List Int),_⟩:=x
 dsimp only at hfit hpre ⊢
 repeat' (first|(refine goK (by assumption) ?_; iterate 4 (try clear hK K))|(refine zAb fun K hK=>?_)|((first|refine zAa hE rfl ?_|refine zAi ?_); simp +contextual only [hnl,↓kA,push_cast,seval,reduceCtorEq,cI])|refine zAd ?_|(refine zAg ?_; simp only [thenQ,zAh,if_true,if_false,Nat.reduceEqDiff,reduceCtorEq])|(refine zAe (by rfl) (fun hb=>?_) (fun hb=>?_)<;>(try simp only [bq,reduceCtorEq] at hb)<;>(try omega))|fail)
 ·exact (zGe (by omega)).symm
 have hlen:=hb; clear hb
 refine zAk (fun k:Nat=>AS.of [(0,.one (.val (.sl .int) l)),(3,.I k)] [] []) (fun k=>k≤l.length∧∀ j,j<k→0≤l.getD j 0∧l.getD j 0≤30) (fun k=>l.length - k) 0 ⟨Nat.zero_le _,by omega⟩ ?_ ?_
 ·refine zAf ?_ ?_ ?_<;>simp only [push_cast,seval,reduceCtorEq,cI]
 intro k ⟨hk,hj⟩ K' hL
 repeat' (first|(refine goK (by assumption) ?_; iterate 4 (try clear hK K))|(refine zAb fun K hK=>?_)|((first|refine zAa hE rfl ?_|refine zAi ?_); simp +contextual only [hnl,↓kA,push_cast,seval,reduceCtorEq,cI])|refine zAd ?_|((first|refine zAg ?_|refine zAj ?_); simp only [thenQ,zAh,if_true,if_false,Nat.reduceEqDiff,reduceCtorEq])|(refine zAe (by rfl) (fun hb=>?_) (fun hb=>?_)<;>(try simp only [bq,reduceCtorEq] at hb)<;>(try omega))|refine andS ?_|fail)
 ·exact (zN7 (zAJ 0 (by omega)) hb).symm
 ·refine hL _ (k+1) ⟨by omega,fun j hj'=>?_⟩ (by omega) ?_
  ·rcases Nat.lt_or_ge j k with h3|h3
   ·exact hj j h3
   ·have:j=k:=by omega
    subst this
    exact hb
  refine zAf ?_ ?_ ?_<;>simp only [push_cast,seval,reduceCtorEq,cI]
 ·refine (zIx (by omega) (by omega) fun x hx=>?_).symm
  obtain ⟨j,h1,rfl⟩:=List.getElem_of_mem hx
  have:=hj j (by omega)
  rw [List.getD_eq_getElem?_getD,List.getElem?_eq_getElem h1] at this
  exact this
end Go.Proofs.YtekfodeknpnkbaaGreatDoor
namespace Go.Proofs.YtekfodeknpnkbaaGreatDoor
open Go.RowKit Go.VS
end Go.Proofs.YtekfodeknpnkbaaGreatDoor
namespace Go.Proofs.YtekfodeknpnkbaaGreatDoor
open Go.RowKit Go.VS
end Go.Proofs.YtekfodeknpnkbaaGreatDoor
namespace Go.Proofs.YtekfodeknpnkbaaGreatDoor
open Go.RowKit Go.VS
end Go.Proofs.YtekfodeknpnkbaaGreatDoor
namespace Go.Proofs.YtekfodeknpnkbaaGreatDoor
open Go.RowKit Go.VS
section
variable {a b:List Int} {c:List (List Int)}
theorem zQF (h1:zAt a=0) (h2:zAt b=0) (h3:zAu c=0) (h4:c.length=a.length) (h5:(c.getD 0 []).length=b.length):zDl a b c=0 :=
 zK3 ⟨zFH h1,zFH h2,zAR h3,h4,h5⟩
end
theorem zVA:FnSpec Tryz.prog 121 zXd:=by
 refine FnSpec.of_tri' (E:=know _ [] [] []) (zAl (kc zJf (kc zHk all_nil)) all_nil all_nil) Tryz.func121 rfl rfl (by kernel_rfl) ?_
 intro C x hE hnl hfit hpre
 simp only [Tryz.ntmps121,Tryz.results121,maxLen,seval,push_cast] at hnl hfit hpre ⊢
 obtain ⟨(a:List Int),(b:List Int),(c:List (List Int)),_⟩:=x
 dsimp only at hfit hpre ⊢
 have hne:zAu c=0→0<c.length:=fun h=>by have:=(zAR h).rows; omega
 repeat' (first|(refine goK (by assumption) ?_; iterate 4 (try clear hK K))|(refine zAb fun K hK=>?_)|((first|refine zAa hE rfl ?_|refine zAi ?_); simp +contextual only [hnl,↓kA,push_cast,seval,reduceCtorEq,cI])|(refine zAg ?_; simp only [thenQ,zAh,if_true,if_false,Nat.reduceEqDiff,reduceCtorEq])|(refine zAe (by rfl) (fun hb=>?_) (fun hb=>?_)<;>(try simp only [bq,reduceCtorEq] at hb)<;>(try omega))|refine andS ?_|(refine ⟨fun hc=>?_,fun hc=>?_⟩)|fail)
 ·exact zPz hb
 ·exact zPA hb
 ·exact zPB hb
 ·exact zPD (by omega)
 ·exact (zQF (by assumption) (by assumption) (by assumption) (by omega) (by omega)).symm
 ·exact zPC (by omega)
end Go.Proofs.YtekfodeknpnkbaaGreatDoor
namespace Go.Proofs.YtekfodeknpnkbaaGreatDoor
open Go.RowKit Go.VS Go.OT
theorem zKp:FnSpec Tryz.prog 128 zQc:=by
 refine FnSpec.of_tri' (E:=know [] [] [] []) (zAl all_nil all_nil all_nil) Tryz.func128 rfl rfl (by kernel_rfl) ?_
 intro C x hE hnl hfit hpre
 simp only [Tryz.ntmps128,Tryz.results128,maxLen,seval,push_cast] at hnl hfit hpre ⊢
 obtain ⟨(c:List (List Int)),(t:List (List Int)),_⟩:=x
 dsimp only at hfit hpre ⊢
 have hlc:=hpre.rows
 repeat' (first|(refine goK (by assumption) ?_; iterate 4 (try clear hK K))|(refine zAb fun K hK=>?_)|(refine zAa hE rfl ?_; simp +contextual only [hnl,↓kA,push_cast,seval,reduceCtorEq,cI])|refine zAd ?_|fail)
 refine zAk (fun k:Nat=>AS.of [(0,.one (.val (.sl (.sl .int)) c)),(1,.one (.val (.sl (.sl .int)) t)),(5,.I (zCP c t k)),(6,.I k)] [] []) (fun k=>k≤t.length) (fun k=>t.length - k) 0 (Nat.zero_le _) ?_ ?_
 ·refine zAf ?_ ?_ ?_<;>simp only [push_cast,seval,reduceCtorEq,cI]
  rfl
 intro k hk K' hL
 repeat' (first|(refine goK (by assumption) ?_; iterate 4 (try clear hK K))|(refine zAb fun K hK=>?_)|((first|refine zAa hE rfl ?_|refine zAi ?_); simp +contextual only [hnl,↓kA,push_cast,seval,reduceCtorEq,cI])|refine zAd ?_|((first|refine zAg ?_|refine zAj ?_); simp only [thenQ,zAh,if_true,if_false,Nat.reduceEqDiff,reduceCtorEq])|(refine zAe (by rfl) (fun hb=>?_) (fun hb=>?_)<;>(try simp only [bq,reduceCtorEq] at hb)<;>(try omega))|fail)
 ·have hk':k<t.length:=by omega
  have h3:=hpre.cols hk'
  refine zAk (fun j:Nat=>AS.of [(0,.one (.val (.sl (.sl .int)) c)),(1,.one (.val (.sl (.sl .int)) t)),(5,.I (zCP c t k+dotK (c.getD k []) (t.getD k []) j)),(6,.I k),(7,.I j)] [] []) (fun j=>j≤(t.getD k []).length) (fun j=>(t.getD k []).length - j) 0 (Nat.zero_le _) ?_ ?_
  ·refine zAf ?_ ?_ ?_<;>simp only [push_cast,seval,reduceCtorEq,cI]
   simp [dotK]
  intro j hj K2 hL2
  have h4:=hpre.spend k (by omega)
  have h5:=hpre.dot hk' j (by omega)
  have h6:j<(t.getD k []).length→_:=fun h=>hpre.term hk' (j:=j) h
  repeat' (first|(refine goK (by assumption) ?_; iterate 4 (try clear hK K))|(refine zAb fun K hK=>?_)|((first|refine zAa hE rfl ?_|((first|refine zAc hE 1 rfl rfl (by kernel_rfl) ?_|refine zAc hE 2 rfl rfl (by kernel_rfl) ?_|refine zAc hE 3 rfl rfl (by kernel_rfl) ?_|refine zAc hE 4 rfl rfl (by kernel_rfl) ?_); simp only [List.length_cons,List.length_nil,Nat.reduceAdd,Nat.reduceSub,List.take_succ_cons,List.take_zero,List.drop_succ_cons,List.drop_zero])); simp +contextual only [hnl,↓kA,push_cast,seval,reduceCtorEq,cI])|refine zAd ?_|((first|refine zAg ?_|refine zAj ?_); simp only [thenQ,zAh,if_true,if_false,Nat.reduceEqDiff,reduceCtorEq])|(refine zAe (by rfl) (fun hb=>?_) (fun hb=>?_)<;>(try simp only [bq,reduceCtorEq] at hb)<;>(try omega))|refine andS ?_|fail)
  ·refine hL2 _ (j+1) (by omega) (by omega) ?_
   refine zAf ?_ ?_ ?_<;>simp only [push_cast,seval,reduceCtorEq,cI]
   rw [dotK,Int.add_assoc]
  ·obtain rfl:j=(t.getD k []).length:=by omega
   refine hL _ (k+1) (by omega) (by omega) ?_
   refine zAf ?_ ?_ ?_<;>simp only [push_cast,seval,reduceCtorEq,cI]
   rfl
 ·obtain rfl:k=t.length:=by omega
  rfl
section
variable {c t:List (List Int)}
end
end Go.Proofs.YtekfodeknpnkbaaGreatDoor
namespace Go.Proofs.YtekfodeknpnkbaaGreatDoor
open Go.RowKit Go.VS
end Go.Proofs.YtekfodeknpnkbaaGreatDoor
namespace Go.Proofs.YtekfodeknpnkbaaGreatDoor
open Go.RowKit Go.VS
end Go.Proofs.YtekfodeknpnkbaaGreatDoor
namespace Go.Proofs.YtekfodeknpnkbaaGreatDoor
open Go.RowKit Go.VS Go.OT
end Go.Proofs.YtekfodeknpnkbaaGreatDoor
namespace Go.Proofs.YtekfodeknpnkbaaGreatDoor
open Go.RowKit Go.VS Go.OT Go.LC
@[push_cast] def zW6:Con:=⟨[.dat .int,.dat .int],fun (x:Int×Int×Unit)=>0≤x.1∧x.1≤1000∧0≤x.2.1∧x.2.1≤1000,fun (x:Int×Int×Unit)=>{res:=[.own (.deep 38 3 .int (List.replicate x.1.toNat (List.replicate x.2.1.toNat 0)))]}⟩
theorem zSi:FnSpec Tryz.prog 230 zW6:=by
 refine FnSpec.of_tri' (E:=know [] [] [] []) (zAl all_nil all_nil all_nil) Tryz.func230 rfl rfl (by kernel_rfl) ?_
 intro C x hE hnl hfit hpre
 simp only [Tryz.ntmps230,Tryz.results230,maxLen,seval,push_cast] at hnl hfit hpre ⊢
 obtain ⟨(r:Int),(c:Int),_⟩:=x
 dsimp only at hfit hpre ⊢
 repeat' (first|(refine goK (by assumption) ?_; iterate 4 (try clear hK K))|(refine zAb fun K hK=>?_)|(refine zAa hE rfl ?_; simp +contextual only [hnl,↓kA,push_cast,seval,reduceCtorEq,cI])|refine zAd ?_|fail)
 refine zAk (fun k:Nat=>AS.of [(0,.I r),(1,.I c),(5,.one (.ref 16)),(6,.I k)] [(16,.deep 38 3 .int (List.replicate k (List.replicate c.toNat 0)))] []) (fun k=>k≤r.toNat) (fun k=>r.toNat - k) 0 (Nat.zero_le _) ?_ ?_
 ·refine zAf ?_ ?_ ?_<;>simp only [push_cast,seval,reduceCtorEq,cI]
  first|omega|exact ⟨by omega,rfl⟩|skip
 intro k hk K' hL
 have hlen:(List.replicate k (List.replicate c.toNat (0:Int))).length=k:=List.length_replicate
 replace hnl:=And.intro hnl hlen
 repeat' (first|(refine goK (by assumption) ?_; iterate 4 (try clear hK K))|(refine zAb fun K hK=>?_)|((first|refine zAa hE rfl ?_|refine zAi ?_); simp +contextual only [hnl,↓kA,push_cast,seval,reduceCtorEq,cI])|refine zAd ?_|((first|refine zAg ?_|refine zAj ?_); simp only [thenQ,zAh,if_true,if_false,Nat.reduceEqDiff,reduceCtorEq])|(refine zAe (by rfl) (fun hb=>?_) (fun hb=>?_)<;>(try simp only [bq,reduceCtorEq] at hb)<;>(try omega))|refine andS ?_|fail)
 ·refine hL _ (k+1) (by omega) (by omega) ?_
  refine zAf ?_ ?_ ?_<;>simp only [push_cast,seval,reduceCtorEq,cI]
  left
  rw [List.replicate_succ']
 ·obtain rfl:k=r.toNat:=by omega
  rfl
structure CornPre (a b:List Int):Prop where
 a6:a.length≤6
 b6:b.length≤6
 ha:Bnd 0 200 a
 hb:Bnd 0 200 b
@[push_cast] def zXO:Con:=⟨[.dat (.sl .int),.dat (.sl .int)],fun (x:List Int×List Int×Unit)=>CornPre x.1 x.2.1,fun (x:List Int×List Int×Unit)=>{res:=[.own (.deep 38 3 .int (cornV x.1 x.2.1))]}⟩
set_option maxHeartbeats 1000000 in
theorem zSS:FnSpec Tryz.prog 218 zXO:=by
 refine FnSpec.of_tri' (E:=know _ [] [] [16,19]) (zAl (kc zSi all_nil) all_nil all_nil) Tryz.func218 rfl rfl (by kernel_rfl) ?_
 intro C x hE hnl hfit hpre
 simp only [Tryz.ntmps218,Tryz.results218,maxLen,seval,push_cast] at hnl hfit hpre ⊢
 obtain ⟨(a:List Int),(b:List Int),_⟩:=x
 dsimp only at hfit hpre ⊢
 obtain ⟨ha6,hb6,ha,hb2⟩:=hpre
 repeat' (first|(refine goK (by assumption) ?_; iterate 4 (try clear hK K))|(refine zAb fun K hK=>?_)|(refine zAa hE rfl ?_; simp +contextual only [hnl,↓kA,push_cast,seval,reduceCtorEq,cI])|refine zAd ?_|refine andS ?_|fail)
 refine zAk (fun k:Nat=>AS.of [(0,.one (.val (.sl .int) a)),(1,.one (.val (.sl .int) b)),(5,.one (.ref 15)),(6,.one (.ref 16)),(7,.one (.ref 19)),(8,.I k)] [(15,.deep 38 3 .int (cornK a b k).out),(16,.flat 3 .int (cornK a b k).fr),(19,.flat 3 .int (cornK a b k).to)] []) (fun k=>k≤a.length) (fun k=>a.length - k) 0 (Nat.zero_le _) ?_ ?_
 ·refine zAf ?_ ?_ ?_<;>simp only [push_cast,seval,reduceCtorEq,cI]
  first|exact ⟨.inl rfl,.inl rfl,.inl rfl⟩|skip
 intro k hk K' hL
 have hI:=zKX ha hb2 k hk
 have hnx:cornK a b (k+1)=upto (zBv k) b.length (cornK a b k):=rfl
 repeat' (first|(refine goK (by assumption) ?_; iterate 4 (try clear hK K))|(refine zAb fun K hK=>?_)|((first|refine zAa hE rfl ?_|refine zAi ?_); simp +contextual only [hnl,↓kA,push_cast,seval,reduceCtorEq,cI])|refine zAd ?_|((first|refine zAg ?_|refine zAj ?_); simp only [thenQ,zAh,if_true,if_false,Nat.reduceEqDiff,reduceCtorEq])|(refine zAe (by rfl) (fun hb=>?_) (fun hb=>?_)<;>(try simp only [bq,reduceCtorEq] at hb)<;>(try omega))|fail)
 ·have hk':k<a.length:=by omega
  generalize cornK a b k=s0 at hI hnx ⊢
  refine zAk (fun j:Nat=>AS.of [(0,.one (.val (.sl .int) a)),(1,.one (.val (.sl .int) b)),(5,.one (.ref 15)),(6,.one (.ref 16)),(7,.one (.ref 19)),(8,.I k),(9,.I j)] [(15,.deep 38 3 .int (upto (zBv k) j s0).out),(16,.flat 3 .int (upto (zBv k) j s0).fr),(19,.flat 3 .int (upto (zBv k) j s0).to)] []) (fun j=>j≤b.length) (fun j=>b.length - j) 0 (Nat.zero_le _) ?_ ?_
  ·refine zAf ?_ ?_ ?_<;>simp only [push_cast,seval,reduceCtorEq,cI]
   first|exact ⟨.inl rfl,.inl rfl,.inl rfl⟩|skip
  intro j hj K2 hL2
  have hJ:=CnI.row' hk' hI j hj
  have hjn:upto (zBv k) (j+1) s0=zBv k j (upto (zBv k) j s0):=rfl
  generalize hse:upto (zBv k) j s0=s at hJ hjn ⊢
  have h1:=hJ.l1
  have h2:=hJ.l2
  have h3:=hJ.tab.rows
  have h4:=hJ.tab.cols k hk'
  have h5:=hJ.nn1 k hk'
  have h6:=hJ.nn2 j
  repeat' (first|(refine goK (by assumption) ?_; iterate 4 (try clear hK K))|(refine zAb fun K hK=>?_)|((first|refine zAa hE rfl ?_|((first|refine zAc hE 1 rfl rfl (by kernel_rfl) ?_|refine zAc hE 2 rfl rfl (by kernel_rfl) ?_|refine zAc hE 3 rfl rfl (by kernel_rfl) ?_|refine zAc hE 4 rfl rfl (by kernel_rfl) ?_); simp only [List.length_cons,List.length_nil,Nat.reduceAdd,Nat.reduceSub,List.take_succ_cons,List.take_zero,List.drop_succ_cons,List.drop_zero])); simp +contextual only [hnl,↓kA,push_cast,seval,reduceCtorEq,cI])|refine zAd ?_|((first|refine zAg ?_|refine zAj ?_); simp only [thenQ,zAh,if_true,if_false,Nat.reduceEqDiff,reduceCtorEq])|(refine zAe (by rfl) (fun hb=>?_) (fun hb=>?_)<;>(try simp only [bq,reduceCtorEq] at hb)<;>(try omega))|refine andS ?_|fail)
  ·refine hL2 _ (j+1) (by omega) (by omega) ?_
   refine zAf ?_ ?_ ?_<;>simp only [push_cast,seval,reduceCtorEq,cI]
   rw [hjn]
   exact ⟨.inl rfl,.inl rfl,.inl rfl⟩
  ·obtain rfl:j=b.length:=by omega
   rw [hse] at hnx
   refine hL _ (k+1) (by omega) (by omega) ?_
   refine zAf ?_ ?_ ?_<;>simp only [push_cast,seval,reduceCtorEq,cI]
   rw [hnx]
   exact ⟨.inl rfl,.inl rfl,.inl rfl⟩
 ·obtain rfl:k=a.length:=by omega
  rfl
section
variable {R C:Nat} {m:Int} {s:LL}
variable {c p:List (List Int)}
end
structure LowPre (c p:List (List Int)) (f g:RC):Prop where
 hf:f=.flat 3 .int (flatI f)
 hg:g=.flat 3 .int (flatI g)
 R6:1≤c.length∧c.length≤6
 C6:wid c≤6
 hc:Tb c.length (wid c) 0 1000000 c
 hp:Tb c.length (wid c) 0 200 p
 bnd:LwB (c.length+wid c) 1000 ⟨flatI f,flatI g,-1⟩
abbrev zSl:=List (List Int)×List (List Int)×RC×RC×Unit
@[push_cast] def zZ6:Con:=⟨[.dat (.sl (.sl .int)),.dat (.sl (.sl .int)),.lend,.lend],fun (x:zSl)=>LowPre x.1 x.2.1 x.2.2.1 x.2.2.2.1,
 fun (x:zSl)=>Out.mk [.val .int (lwAll x.1 x.2.1 ⟨flatI x.2.2.1,flatI x.2.2.2.1,-1⟩).last]
  [(0,.flat 3 .int (lwAll x.1 x.2.1 ⟨flatI x.2.2.1,flatI x.2.2.2.1,-1⟩).far),(1,.flat 3 .int (lwAll x.1 x.2.1 ⟨flatI x.2.2.1,flatI x.2.2.2.1,-1⟩).by')] []⟩
section
variable {R:Nat} {c p:List (List Int)} {i j:Nat} {s:LL}
theorem zZ9 (hr:c.length=R) (h1:¬s.far.getD i 0+(c.getD i []).getD j 0<s.far.getD (R+j) 0) (h2:¬(0<(p.getD i []).getD j 0∧s.far.getD (R+j) 0 - (c.getD i []).getD j 0<s.far.getD i 0)):lw2 c p i j s=s:=by
 unfold lw2 Go.LC.lwC
 rw [hr,if_neg h1]
 unfold Go.LC.lwR
 rw [if_neg h2]
theorem yAb (hr:c.length=R) (h1:s.far.getD i 0+(c.getD i []).getD j 0<s.far.getD (R+j) 0) (hi:i<R) (hl:R+j<s.far.length):lw2 c p i j s=⟨s.far.set (R+j) (s.far.getD i 0+(c.getD i []).getD j 0),s.by'.set (R+j) (i:Int),((R+j:Nat):Int)⟩:=by
 unfold lw2 Go.LC.lwC
 rw [hr,if_pos h1]
 unfold Go.LC.lwR
 dsimp only
 rw [zBw hl,zBw hl,if_pos rfl,if_neg (by omega:¬i=R+j),if_neg (by omega)]
theorem yAa (hr:c.length=R) (h1:¬s.far.getD i 0+(c.getD i []).getD j 0<s.far.getD (R+j) 0) (h2:0<(p.getD i []).getD j 0) (h3:s.far.getD (R+j) 0 - (c.getD i []).getD j 0<s.far.getD i 0):lw2 c p i j s=⟨s.far.set i (s.far.getD (R+j) 0 - (c.getD i []).getD j 0),s.by'.set i ((R+j:Nat):Int),(i:Int)⟩:=by
 unfold lw2 Go.LC.lwC
 rw [hr,if_neg h1]
 unfold Go.LC.lwR
 rw [if_pos ⟨h2,h3⟩]
end
set_option maxHeartbeats 2000000 in
theorem zV6:FnSpec Tryz.prog 231 zZ6:=by
 refine FnSpec.of_tri' (E:=know [] [] [] []) (zAl all_nil all_nil all_nil) Tryz.func231 rfl rfl (by kernel_rfl) ?_
 intro C x hE hnl hfit hpre
 simp only [Tryz.ntmps231,Tryz.results231,maxLen,seval,push_cast] at hnl hfit hpre ⊢
 obtain ⟨(c:List (List Int)),(p:List (List Int)),(rc1:RC),(rc2:RC),_⟩:=x
 dsimp only at hfit hpre ⊢
 obtain ⟨h1,h2,h3,h4,h5,h6,h7⟩:=hpre
 generalize flatI rc1=fa at *
 generalize flatI rc2=by0 at *
 subst h1
 subst h2
 have hpr:=h6.rows
 repeat' (first|(refine goK (by assumption) ?_; iterate 4 (try clear hK K))|(refine zAb fun K hK=>?_)|(refine zAa hE rfl ?_; simp +contextual only [hnl,↓kA,push_cast,seval,reduceCtorEq,cI])|refine zAd ?_|fail)
 refine zAk (fun i:Nat=>AS.of [(0,.one (.val (.sl (.sl .int)) c)),(1,.one (.val (.sl (.sl .int)) p)),(2,.one (.ref 0)),(3,.one (.ref 1)),(9,.I (upto (lwRow c p) i ⟨fa,by0,-1⟩).last),(10,.I i)] [(0,.flat 3 .int (upto (lwRow c p) i ⟨fa,by0,-1⟩).far),(1,.flat 3 .int (upto (lwRow c p) i ⟨fa,by0,-1⟩).by')] []) (fun i=>i≤c.length) (fun i=>c.length - i) 0 (Nat.zero_le _) ?_ ?_
 ·refine zAf ?_ ?_ ?_<;>simp only [push_cast,seval,reduceCtorEq,cI]
  ·rfl
  ·exact ⟨.inl rfl,.inl rfl⟩
 intro i hi K' hL
 repeat' (first|(refine goK (by assumption) ?_; iterate 4 (try clear hK K))|(refine zAb fun K hK=>?_)|((first|refine zAa hE rfl ?_|refine zAi ?_); simp +contextual only [hnl,↓kA,push_cast,seval,reduceCtorEq,cI])|refine zAd ?_|((first|refine zAg ?_|refine zAj ?_); simp only [thenQ,zAh,if_true,if_false,Nat.reduceEqDiff,reduceCtorEq])|(refine zAe (by rfl) (fun hb=>?_) (fun hb=>?_)<;>(try simp only [bq,reduceCtorEq] at hb)<;>(try omega))|fail)
 ·have hi':i<c.length:=by omega
  have hci:=h5.cols i hi'
  have hpi:=h6.cols i hi'
  have hQ:=LwB.tab (p:=p) h5 h4 h7 i (by omega)
  have hQn:upto (lwRow c p) (i+1) ⟨fa,by0,-1⟩=upto (lw2 c p i) (c.getD i []).length (upto (lwRow c p) i ⟨fa,by0,-1⟩):=rfl
  generalize upto (lwRow c p) i ⟨fa,by0,-1⟩=s1 at hQ hQn ⊢
  refine zAk (fun j:Nat=>AS.of [(0,.one (.val (.sl (.sl .int)) c)),(1,.one (.val (.sl (.sl .int)) p)),(2,.one (.ref 0)),(3,.one (.ref 1)),(9,.I (upto (lw2 c p i) j s1).last),(10,.I i),(11,.I j)] [(0,.flat 3 .int (upto (lw2 c p i) j s1).far),(1,.flat 3 .int (upto (lw2 c p i) j s1).by')] []) (fun j=>j≤wid c) (fun j=>wid c - j) 0 (Nat.zero_le _) ?_ ?_
  ·refine zAf ?_ ?_ ?_<;>simp only [push_cast,seval,reduceCtorEq,cI]
   ·rfl
   ·exact ⟨.inl rfl,.inl rfl⟩
  intro j hj K2 hL2
  have hF:=LwB.row (p:=p) h5 hQ hi' j hj
  have hFn:upto (lw2 c p i) (j+1) s1=lw2 c p i j (upto (lw2 c p i) j s1):=rfl
  generalize hs2:upto (lw2 c p i) j s1=s2 at hF hFn ⊢
  have g1:=hF.l1
  have g2:=hF.l2
  have g3:=hF.bnd i (by omega)
  rcases Nat.lt_or_ge j (wid c) with hjb|hjb
  ·have g4:=hF.bnd (c.length+j) (by omega)
   have g5:=h5.at' i j hi' hjb
   have g6:((c.length:Int)+(j:Int)).toNat=c.length+j:=by omega
   have g7:∀ x:Int,(s2.far.set (c.length+j) x).getD (c.length+j) 0=x:=fun x=>by rw [zBw (by omega),if_pos rfl]
   have g8:∀ x:Int,(s2.far.set (c.length+j) x).getD i 0=s2.far.getD i 0:=fun x=>by rw [zBw (by omega),if_neg (by omega)]
   have g9:∀ x:Int,(s2.far.set (c.length+j) x).length=s2.far.length:=fun x=>List.length_set
   have g10:∀ x:Int,(s2.by'.set (c.length+j) x).length=s2.by'.length:=fun x=>List.length_set
   replace hnl:=And.intro hnl (And.intro g6 (And.intro g7 (And.intro g8 (And.intro g9 g10))))
   repeat' (first|(refine goK (by assumption) ?_; iterate 4 (try clear hK K))|(refine zAb fun K hK=>?_)|((first|refine zAa hE rfl ?_|((first|refine zAc hE 1 rfl rfl (by kernel_rfl) ?_|refine zAc hE 2 rfl rfl (by kernel_rfl) ?_|refine zAc hE 3 rfl rfl (by kernel_rfl) ?_|refine zAc hE 4 rfl rfl (by kernel_rfl) ?_); simp only [List.length_cons,List.length_nil,Nat.reduceAdd,Nat.reduceSub,List.take_succ_cons,List.take_zero,List.drop_succ_cons,List.drop_zero])); simp +contextual only [hnl,↓kA,push_cast,seval,reduceCtorEq,cI])|refine zAd ?_|(refine zAg ?_; simp only [thenQ,zAh,if_true,if_false,Nat.reduceEqDiff,reduceCtorEq])|(refine zAe (by rfl) (fun hb=>?_) (fun hb=>?_)<;>(try simp only [bq,reduceCtorEq] at hb)<;>(try omega))|refine andS ?_|(refine ⟨fun hc=>?_,fun hc=>?_⟩)|fail)
   all_goals refine hL2 _ (j+1) (by omega) (by omega) ?_
   all_goals refine zAf ?_ ?_ ?_<;>simp only [push_cast,seval,reduceCtorEq,cI]
   all_goals rw [hFn]
   all_goals first|rw [yAb rfl (by omega) (by omega) (by omega)]|rw [yAa rfl (by omega) (by omega) (by omega)]|rw [zZ9 rfl (by omega) (by omega)]
   all_goals first|exact ⟨.inl rfl,.inl rfl⟩|rfl|(dsimp only; omega)
  ·repeat' (first|(refine goK (by assumption) ?_; iterate 4 (try clear hK K))|(refine zAb fun K hK=>?_)|(refine zAa hE rfl ?_; simp +contextual only [hnl,↓kA,push_cast,seval,reduceCtorEq,cI])|(refine zAj ?_; simp only [thenQ,zAh,if_true,if_false,Nat.reduceEqDiff,reduceCtorEq])|(refine zAe (by rfl) (fun hb=>?_) (fun hb=>?_)<;>(try simp only [bq,reduceCtorEq] at hb)<;>(try omega))|refine andS ?_|fail)
   obtain rfl:j=(c.getD i []).length:=by omega
   rw [hs2] at hQn
   refine hL _ (i+1) (by omega) (by omega) ?_
   refine zAf ?_ ?_ ?_<;>simp only [push_cast,seval,reduceCtorEq,cI]
   ·rw [hQn]
   ·rw [hQn]
    exact ⟨.inl rfl,.inl rfl⟩
 ·obtain rfl:i=c.length:=by omega
  first|rfl|exact ⟨rfl,rfl,rfl⟩|skip
end Go.Proofs.YtekfodeknpnkbaaGreatDoor
namespace Go.Proofs.YtekfodeknpnkbaaGreatDoor
open Go.RowKit Go.VS Go.OT Go.LC
structure ImpPre (c:List (List Int)) (rc:RC):Prop where
 hrc:rc=.deep 38 3 .int (deepJ rc)
 ex:∃ a b:List Int,MQ a b c∧Pl a b (deepJ rc)
 cols:wid c≤6
abbrev zSk:=List (List Int)×RC×Unit
def impL (c p:List (List Int)):Bool:=decide (0≤(lwN c p (c.length+wid c)).last)
@[push_cast] def zZR:Con:=⟨[.dat (.sl (.sl .int)),.lend],fun (x:zSk)=>ImpPre x.1 x.2.1,
 fun (x:zSk)=>Out.mk [.own (.flat 3 .int (if impL x.1 (deepJ x.2.1)=true then [] else (lwN x.1 (deepJ x.2.1) (x.1.length+wid x.1)).far)),.val .bool (impL x.1 (deepJ x.2.1))]
  [(0,.deep 38 3 .int (if impL x.1 (deepJ x.2.1)=true then impV x.1 (deepJ x.2.1) (x.1.length+wid x.1) else deepJ x.2.1))] []⟩
theorem MQ.dims {a b:List Int} {c:List (List Int)} (h:MQ a b c):c.length=a.length∧wid c=b.length:=by
 have h1:=h.hc.rows
 have h2:=h.a5
 exact ⟨h1,h.hc.cols 0 (by omega)⟩
theorem zYm {a b:List Int} {c p:List (List Int)} (hq:MQ a b c) (hp:Pl a b p) (k:Nat) (hk:k≤c.length+wid c):LowPre c p (.flat 3 .int (lwK c p (c.length+wid c) k).far) (.flat 3 .int (lwK c p (c.length+wid c) k).by'):=by
 obtain ⟨d1,d2⟩:=MQ.dims hq
 have sim:=zGn (q:=p) hq.hc hq.a5 hq.b5.2 k
 have h5:=hq.a5
 have h6:=hq.b5
 rw [←d1,←d2] at sim
 refine ⟨by rw [zA1],by rw [zA1],by omega,by omega,by rw [d1,d2]; exact hq.hc,by rw [d1,d2]; exact hp.tab,?_⟩
 rw [zA1,zA1]
 exact ⟨sim.l1,sim.l2,fun v hv=>by have h7:=sim.bnd v hv; dsimp only; omega⟩
theorem zWc (c p:List (List Int)) (N k:Nat):lwAll c p ⟨(lwK c p N k).far,(lwK c p N k).by',-1⟩=lwK c p N (k+1):=rfl
theorem zZS {a b:List Int} {c p:List (List Int)} (hq:MQ a b c) (hp:Pl a b p) (h:¬(lwN c p (c.length+wid c)).last<0) :
 (lwN c p (c.length+wid c)).last.toNat<c.length+wid c∧(∀ v,v<c.length+wid c→(lwN c p (c.length+wid c)).by'.getD v 0=((byF (lwN c p (c.length+wid c)).by' v:Nat):Int)∧byF (lwN c p (c.length+wid c)).by' v<c.length+wid c) ∧
 Rd c p (c.length+wid c) (byF (lwN c p (c.length+wid c)).by') (lwN c p (c.length+wid c)).by' (rx c p (c.length+wid c)) (rp c p (c.length+wid c)):=by
 obtain ⟨d1,d2⟩:=MQ.dims hq
 have himp:=zFK hq hp
 have sim:=zGn (q:=p) hq.hc hq.a5 hq.b5.2 (a.length+b.length)
 rw [←d1,←d2] at himp sim
 obtain ⟨h1,h2,h3⟩:=himp.2 h
 have hL:lwN c p (c.length+wid c)=lwK c p (c.length+wid c) (c.length+wid c):=rfl
 rw [←hL] at sim
 have hby:∀ v,v<c.length+wid c→(lwN c p (c.length+wid c)).by'.getD v 0=((byF (lwN c p (c.length+wid c)).by' v:Nat):Int)∧byF (lwN c p (c.length+wid c)).by' v<c.length+wid c:=fun v hv=>by
  have k1:=sim.b v hv
  have k2:=sim.bl v hv
  unfold byF
  omega
 have hlt:∀ m,it (byF (lwN c p (c.length+wid c)).by') m (rx c p (c.length+wid c))<c.length+wid c:=by
  intro m
  induction m with
  | zero=>exact h2
  | succ m ih=>exact (hby _ ih).2
 exact ⟨h1,hby,hby,hlt,h3,zMN _ _ (fun m=>it (byF (lwN c p (c.length+wid c)).by') m (rx c p (c.length+wid c))) (fun m _=>hlt m) (fun i j hij hj=>h3.inj hij hj)⟩
set_option maxHeartbeats 4000000 in
theorem zVP:FnSpec Tryz.prog 219 zZR:=by
 refine FnSpec.of_tri' (E:=know _ [] [] [25,27]) (zAl (kc zV6 all_nil) all_nil all_nil) Tryz.func219 rfl rfl (by kernel_rfl) ?_
 intro C x hE hnl hfit hpre
 simp only [Tryz.ntmps219,Tryz.results219,maxLen,seval,push_cast] at hnl hfit hpre ⊢
 obtain ⟨(c:List (List Int)),(rc:RC),_⟩:=x
 dsimp only at hfit hpre ⊢
 obtain ⟨h1,⟨a,b,hq,hp⟩,hw6⟩:=hpre
 generalize deepJ rc=p at *
 subst h1
 obtain ⟨d1,d2⟩:=MQ.dims hq
 have ha5:=hq.a5
 have hb5:=hq.b5
 have hw:(c.getD 0 []).length=wid c:=rfl
 have himp:=zFK hq hp
 rw [←d1,←d2] at himp
 have hL0:impL c p=decide (0≤(lwN c p (c.length+wid c)).last):=rfl
 replace hnl:=And.intro hnl hw
 repeat' (first|(refine goK (by assumption) ?_; iterate 4 (try clear hK K))|(refine zAb fun K hK=>?_)|((first|refine zAa hE rfl ?_|((first|refine zAc hE 1 rfl rfl (by kernel_rfl) ?_|refine zAc hE 2 rfl rfl (by kernel_rfl) ?_|refine zAc hE 3 rfl rfl (by kernel_rfl) ?_|refine zAc hE 4 rfl rfl (by kernel_rfl) ?_); simp only [List.length_cons,List.length_nil,Nat.reduceAdd,Nat.reduceSub,List.take_succ_cons,List.take_zero,List.drop_succ_cons,List.drop_zero])); simp +contextual only [hnl,↓kA,push_cast,seval,reduceCtorEq,cI])|refine zAd ?_|refine andS ?_|fail)
 refine zC7 7 25 25 (by simp only [push_cast,seval,reduceCtorEq,cI]; rfl) (by omega) ?_
 refine zC7 8 27 27 (by simp only [push_cast,seval,reduceCtorEq,cI]; rfl) (by omega) ?_
 refine zAk (fun k:Nat=>AS.of [(0,.one (.val (.sl (.sl .int)) c)),(1,.one (.ref 0)),(6,.I ((c.length:Int)+(wid c:Int))),(7,.one (.ref 25)),(8,.one (.ref 27)),(9,.I (lwK c p (c.length+wid c) k).last),(10,.I k)]
  [(0,.deep 38 3 .int p),(25,.flat 3 .int (lwK c p (c.length+wid c) k).far),(27,.flat 3 .int (lwK c p (c.length+wid c) k).by')] []) (fun k=>k≤c.length+wid c) (fun k=>c.length+wid c - k) 0 (Nat.zero_le _) ?_ ?_
 ·refine zAf ?_ ?_ ?_<;>simp only [push_cast,seval,reduceCtorEq,cI]
  ·rfl
  ·have hN:((c.length:Int)+(wid c:Int)).toNat=c.length+wid c:=by omega
   rw [hN]
   exact ⟨.inl rfl,.inl rfl⟩
 intro k hk K' hL
 have hlow:=zYm hq hp k hk
 have hnx:=zWc c p (c.length+wid c) k
 replace hnl:=And.intro hnl hnx
 repeat' (first|(refine goK (by assumption) ?_; iterate 4 (try clear hK K))|(refine zAb fun K hK=>?_)|((first|refine zAa hE rfl ?_|refine zAi ?_); simp +contextual only [hnl,↓kA,push_cast,seval,reduceCtorEq,cI])|refine zAd ?_|((first|refine zAg ?_|refine zAj ?_); simp only [thenQ,zAh,if_true,if_false,Nat.reduceEqDiff,reduceCtorEq])|(refine zAe (by rfl) (fun hb=>?_) (fun hb=>?_)<;>(try simp only [bq,reduceCtorEq] at hb)<;>(try omega))|refine andS ?_|fail)
 ·refine hL _ (k+1) (by omega) (by omega) ?_
  refine zAf ?_ ?_ ?_<;>simp only [push_cast,seval,reduceCtorEq,cI]
  all_goals first|exact ⟨.inl rfl,.inl rfl⟩|rfl
 ·obtain rfl:k=c.length+wid c:=by omega
  have hLN:lwK c p (c.length+wid c) (c.length+wid c)=lwN c p (c.length+wid c):=rfl
  rw [hLN] at hb ⊢
  have hi:impL c p=false:=decide_eq_false (by omega)
  rw [hi]
  exact ⟨⟨rfl,rfl⟩,rfl⟩
 obtain rfl:k=c.length+wid c:=by omega
 have hLN:lwK c p (c.length+wid c) (c.length+wid c)=lwN c p (c.length+wid c):=rfl
 rw [hLN] at hb ⊢
 have hi:impL c p=true:=decide_eq_true (by omega)
 rw [hi]
 obtain ⟨r1,r2,r3⟩:=zZS hq hp hb
 obtain ⟨k1,k2,k3,k4⟩:=hp.turn hq.hb (by rw [←d1,←d2]; exact r3.rnd)
 rw [←d1] at k1 k2
 have hV:impV c p (c.length+wid c)=turnK c.length p (byF (lwN c p (c.length+wid c)).by') (rx c p (c.length+wid c)) (rl c p (c.length+wid c)) (rp c p (c.length+wid c)):=rfl
 have hrl:rl c p (c.length+wid c)=zBd c.length p (byF (lwN c p (c.length+wid c)).by') (rx c p (c.length+wid c)) (rp c p (c.length+wid c)):=rfl
 have hrx:rx c p (c.length+wid c)=it (byF (lwN c p (c.length+wid c)).by') (c.length+wid c) (lwN c p (c.length+wid c)).last.toNat:=rfl
 rw [←hrl] at k1 k2
 have hbl:(lwN c p (c.length+wid c)).by'.length=c.length+wid c:=(zGn (q:=p) (R:=c.length) (C:=wid c) (by rw [d1,d2]; exact hq.hc) (by omega) (by omega) (c.length+wid c)).l2
 have hl0:(lwN c p (c.length+wid c)).last=(((lwN c p (c.length+wid c)).last.toNat:Nat):Int):=by omega
 generalize rl c p (c.length+wid c)=l at *
 generalize rp c p (c.length+wid c)=P at *
 clear hL hnx hlow
 rw [hl0]
 clear hl0 hLN himp hL0
 generalize (lwN c p (c.length+wid c)).far=fr0 at *
 generalize (lwN c p (c.length+wid c)).last.toNat=v0 at *
 generalize (lwN c p (c.length+wid c)).by'=by0 at *
 generalize byF by0=f at *
 have hv0:∀ m,it f m v0<c.length+wid c:=by
  intro m
  induction m with
  | zero=>exact r1
  | succ m ih=>exact (r2 _ ih).2
 refine zAk (fun k:Nat=>AS.of [(0,.one (.val (.sl (.sl .int)) c)),(1,.one (.ref 0)),(6,.I ((c.length:Int)+(wid c:Int))),(8,.one (.ref 27)),(9,.I ((it f k v0:Nat):Int)),(11,.I k)]
  [(0,.deep 38 3 .int p),(27,.flat 3 .int by0)] []) (fun k=>k≤c.length+wid c) (fun k=>c.length+wid c - k) 0 (Nat.zero_le _) ?_ ?_
 ·refine zAf ?_ ?_ ?_<;>simp only [push_cast,seval,reduceCtorEq,cI]
  all_goals first|rfl|skip
 intro k hk K2 hL2
 have hvk:=hv0 k
 have hnx2:by0.getD (it f k v0) 0=((it f (k+1) v0:Nat):Int):=(r2 _ hvk).1
 replace hnl:=And.intro hnl hnx2
 repeat' (first|(refine goK (by assumption) ?_; iterate 4 (try clear hK K))|(refine zAb fun K hK=>?_)|(refine zAa hE rfl ?_; simp +contextual only [hnl,↓kA,push_cast,seval,reduceCtorEq,cI])|refine zAd ?_|((first|refine zAg ?_|refine zAj ?_); simp only [thenQ,zAh,if_true,if_false,Nat.reduceEqDiff,reduceCtorEq])|(refine zAe (by rfl) (fun hb=>?_) (fun hb=>?_)<;>(try simp only [bq,reduceCtorEq] at hb)<;>(try omega))|refine andS ?_|fail)
 ·refine hL2 _ (k+1) (by omega) (by omega) ?_
  refine zAf ?_ ?_ ?_<;>simp only [push_cast,seval,reduceCtorEq,cI]
  all_goals first|rfl|skip
 obtain rfl:k=c.length+wid c:=by omega
 rw [←hrx]
 clear hnx2 hvk hL2 hrx
 generalize rx c p (c.length+wid c)=x at *
 have hpl:=hp.tab.rows
 refine zAk (fun m:Nat=>AS.of [(0,.one (.val (.sl (.sl .int)) c)),(1,.one (.ref 0)),(8,.one (.ref 27)),(9,.I ((it f m x:Nat):Int)),(12,.I x),(13,.I (zBd c.length p f x m)),(14,.one (.val .bool (decide (m=0))))]
  [(0,.deep 38 3 .int p),(27,.flat 3 .int by0)] []) (fun m=>m≤P) (fun m=>P - m) 0 (Nat.zero_le _) ?_ ?_
 ·refine zAf ?_ ?_ ?_<;>simp only [push_cast,seval,reduceCtorEq,cI]
  exact ⟨rfl,rfl⟩
 intro m hm K3 hL3
 have hnx:=r3.next m
 have hvm:=r3.lt m
 have hs:=zDF r3.rnd m
 rcases Nat.lt_or_ge m P with hmP|hmP
 ·have hne:m≠0→it f m x≠x:=fun h=>r3.rnd.first m (by omega) hmP
  rcases hs with hs|hs
  ·obtain ⟨i,j,hi,hj,s1,s2⟩:=hs
   have hls:zBd c.length p f x (m+1)=zBd c.length p f x m:=if_neg (by omega)
   have tp:0≤gt p i j∧gt p i j≤200:=hp.tab.at' i j (by omega) (by omega)
   unfold gt at tp
   have tpr:=hp.tab.cols i (by omega)
   rw [s1] at hnx hne ⊢
   rw [s2] at hnx
   have hsub:(c.length:Int)+(j:Int) - (c.length:Int)=(j:Int):=by omega
   have hsum:((c.length:Int)+(j:Int)).toNat=c.length+j:=by omega
   have hcast:((c.length+j:Nat):Int)=(c.length:Int)+(j:Int):=by omega
   have hlt:¬(c.length:Int)+(j:Int)<(c.length:Int):=by omega
   by_cases hm0:m=0
   ·subst hm0
    replace hnl:=And.intro hnl (And.intro hnx (And.intro hsub hsum))
    repeat' (first|(refine goK (by assumption) ?_; iterate 4 (try clear hK K))|(refine zAb fun K hK=>?_)|(refine zAa hE rfl ?_; simp +contextual only [hnl,↓kA,push_cast,seval,reduceCtorEq,cI])|refine zAd ?_|(refine zAg ?_; simp only [thenQ,zAh,if_true,if_false,Nat.reduceEqDiff,reduceCtorEq])|(refine zAe (by rfl) (fun hb=>?_) (fun hb=>?_)<;>(try simp only [bq,reduceCtorEq] at hb)<;>(try omega))|refine andS ?_|fail)
    all_goals refine hL3 _ (0+1) (by omega) (by omega) ?_
    all_goals refine zAf ?_ ?_ ?_<;>simp only [push_cast,seval,reduceCtorEq,cI]
    all_goals exact ⟨by rw [s2],by rw [hls]⟩
   ·have hne2:=hne hm0
    have hne3:¬(c.length:Int)+(j:Int)=(x:Int):=by omega
    replace hnl:=And.intro hnl (And.intro (eq_false hm0) (And.intro (eq_false hne3) (And.intro hnx (And.intro hsub hsum))))
    repeat' (first|(refine goK (by assumption) ?_; iterate 4 (try clear hK K))|(refine zAb fun K hK=>?_)|(refine zAa hE rfl ?_; simp +contextual only [hnl,↓kA,push_cast,seval,reduceCtorEq,cI])|refine zAd ?_|(refine zAg ?_; simp only [thenQ,zAh,if_true,if_false,Nat.reduceEqDiff,reduceCtorEq])|(refine zAe (by rfl) (fun hb=>?_) (fun hb=>?_)<;>(try simp only [bq,reduceCtorEq] at hb)<;>(try omega))|refine andS ?_|fail)
    all_goals refine hL3 _ (m+1) (by omega) (by omega) ?_
    all_goals refine zAf ?_ ?_ ?_<;>simp only [push_cast,seval,reduceCtorEq,cI]
    all_goals exact ⟨by rw [s2],by rw [hls]⟩
  ·obtain ⟨i,j,hi,hj,h0,s1,s2⟩:=hs
   have hls:zBd c.length p f x (m+1)=if zBd c.length p f x m<0∨(p.getD i []).getD j 0<zBd c.length p f x m then (p.getD i []).getD j 0 else zBd c.length p f x m:=by
    have e:f (it f m x) - c.length=j:=by
     have:f (it f m x)=c.length+j:=s2
     omega
    have e2:zBd c.length p f x (m+1)=if it f m x<c.length then (if zBd c.length p f x m<0∨(p.getD (it f m x) []).getD (f (it f m x) - c.length) 0<zBd c.length p f x m then (p.getD (it f m x) []).getD (f (it f m x) - c.length) 0 else zBd c.length p f x m) else zBd c.length p f x m:=rfl
    rw [e2,if_pos (by omega),e,s1]
   have tp:0≤gt p i j∧gt p i j≤200:=hp.tab.at' i j (by omega) (by omega)
   unfold gt at tp
   have tpr:=hp.tab.cols i (by omega)
   rw [s1] at hnx hne ⊢
   rw [s2] at hnx
   have hsub:(c.length:Int)+(j:Int) - (c.length:Int)=(j:Int):=by omega
   have hsum:((c.length:Int)+(j:Int)).toNat=c.length+j:=by omega
   have hcast:((c.length+j:Nat):Int)=(c.length:Int)+(j:Int):=by omega
   by_cases hm0:m=0
   ·subst hm0
    replace hnl:=And.intro hnl (And.intro hnx (And.intro hsub hsum))
    repeat' (first|(refine goK (by assumption) ?_; iterate 4 (try clear hK K))|(refine zAb fun K hK=>?_)|((first|refine zAa hE rfl ?_|((first|refine zAc hE 1 rfl rfl (by kernel_rfl) ?_|refine zAc hE 2 rfl rfl (by kernel_rfl) ?_|refine zAc hE 3 rfl rfl (by kernel_rfl) ?_|refine zAc hE 4 rfl rfl (by kernel_rfl) ?_); simp only [List.length_cons,List.length_nil,Nat.reduceAdd,Nat.reduceSub,List.take_succ_cons,List.take_zero,List.drop_succ_cons,List.drop_zero])); simp +contextual only [hnl,↓kA,push_cast,seval,reduceCtorEq,cI])|refine zAd ?_|(refine zAg ?_; simp only [thenQ,zAh,if_true,if_false,Nat.reduceEqDiff,reduceCtorEq])|(refine zAe (by rfl) (fun hb=>?_) (fun hb=>?_)<;>(try simp only [bq,reduceCtorEq] at hb)<;>(try omega))|refine andS ?_|(refine ⟨fun hc=>?_,fun hc=>?_⟩)|fail)
    all_goals refine hL3 _ (0+1) (by omega) (by omega) ?_
    all_goals refine zAf ?_ ?_ ?_<;>simp only [push_cast,seval,reduceCtorEq,cI]
    all_goals exact ⟨by rw [s2]; exact hcast.symm,by rw [hls]; first|rw [if_pos (by omega)]|rw [if_neg (by omega)]⟩
   ·have hne2:=hne hm0
    have hne3:¬(i:Int)=(x:Int):=by omega
    replace hnl:=And.intro hnl (And.intro (eq_false hm0) (And.intro (eq_false hne3) (And.intro hnx (And.intro hsub hsum))))
    repeat' (first|(refine goK (by assumption) ?_; iterate 4 (try clear hK K))|(refine zAb fun K hK=>?_)|((first|refine zAa hE rfl ?_|((first|refine zAc hE 1 rfl rfl (by kernel_rfl) ?_|refine zAc hE 2 rfl rfl (by kernel_rfl) ?_|refine zAc hE 3 rfl rfl (by kernel_rfl) ?_|refine zAc hE 4 rfl rfl (by kernel_rfl) ?_); simp only [List.length_cons,List.length_nil,Nat.reduceAdd,Nat.reduceSub,List.take_succ_cons,List.take_zero,List.drop_succ_cons,List.drop_zero])); simp +contextual only [hnl,↓kA,push_cast,seval,reduceCtorEq,cI])|refine zAd ?_|(refine zAg ?_; simp only [thenQ,zAh,if_true,if_false,Nat.reduceEqDiff,reduceCtorEq])|(refine zAe (by rfl) (fun hb=>?_) (fun hb=>?_)<;>(try simp only [bq,reduceCtorEq] at hb)<;>(try omega))|refine andS ?_|(refine ⟨fun hc=>?_,fun hc=>?_⟩)|fail)
    all_goals refine hL3 _ (m+1) (by omega) (by omega) ?_
    all_goals refine zAf ?_ ?_ ?_<;>simp only [push_cast,seval,reduceCtorEq,cI]
    all_goals exact ⟨by rw [s2]; exact hcast.symm,by rw [hls]; first|rw [if_pos (by omega)]|rw [if_neg (by omega)]⟩
 obtain rfl:m=P:=by omega
 have hbk:=r3.rnd.back
 have hp1:¬m=0:=by have:=r3.rnd.pos; omega
 replace hnl:=And.intro hnl (And.intro hbk (eq_false hp1))
 repeat' (first|(refine goK (by assumption) ?_; iterate 4 (try clear hK K))|(refine zAb fun K hK=>?_)|(refine zAa hE rfl ?_; simp +contextual only [hnl,↓kA,push_cast,seval,reduceCtorEq,cI])|refine zAd ?_|(refine zAj ?_; simp only [thenQ,zAh,if_true,if_false,Nat.reduceEqDiff,reduceCtorEq])|(refine zAe (by rfl) (fun hb=>?_) (fun hb=>?_)<;>(try simp only [bq,reduceCtorEq] at hb)<;>(try omega))|fail)
 rw [←hrl]
 clear hL3 hnx hvm hs hbk hm hmP
 have hsz:Sz c.length (wid c) p:=by rw [d1,d2]; exact hp.tab.sz
 have hP12:m≤12:=by have:=r3.le; omega
 refine zAk (fun k:Nat=>AS.of [(0,.one (.val (.sl (.sl .int)) c)),(1,.one (.ref 0)),(8,.one (.ref 27)),(9,.I ((it f k x:Nat):Int)),(12,.I x),(13,.I l),(16,.one (.val .bool (decide (k=0))))]
  [(0,.deep 38 3 .int (turnK c.length p f x l k)),(27,.flat 3 .int by0)] []) (fun k=>k≤m) (fun k=>m - k) 0 (Nat.zero_le _) ?_ ?_
 ·refine zAf ?_ ?_ ?_<;>simp only [push_cast,seval,reduceCtorEq,cI]
  ·rfl
  ·exact .inl rfl
 intro k hk K4 hL4
 have hnx:=r3.next k
 have hvm:=r3.lt k
 have hs:=zDF r3.rnd k
 have hT:=zUV r3.rnd hsz (l:=l) (by omega) k hk
 have hlm:0≤l*(k:Int)∧l*(k:Int)≤2400:=⟨Int.mul_nonneg (by omega) (by omega),by have:=Int.mul_le_mul (show l≤200 by omega) (show (k:Int)≤12 by omega) (by omega) (by omega); omega⟩
 rcases Nat.lt_or_ge k m with hmP|hmP
 ·have hne:k≠0→it f k x≠x:=fun h=>r3.rnd.first k (by omega) hmP
  rcases hs with hs|hs
  ·obtain ⟨i,j,hi,hj,s1,s2⟩:=hs
   have hls:turnK c.length p f x l (k+1)=Go.OT.addAt (turnK c.length p f x l k) i j l:=by
    have e:f (it f k x)=i:=s2
    have e2:turnK c.length p f x l (k+1)=if it f k x<c.length then Go.OT.addAt (turnK c.length p f x l k) (it f k x) (f (it f k x) - c.length) (-l) else Go.OT.addAt (turnK c.length p f x l k) (f (it f k x)) (it f k x - c.length) l:=rfl
    rw [e2,if_neg (by omega),e,show it f k x - c.length=j by omega]
   generalize turnK c.length p f x l k=q at hT hls ⊢
   have t1:=hT.sz.rows
   have t2:=hT.sz.cols i hi
   have t3:_≤(q.getD i []).getD j 0∧(q.getD i []).getD j 0≤_:=hT.near i j hi hj
   have tp:0≤gt p i j∧gt p i j≤200:=hp.tab.at' i j (by omega) (by omega)
   unfold gt at tp
   unfold gt at t3
   have tpr:=hp.tab.cols i (by omega)
   rw [s1] at hnx hne ⊢
   rw [s2] at hnx
   have hsub:(c.length:Int)+(j:Int) - (c.length:Int)=(j:Int):=by omega
   have hsum:((c.length:Int)+(j:Int)).toNat=c.length+j:=by omega
   have hcast:((c.length+j:Nat):Int)=(c.length:Int)+(j:Int):=by omega
   have hlt:¬(c.length:Int)+(j:Int)<(c.length:Int):=by omega
   by_cases hk0:k=0
   ·subst hk0
    replace hnl:=And.intro hnl (And.intro hnx (And.intro hsub hsum))
    repeat' (first|(refine goK (by assumption) ?_; iterate 4 (try clear hK K))|(refine zAb fun K hK=>?_)|(refine zAa hE rfl ?_; simp +contextual only [hnl,↓kA,push_cast,seval,reduceCtorEq,cI])|refine zAd ?_|(refine zAg ?_; simp only [thenQ,zAh,if_true,if_false,Nat.reduceEqDiff,reduceCtorEq])|(refine zAe (by rfl) (fun hb=>?_) (fun hb=>?_)<;>(try simp only [bq,reduceCtorEq] at hb)<;>(try omega))|refine andS ?_|fail)
    refine hL4 _ (0+1) (by omega) (by omega) ?_
    refine zAf ?_ ?_ ?_<;>simp only [push_cast,seval,reduceCtorEq,cI]
    ·exact congrArg (fun z:Nat=>((z:Nat):Int)) s2.symm
    ·exact .inl (congrArg (RC.deep 38 3 .int) hls.symm)
   ·have hne2:=hne hk0
    have hne3:¬(c.length:Int)+(j:Int)=(x:Int):=by omega
    replace hnl:=And.intro hnl (And.intro (eq_false hk0) (And.intro (eq_false hne3) (And.intro hnx (And.intro hsub hsum))))
    repeat' (first|(refine goK (by assumption) ?_; iterate 4 (try clear hK K))|(refine zAb fun K hK=>?_)|(refine zAa hE rfl ?_; simp +contextual only [hnl,↓kA,push_cast,seval,reduceCtorEq,cI])|refine zAd ?_|(refine zAg ?_; simp only [thenQ,zAh,if_true,if_false,Nat.reduceEqDiff,reduceCtorEq])|(refine zAe (by rfl) (fun hb=>?_) (fun hb=>?_)<;>(try simp only [bq,reduceCtorEq] at hb)<;>(try omega))|refine andS ?_|fail)
    refine hL4 _ (k+1) (by omega) (by omega) ?_
    refine zAf ?_ ?_ ?_<;>simp only [push_cast,seval,reduceCtorEq,cI]
    ·exact congrArg (fun z:Nat=>((z:Nat):Int)) s2.symm
    ·exact .inl (congrArg (RC.deep 38 3 .int) hls.symm)
  ·obtain ⟨i,j,hi,hj,h0,s1,s2⟩:=hs
   have hls:turnK c.length p f x l (k+1)=Go.OT.addAt (turnK c.length p f x l k) i j (-l):=by
    have e:f (it f k x) - c.length=j:=by
     have:f (it f k x)=c.length+j:=s2
     omega
    have e2:turnK c.length p f x l (k+1)=if it f k x<c.length then Go.OT.addAt (turnK c.length p f x l k) (it f k x) (f (it f k x) - c.length) (-l) else Go.OT.addAt (turnK c.length p f x l k) (f (it f k x)) (it f k x - c.length) l:=rfl
    rw [e2,if_pos (by omega),e,s1]
   generalize turnK c.length p f x l k=q at hT hls ⊢
   have t1:=hT.sz.rows
   have t2:=hT.sz.cols i hi
   have t3:_≤(q.getD i []).getD j 0∧(q.getD i []).getD j 0≤_:=hT.near i j hi hj
   have tp:0≤gt p i j∧gt p i j≤200:=hp.tab.at' i j (by omega) (by omega)
   unfold gt at tp
   unfold gt at t3
   have tpr:=hp.tab.cols i (by omega)
   rw [s1] at hnx hne ⊢
   rw [s2] at hnx
   have hsub:(c.length:Int)+(j:Int) - (c.length:Int)=(j:Int):=by omega
   have hsum:((c.length:Int)+(j:Int)).toNat=c.length+j:=by omega
   have hcast:((c.length+j:Nat):Int)=(c.length:Int)+(j:Int):=by omega
   by_cases hk0:k=0
   ·subst hk0
    replace hnl:=And.intro hnl (And.intro hnx (And.intro hsub hsum))
    repeat' (first|(refine goK (by assumption) ?_; iterate 4 (try clear hK K))|(refine zAb fun K hK=>?_)|((first|refine zAa hE rfl ?_|((first|refine zAc hE 1 rfl rfl (by kernel_rfl) ?_|refine zAc hE 2 rfl rfl (by kernel_rfl) ?_|refine zAc hE 3 rfl rfl (by kernel_rfl) ?_|refine zAc hE 4 rfl rfl (by kernel_rfl) ?_); simp only [List.length_cons,List.length_nil,Nat.reduceAdd,Nat.reduceSub,List.take_succ_cons,List.take_zero,List.drop_succ_cons,List.drop_zero])); simp +contextual only [hnl,↓kA,push_cast,seval,reduceCtorEq,cI])|refine zAd ?_|(refine zAg ?_; simp only [thenQ,zAh,if_true,if_false,Nat.reduceEqDiff,reduceCtorEq])|(refine zAe (by rfl) (fun hb=>?_) (fun hb=>?_)<;>(try simp only [bq,reduceCtorEq] at hb)<;>(try omega))|refine andS ?_|fail)
    refine hL4 _ (0+1) (by omega) (by omega) ?_
    refine zAf ?_ ?_ ?_<;>simp only [push_cast,seval,reduceCtorEq,cI]
    ·exact hcast.symm.trans (congrArg (fun z:Nat=>((z:Nat):Int)) s2.symm)
    ·exact .inl (congrArg (RC.deep 38 3 .int) hls.symm)
   ·have hne2:=hne hk0
    have hne3:¬(i:Int)=(x:Int):=by omega
    replace hnl:=And.intro hnl (And.intro (eq_false hk0) (And.intro (eq_false hne3) (And.intro hnx (And.intro hsub hsum))))
    repeat' (first|(refine goK (by assumption) ?_; iterate 4 (try clear hK K))|(refine zAb fun K hK=>?_)|((first|refine zAa hE rfl ?_|((first|refine zAc hE 1 rfl rfl (by kernel_rfl) ?_|refine zAc hE 2 rfl rfl (by kernel_rfl) ?_|refine zAc hE 3 rfl rfl (by kernel_rfl) ?_|refine zAc hE 4 rfl rfl (by kernel_rfl) ?_); simp only [List.length_cons,List.length_nil,Nat.reduceAdd,Nat.reduceSub,List.take_succ_cons,List.take_zero,List.drop_succ_cons,List.drop_zero])); simp +contextual only [hnl,↓kA,push_cast,seval,reduceCtorEq,cI])|refine zAd ?_|(refine zAg ?_; simp only [thenQ,zAh,if_true,if_false,Nat.reduceEqDiff,reduceCtorEq])|(refine zAe (by rfl) (fun hb=>?_) (fun hb=>?_)<;>(try simp only [bq,reduceCtorEq] at hb)<;>(try omega))|refine andS ?_|fail)
    refine hL4 _ (k+1) (by omega) (by omega) ?_
    refine zAf ?_ ?_ ?_<;>simp only [push_cast,seval,reduceCtorEq,cI]
    ·exact hcast.symm.trans (congrArg (fun z:Nat=>((z:Nat):Int)) s2.symm)
    ·exact .inl (congrArg (RC.deep 38 3 .int) hls.symm)
 obtain rfl:k=m:=by omega
 have hbk:=r3.rnd.back
 replace hnl:=And.intro hnl (And.intro hbk (eq_false hp1))
 repeat' (first|(refine goK (by assumption) ?_; iterate 4 (try clear hK K))|(refine zAb fun K hK=>?_)|((first|refine zAa hE rfl ?_|refine zAi ?_); simp +contextual only [hnl,↓kA,push_cast,seval,reduceCtorEq,cI])|(refine zAj ?_; simp only [thenQ,zAh,if_true,if_false,Nat.reduceEqDiff,reduceCtorEq])|(refine zAe (by rfl) (fun hb=>?_) (fun hb=>?_)<;>(try simp only [bq,reduceCtorEq] at hb)<;>(try omega))|fail)
 rw [if_pos hi,if_pos hi,hi,hV]
 exact ⟨⟨rfl,rfl⟩,rfl⟩
end Go.Proofs.YtekfodeknpnkbaaGreatDoor
namespace Go.Proofs.YtekfodeknpnkbaaGreatDoor
open Go.RowKit Go.VS Go.OT Go.LC
abbrev zKL:=List Int×List Int×List (List Int)×Unit
def zOR (a b:List Int) (c:List (List Int)):List Int:=(List.range a.length).map fun i => -((zHV a b c).getD i 0)
def zOQ (a b:List Int) (c:List (List Int)):List Int:=(List.range b.length).map fun j=>(zHV a b c).getD (a.length+j) 0
@[push_cast] def yAw:Con:=⟨[.dat (.sl .int),.dat (.sl .int),.dat (.sl (.sl .int))],fun (x:zKL)=>MQ x.1 x.2.1 x.2.2.1,
 fun (x:zKL)=>{res:=[.own (.deep 38 3 .int (zEv x.1 x.2.1 x.2.2.1)),.val (.prod (.sl .int) (.sl .int)) (zOR x.1 x.2.1 x.2.2.1,zOQ x.1 x.2.1 x.2.2.1)]}⟩
structure SolI (a b:List Int) (c:List (List Int)) (y:Nat×List (List Int)):Prop where
 eq:zGV c (a.length+b.length) y.1 y.2=zEv a b c
 pl:Pl a b y.2
 lt:costN a.length b.length c y.2<y.1
set_option maxHeartbeats 1000000 in
theorem zWO:FnSpec Tryz.prog 197 yAw:=by
 refine FnSpec.of_tri' (E:=know _ [] [] []) (zAl (kc zSS (kc zVP all_nil)) all_nil all_nil) Tryz.func197 rfl rfl (by kernel_rfl) ?_
 intro C x hE hnl hfit hpre
 simp only [Tryz.ntmps197,Tryz.results197,maxLen,seval,push_cast] at hnl hfit hpre ⊢
 obtain ⟨(a:List Int),(b:List Int),(c:List (List Int)),_⟩:=x
 dsimp only at hfit hpre ⊢
 obtain ⟨d1,d2⟩:=MQ.dims hpre
 have ha5:=hpre.a5
 have hb5:=hpre.b5
 have hcp:CornPre a b:=⟨by omega,by omega,hpre.ha,hpre.hb⟩
 repeat' (first|(refine goK (by assumption) ?_; iterate 4 (try clear hK K))|(refine zAb fun K hK=>?_)|(refine zAa hE rfl ?_; simp +contextual only [hnl,↓kA,push_cast,seval,reduceCtorEq,cI])|refine zAd ?_|refine andS ?_|fail)
 refine zAk (fun y:Nat×List (List Int)=>AS.of [(0,.one (.val (.sl .int) a)),(1,.one (.val (.sl .int) b)),(2,.one (.val (.sl (.sl .int)) c)),(7,.one (.box 7)),(8,.one (.ref 16))] [(16,.deep 38 3 .int y.2)] [(7,.rcd [.nils,.nils])])
  (SolI a b c) (fun y=>y.1) (costN a.length b.length c (cornV a b)+1,cornV a b) ⟨rfl,hpre.corner,Nat.lt_succ_self _⟩ ?_ ?_
 ·refine zAf ?_ ?_ ?_<;>simp only [push_cast,seval,reduceCtorEq,cI]
  all_goals first|exact .inl rfl|skip
 intro y hI K' hL
 obtain ⟨n,p⟩:=y
 obtain ⟨i1,i2,i3⟩:=hI
 dsimp only at i1 i2 i3 ⊢
 have hip:ImpPre c (.deep 38 3 .int p):=⟨by rw [zJK],⟨a,b,hpre,by rw [zJK]; exact i2⟩,by omega⟩
 obtain ⟨n,rfl⟩:∃ m,n=m+1:=⟨n - 1,by omega⟩
 have hN:c.length+wid c=a.length+b.length:=by omega
 by_cases hl:(lwN c p (c.length+wid c)).last<0
 ·have hi:impL c p=false:=decide_eq_false (by omega)
  have hp1:zEv a b c=p:=by
   rw [←i1]
   rw [hN] at hl
   exact if_pos hl
  have hD:zHV a b c=(lwN c p (c.length+wid c)).far:=by
   unfold zHV
   rw [hp1,hN]
  have hfl:(lwN c p (c.length+wid c)).far.length=c.length+wid c:=(zGn (q:=p) (R:=c.length) (C:=wid c) (by rw [d1,d2]; exact hpre.hc) (by omega) (by omega) (c.length+wid c)).l1
  have hfb:=(zGn (q:=p) (R:=c.length) (C:=wid c) (by rw [d1,d2]; exact hpre.hc) (by omega) (by omega) (c.length+wid c)).bnd
  have hLN:lwK c p (c.length+wid c) (c.length+wid c)=lwN c p (c.length+wid c):=rfl
  rw [hLN] at hfb
  obtain ⟨fr,hfr⟩:∃ fr,fr=(lwN c p (c.length+wid c)).far:=⟨_,rfl⟩
  rw [←hfr] at hfl hfb hD
  have hfb:∀ v,v<c.length+wid c → -1000000000≤fr.getD v 0∧fr.getD v 0≤0:=fun v hv=>by have:=hfb v hv; omega
  have hR:zOR a b c=(List.range a.length).map fun i => -(fr.getD i 0):=by unfold zOR; rw [hD]
  have hC:zOQ a b c=(List.range b.length).map fun j=>fr.getD (a.length+j) 0:=by unfold zOQ; rw [hD]
  rw [hp1,hR,hC]
  replace hnl:=And.intro hnl hi
  repeat' (first|(refine goK (by assumption) ?_; iterate 4 (try clear hK K))|(refine zAb fun K hK=>?_)|(refine zAa hE rfl ?_; simp +contextual only [hnl,↓kA,push_cast,seval,reduceCtorEq,cI])|refine zAd ?_|(refine zAg ?_; simp only [thenQ,zAh,if_true,if_false,Nat.reduceEqDiff,reduceCtorEq])|(refine zAe (by rfl) (fun hb=>?_) (fun hb=>?_)<;>(try simp only [bq,reduceCtorEq] at hb)<;>(try omega))|refine andS ?_|fail)
  refine zAk (fun k:Nat=>AS.of [(0,.one (.val (.sl .int) a)),(1,.one (.val (.sl .int) b)),(7,.one (.box 7)),(8,.one (.ref 16)),(9,.one (.ref 20)),(11,.one (.box 11)),(12,.I k)] [(16,.deep 38 3 .int p),(20,.flat 3 .int fr),(38,.flat 3 .int ((List.range k).map fun i => -(fr.getD i 0)))] [(7,.rcd [.nils,.nils]),(11,.rcd [.ref 38,.nils])])
   (fun k=>k≤a.length) (fun k=>a.length - k) 0 (Nat.zero_le _) ?_ ?_
  ·refine zAf ?_ ?_ ?_<;>simp only [push_cast,seval,reduceCtorEq,cI]
   all_goals first|exact ⟨by rw [hfr]; exact .inl rfl,by omega,rfl⟩|skip
  intro k hk K2 hL2
  have hfk:=hfb k
  have hlen:((List.range k).map fun i => -(fr.getD i 0)).length=k:=by simp
  replace hnl:=And.intro hnl hlen
  repeat' (first|(refine goK (by assumption) ?_; iterate 4 (try clear hK K))|(refine zAb fun K hK=>?_)|((first|refine zAa hE rfl ?_|((first|refine zAc hE 1 rfl rfl (by kernel_rfl) ?_|refine zAc hE 2 rfl rfl (by kernel_rfl) ?_|refine zAc hE 3 rfl rfl (by kernel_rfl) ?_|refine zAc hE 4 rfl rfl (by kernel_rfl) ?_); simp only [List.length_cons,List.length_nil,Nat.reduceAdd,Nat.reduceSub,List.take_succ_cons,List.take_zero,List.drop_succ_cons,List.drop_zero])); simp +contextual only [hnl,↓kA,push_cast,seval,reduceCtorEq,cI])|refine zAd ?_|((first|refine zAg ?_|refine zAj ?_); simp only [thenQ,zAh,if_true,if_false,Nat.reduceEqDiff,reduceCtorEq])|(refine zAe (by rfl) (fun hb=>?_) (fun hb=>?_)<;>(try simp only [bq,reduceCtorEq] at hb)<;>(try omega))|refine andS ?_|fail)
  ·refine hL2 _ (k+1) (by omega) (by omega) ?_
   refine zAf ?_ ?_ ?_<;>simp only [push_cast,seval,reduceCtorEq,cI]
   all_goals first|(left; rw [List.range_succ,List.map_append]; rfl)|skip
  obtain rfl:k=a.length:=by omega
  clear hL2 hfk
  refine zAk (fun k:Nat=>AS.of [(0,.one (.val (.sl .int) a)),(1,.one (.val (.sl .int) b)),(7,.one (.box 7)),(8,.one (.ref 16)),(9,.one (.ref 20)),(11,.one (.box 11)),(13,.I k)] [(16,.deep 38 3 .int p),(20,.flat 3 .int fr),(38,.flat 3 .int ((List.range a.length).map fun i => -(fr.getD i 0))),(56,.flat 3 .int ((List.range k).map fun j=>fr.getD (a.length+j) 0))] [(7,.rcd [.nils,.nils]),(11,.rcd [.ref 38,.ref 56])])
   (fun k=>k≤b.length) (fun k=>b.length - k) 0 (Nat.zero_le _) ?_ ?_
  ·refine zAf ?_ ?_ ?_<;>simp only [push_cast,seval,reduceCtorEq,cI]
   all_goals first|omega|exact ⟨by omega,rfl⟩|skip
  intro k hk2 K3 hL3
  have hlen2:((List.range k).map fun j=>fr.getD (a.length+j) 0).length=k:=by simp
  have hsum:((a.length:Int)+(k:Int)).toNat=a.length+k:=by omega
  replace hnl:=And.intro hnl (And.intro hlen2 hsum)
  rcases Nat.lt_or_ge k b.length with hkb|hkb
  ·repeat' (first|(refine goK (by assumption) ?_; iterate 4 (try clear hK K))|(refine zAb fun K hK=>?_)|((first|refine zAa hE rfl ?_|((first|refine zAc hE 1 rfl rfl (by kernel_rfl) ?_|refine zAc hE 2 rfl rfl (by kernel_rfl) ?_|refine zAc hE 3 rfl rfl (by kernel_rfl) ?_|refine zAc hE 4 rfl rfl (by kernel_rfl) ?_); simp only [List.length_cons,List.length_nil,Nat.reduceAdd,Nat.reduceSub,List.take_succ_cons,List.take_zero,List.drop_succ_cons,List.drop_zero])); simp +contextual only [hnl,↓kA,push_cast,seval,reduceCtorEq,cI])|refine zAd ?_|(refine zAg ?_; simp only [thenQ,zAh,if_true,if_false,Nat.reduceEqDiff,reduceCtorEq])|(refine zAe (by rfl) (fun hb=>?_) (fun hb=>?_)<;>(try simp only [bq,reduceCtorEq] at hb)<;>(try omega))|refine andS ?_|fail)
   refine hL3 _ (k+1) (by omega) (by omega) ?_
   refine zAf ?_ ?_ ?_<;>simp only [push_cast,seval,reduceCtorEq,cI]
   all_goals first|(left; rw [List.range_succ,List.map_append]; rfl)|skip
  ·obtain rfl:k=b.length:=by omega
   refine zAo (t:=AS.of [(1,.one (.val (.sl .int) b)),(7,.one (.box 7)),(8,.one (.ref 16)),(11,.one (.box 11)),(13,.I b.length)] [(16,.deep 38 3 .int p)] [(7,.rcd [.nils,.nils]),(11,.rcd [.val (.sl .int) ((List.range a.length).map fun i => -(fr.getD i 0)),.val (.sl .int) ((List.range b.length).map fun j=>fr.getD (a.length+j) 0)])]) ?_ ?_
   ·refine zAf ?_ ?_ ?_<;>simp only [push_cast,seval,reduceCtorEq,cI]
    all_goals skip
   exact auB
 ·have hi:impL c p=true:=decide_eq_true (by omega)
  obtain ⟨k1,k2,_,_⟩:=zHE hpre i2 (by rw [←hN]; exact hl)
  have i1':zGV c (a.length+b.length) n (impV c p (a.length+b.length))=zEv a b c:=by
   rw [←i1]
   rw [hN] at hl
   exact (if_neg hl).symm
  replace hnl:=And.intro hnl hi
  repeat' (first|(refine goK (by assumption) ?_; iterate 4 (try clear hK K))|(refine zAb fun K hK=>?_)|(refine zAa hE rfl ?_; simp +contextual only [hnl,↓kA,push_cast,seval,reduceCtorEq,cI])|refine zAd ?_|(refine zAj ?_; simp only [thenQ,zAh,if_true,if_false,Nat.reduceEqDiff,reduceCtorEq])|(refine zAe (by rfl) (fun hb=>?_) (fun hb=>?_)<;>(try simp only [bq,reduceCtorEq] at hb)<;>(try omega))|refine andS ?_|fail)
  refine hL _ (n,impV c p (a.length+b.length)) ⟨i1',k1,by dsimp only; omega⟩ (Nat.lt_succ_self n) ?_
  refine zAf ?_ ?_ ?_<;>simp only [push_cast,seval,reduceCtorEq,cI]
  all_goals first|(rw [hN]; exact .inl rfl)|skip
end Go.Proofs.YtekfodeknpnkbaaGreatDoor
