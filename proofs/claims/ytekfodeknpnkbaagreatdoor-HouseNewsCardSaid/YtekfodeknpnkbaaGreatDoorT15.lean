import Derived.Test.YtekfodeknpnkbaaGreatDoorT6
set_option linter.unusedSimpArgs false
set_option linter.unusedVariables false
namespace Go.Proofs.YtekfodeknpnkbaaGreatDoor
open Go.RowKit Go.VS
end Go.Proofs.YtekfodeknpnkbaaGreatDoor
namespace Go.Proofs.YtekfodeknpnkbaaGreatDoor
open Go.RowKit Go.VS
end Go.Proofs.YtekfodeknpnkbaaGreatDoor
namespace Go.Proofs.YtekfodeknpnkbaaGreatDoor
open Go.RowKit Go.VS
theorem zHl:FnSpec Tryz.prog 48 zUF:=by
 refine FnSpec.of_tri' (E:=know [] [] [] []) (zAl all_nil all_nil all_nil) Tryz.func48 rfl rfl (by kernel_rfl) ?_
 intro C x hE hnl hfit hpre
 simp only [Tryz.ntmps48,Tryz.results48,maxLen,seval,push_cast] at hnl hfit hpre ⊢
 obtain ⟨(a:List Int),(b:List Int),_⟩:=x
 dsimp only at hfit hpre ⊢
 repeat' (first|(refine goK (by assumption) ?_; iterate 4 (try clear hK K))|(refine zAb fun K hK=>?_)|((first|refine zAa hE rfl ?_|refine zAi ?_); simp +contextual only [hnl,↓kA,push_cast,seval,reduceCtorEq,cI])|refine zAd ?_|(refine zAg ?_; simp only [thenQ,zAh,if_true,if_false,Nat.reduceEqDiff,reduceCtorEq])|(refine zAe (by rfl) (fun hb=>?_) (fun hb=>?_)<;>(try simp only [bq,reduceCtorEq] at hb)<;>(try omega))|fail)
 ·exact (decide_eq_false fun e=>hb (by rw [e])).symm
 have hlen:=hb; clear hb
 refine zAk (fun k:Nat=>AS.of [(0,.one (.val (.sl .int) a)),(1,.one (.val (.sl .int) b)),(5,.I k)] [] []) (fun k=>k≤a.length∧∀ j,j<k→a.getD j 0=b.getD j 0) (fun k=>a.length - k) 0 ⟨Nat.zero_le _,by omega⟩ ?_ ?_
 ·refine zAf ?_ ?_ ?_<;>simp only [push_cast,seval,reduceCtorEq,cI]
 intro k ⟨hk,hj⟩ K' hL
 repeat' (first|(refine goK (by assumption) ?_; iterate 4 (try clear hK K))|(refine zAb fun K hK=>?_)|((first|refine zAa hE rfl ?_|refine zAi ?_|((first|refine zAc hE 1 rfl rfl (by kernel_rfl) ?_|refine zAc hE 2 rfl rfl (by kernel_rfl) ?_|refine zAc hE 3 rfl rfl (by kernel_rfl) ?_|refine zAc hE 4 rfl rfl (by kernel_rfl) ?_); simp only [List.length_cons,List.length_nil,Nat.reduceAdd,Nat.reduceSub,List.take_succ_cons,List.take_zero,List.drop_succ_cons,List.drop_zero])); simp +contextual only [hnl,↓kA,push_cast,seval,reduceCtorEq,cI])|refine zAd ?_|((first|refine zAg ?_|refine zAj ?_); simp only [thenQ,zAh,if_true,if_false,Nat.reduceEqDiff,reduceCtorEq])|(refine zAe (by rfl) (fun hb=>?_) (fun hb=>?_)<;>(try simp only [bq,reduceCtorEq] at hb)<;>(try omega))|refine andS ?_|fail)
 ·exact (decide_eq_false (zDC 0 hb)).symm
 ·refine hL _ (k+1) ⟨by omega,fun j hj'=>?_⟩ (by omega) ?_
  ·rcases Nat.lt_or_ge j k with h3|h3
   ·exact hj j h3
   ·have:j=k:=by omega
    subst this
    exact hb
  refine zAf ?_ ?_ ?_<;>simp only [push_cast,seval,reduceCtorEq,cI]
 ·exact (decide_eq_true (zDA 0 (by omega) fun j hj'=>hj j (by omega))).symm
end Go.Proofs.YtekfodeknpnkbaaGreatDoor
namespace Go.Proofs.YtekfodeknpnkbaaGreatDoor
open Go.RowKit Go.VS
end Go.Proofs.YtekfodeknpnkbaaGreatDoor
namespace Go.Proofs.YtekfodeknpnkbaaGreatDoor
open Go.RowKit Go.VS
end Go.Proofs.YtekfodeknpnkbaaGreatDoor
namespace Go.Proofs.YtekfodeknpnkbaaGreatDoor
open Go.RowKit Go.VS
section
variable {a b:List Int} {c:List (List Int)}
end
end Go.Proofs.YtekfodeknpnkbaaGreatDoor
namespace Go.Proofs.YtekfodeknpnkbaaGreatDoor
open Go.RowKit Go.VS Go.OT
section
variable {c t:List (List Int)}
end
end Go.Proofs.YtekfodeknpnkbaaGreatDoor
namespace Go.Proofs.YtekfodeknpnkbaaGreatDoor
open Go.RowKit Go.VS
def wideV (p:List (List Int)):Bool:=p.any (fun r=>decide (50<r.length)) || decide (50<p.length)
@[push_cast] def zU3:Con:=⟨[.dat (.sl (.sl .int))],fun _=>True,fun (x:List (List Int)×Unit)=>{res:=[.val .bool (decide (wideV x.1=true))]}⟩
theorem zDg:FnSpec Tryz.prog 13 zU3:=by
 refine FnSpec.of_tri' (E:=know [] [] [] []) (zAl all_nil all_nil all_nil) Tryz.func13 rfl rfl (by kernel_rfl) ?_
 intro C x hE hnl hfit hpre
 simp only [Tryz.ntmps13,Tryz.results13,maxLen,seval,push_cast] at hnl hfit hpre ⊢
 obtain ⟨(p:List (List Int)),_⟩:=x
 dsimp only at hfit hpre ⊢
 repeat' (first|(refine goK (by assumption) ?_; iterate 4 (try clear hK K))|(refine zAb fun K hK=>?_)|(refine zAa hE rfl ?_; simp +contextual only [hnl,↓kA,push_cast,seval,reduceCtorEq,cI])|refine zAd ?_|fail)
 refine zAk (fun k:Nat=>AS.of [(0,.one (.val (.sl (.sl .int)) p)),(3,.I k)] [] []) (fun k=>k≤p.length∧(p.take k).any (fun r=>decide (50<r.length))=false) (fun k=>p.length - k) 0 ⟨Nat.zero_le _,by simp⟩ ?_ ?_
 ·refine zAf ?_ ?_ ?_<;>simp only [push_cast,seval,reduceCtorEq,cI]
 intro k ⟨hk,hj⟩ K' hL
 repeat' (first|(refine goK (by assumption) ?_; iterate 4 (try clear hK K))|(refine zAb fun K hK=>?_)|((first|refine zAa hE rfl ?_|refine zAi ?_); simp +contextual only [hnl,↓kA,push_cast,seval,reduceCtorEq,cI])|refine zAd ?_|((first|refine zAg ?_|refine zAj ?_); simp only [thenQ,zAh,if_true,if_false,Nat.reduceEqDiff,reduceCtorEq])|(refine zAe (by rfl) (fun hb=>?_) (fun hb=>?_)<;>(try simp only [bq,reduceCtorEq] at hb)<;>(try omega))|refine andS ?_|fail)
 ·have hk':k<p.length:=by omega
  have h1:=zDn [] (fun r=>decide (50<r.length)) hk'
  have h2:(p.any fun r=>decide (50<r.length))=true:=by
   rw [←List.take_append_drop (k+1) p,List.any_append,h1,hj,decide_eq_true (by omega)]
   simp
  exact (decide_eq_true (by simp [wideV,h2])).symm
 ·have hk':k<p.length:=by omega
  refine hL _ (k+1) ⟨by omega,?_⟩ (by omega) ?_
  ·rw [zDn [] _ hk',hj,decide_eq_false (by omega)]
   rfl
  refine zAf ?_ ?_ ?_<;>simp only [push_cast,seval,reduceCtorEq,cI]
 ·rw [List.take_of_length_le (by omega)] at hj
  simp only [wideV,hj,Bool.false_or,decide_eq_true_eq,decide_eq_decide]
  omega
end Go.Proofs.YtekfodeknpnkbaaGreatDoor
namespace Go.Proofs.YtekfodeknpnkbaaGreatDoor
open Go.RowKit Go.VS
end Go.Proofs.YtekfodeknpnkbaaGreatDoor
namespace Go.Proofs.YtekfodeknpnkbaaGreatDoor
open Go.RowKit Go.VS Go.OT
end Go.Proofs.YtekfodeknpnkbaaGreatDoor
