import Derived.Test.YtekfodeknpnkbaaGreatDoorT15
set_option linter.unusedSimpArgs false
set_option linter.unusedVariables false
namespace Go.Proofs.YtekfodeknpnkbaaGreatDoor
open Go.RowKit Go.VS
theorem zHQ:FnSpec Tryz.prog 176 zEC:=by
 refine FnSpec.of_tri' (E:=know [] [] [] []) (zAl all_nil all_nil all_nil) Tryz.func176 rfl rfl (by kernel_rfl) ?_
 intro C x hE hnl hfit hpre
 simp only [Tryz.ntmps176,Tryz.results176,maxLen,seval,push_cast] at hnl hfit hpre ⊢
 obtain ⟨(n:Int),(lo:Int),(hi:Int),_⟩:=x
 dsimp only at hfit hpre ⊢
 repeat' (first|(refine goK (by assumption) ?_; iterate 4 (try clear hK K))|(refine zAb fun K hK=>?_)|((first|refine zAa hE rfl ?_|refine zAi ?_); simp +contextual only [hnl,↓kA,push_cast,seval,reduceCtorEq,cI])|(refine ⟨fun hc=>?_,fun hc=>?_⟩)|fail)
 all_goals first|omega|(simp only [decide_eq_decide]; omega)|(simp only [hc,decide_true,decide_false,Bool.true_or,Bool.false_or]; done)|(simp; done)|(simp; omega)|(simp [*]; done)|(simp [*]; omega)
end Go.Proofs.YtekfodeknpnkbaaGreatDoor
namespace Go.Proofs.YtekfodeknpnkbaaGreatDoor
open Go.RowKit Go.VS
end Go.Proofs.YtekfodeknpnkbaaGreatDoor
namespace Go.Proofs.YtekfodeknpnkbaaGreatDoor
open Go.RowKit Go.VS
end Go.Proofs.YtekfodeknpnkbaaGreatDoor
namespace Go.Proofs.YtekfodeknpnkbaaGreatDoor
open Go.RowKit Go.VS
end Go.Proofs.YtekfodeknpnkbaaGreatDoor
namespace Go.Proofs.YtekfodeknpnkbaaGreatDoor
open Go.RowKit Go.VS
@[push_cast] def zVR:Con:=⟨[.dat (.sl (.sl .int)),.dat .int,.dat .int],fun _=>True,fun (x:List (List Int)×Int×Int×Unit)=>{res:=[.val .bool (decide (InTab x.2.1 x.2.2.1 x.1))]}⟩
theorem zQ9:FnSpec Tryz.prog 138 zVR:=by
 refine FnSpec.of_tri' (E:=know _ [] [] []) (zAl (kc zHQ all_nil) all_nil all_nil) Tryz.func138 rfl rfl (by kernel_rfl) ?_
 intro C x hE hnl hfit hpre
 simp only [Tryz.ntmps138,Tryz.results138,maxLen,seval,push_cast] at hnl hfit hpre ⊢
 obtain ⟨(p:List (List Int)),(lo:Int),(hi:Int),_⟩:=x
 dsimp only at hfit hpre ⊢
 have bad:∀ i j,i<p.length→¬((p.getD i []).length=wid p∧(j<(p.getD i []).length→lo≤(p.getD i []).getD j 0∧(p.getD i []).getD j 0≤hi))→false=decide (InTab lo hi p):=fun i j hi hn=>(decide_eq_false fun h=>hn ⟨h.len hi,fun hj=>h.at hi (by rw [←h.len hi]; exact hj)⟩).symm
 repeat' (first|(refine goK (by assumption) ?_; iterate 4 (try clear hK K))|(refine zAb fun K hK=>?_)|((first|refine zAa hE rfl ?_|refine zAi ?_); simp +contextual only [hnl,↓kA,push_cast,seval,reduceCtorEq,cI])|refine zAd ?_|(refine zAg ?_; simp only [thenQ,zAh,if_true,if_false,Nat.reduceEqDiff,reduceCtorEq])|(refine zAe (by rfl) (fun hb=>?_) (fun hb=>?_)<;>(try simp only [bq,reduceCtorEq] at hb)<;>(try omega))|refine andS ?_|(refine ⟨fun hc=>?_,fun hc=>?_⟩)|fail)
 ·exact (decide_eq_false fun h=>hb (by have:=h.cols; unfold wid at this; omega)).symm
 ·have hw:(p.getD 0 []).length=wid p:=rfl
  refine zAk (fun k:Nat=>AS.of [(0,.one (.val (.sl (.sl .int)) p)),(1,.I lo),(2,.I hi),(7,.I k)] [] []) (fun k=>k≤p.length∧∀ i,i<k→(p.getD i []).length=wid p∧∀ j,j<wid p→lo≤(p.getD i []).getD j 0∧(p.getD i []).getD j 0≤hi) (fun k=>p.length - k) 0 ⟨Nat.zero_le _,by omega⟩ ?_ ?_
  ·refine zAf ?_ ?_ ?_<;>simp only [push_cast,seval,reduceCtorEq,cI]
  intro k ⟨hk,hall⟩ K' hL
  repeat' (first|(refine goK (by assumption) ?_; iterate 4 (try clear hK K))|(refine zAb fun K hK=>?_)|((first|refine zAa hE rfl ?_|refine zAi ?_|((first|refine zAc hE 1 rfl rfl (by kernel_rfl) ?_|refine zAc hE 2 rfl rfl (by kernel_rfl) ?_|refine zAc hE 3 rfl rfl (by kernel_rfl) ?_|refine zAc hE 4 rfl rfl (by kernel_rfl) ?_); simp only [List.length_cons,List.length_nil,Nat.reduceAdd,Nat.reduceSub,List.take_succ_cons,List.take_zero,List.drop_succ_cons,List.drop_zero])); simp +contextual only [hnl,↓kA,push_cast,seval,reduceCtorEq,cI])|refine zAd ?_|((first|refine zAg ?_|refine zAj ?_); simp only [thenQ,zAh,if_true,if_false,Nat.reduceEqDiff,reduceCtorEq])|(refine zAe (by rfl) (fun hb=>?_) (fun hb=>?_)<;>(try simp only [bq,reduceCtorEq] at hb)<;>(try omega))|refine andS ?_|fail)
  ·exact bad k 0 (by omega) fun hn=>by have:=hn.1; unfold wid at this; omega
  ·have hkw:(p.getD k []).length=wid p:=by unfold wid; omega
   refine zAk (fun j:Nat=>AS.of [(0,.one (.val (.sl (.sl .int)) p)),(1,.I lo),(2,.I hi),(7,.I k),(8,.I j)] [] []) (fun j=>j≤wid p∧∀ j',j'<j→lo≤(p.getD k []).getD j' 0∧(p.getD k []).getD j' 0≤hi) (fun j=>wid p - j) 0 ⟨Nat.zero_le _,by omega⟩ ?_ ?_
   ·refine zAf ?_ ?_ ?_<;>simp only [push_cast,seval,reduceCtorEq,cI]
   intro j ⟨hj,hj'⟩ K2 hL2
   repeat' (first|(refine goK (by assumption) ?_; iterate 4 (try clear hK K))|(refine zAb fun K hK=>?_)|((first|refine zAa hE rfl ?_|refine zAi ?_); simp +contextual only [hnl,↓kA,push_cast,seval,reduceCtorEq,cI])|refine zAd ?_|((first|refine zAg ?_|refine zAj ?_); simp only [thenQ,zAh,if_true,if_false,Nat.reduceEqDiff,reduceCtorEq])|(refine zAe (by rfl) (fun hb=>?_) (fun hb=>?_)<;>(try simp only [bq,reduceCtorEq] at hb)<;>(try omega))|refine andS ?_|fail)
   ·exact bad k j (by omega) fun hn=>hb (hn.2 (by omega))
   ·refine hL2 _ (j+1) ⟨by omega,fun j' h1=>?_⟩ (by omega) ?_
    ·rcases Nat.lt_or_ge j' j with h3|h3
     ·exact hj' j' h3
     ·obtain rfl:j'=j:=by omega
      exact hb
    refine zAf ?_ ?_ ?_<;>simp only [push_cast,seval,reduceCtorEq,cI]
   ·refine hL _ (k+1) ⟨by omega,fun i h1=>?_⟩ (by omega) ?_
    ·rcases Nat.lt_or_ge i k with h3|h3
     ·exact hall i h3
     ·obtain rfl:i=k:=by omega
      exact ⟨hkw,fun j' h4=>hj' j' (by omega)⟩
    refine zAf ?_ ?_ ?_<;>simp only [push_cast,seval,reduceCtorEq,cI]
  ·exact (decide_eq_true (zLa (by omega) (by omega) fun i h1=>hall i (by omega))).symm
 ·exact (decide_eq_false fun h=>by have:=h.rows; omega).symm
theorem zHk:FnSpec Tryz.prog 94 zIu:=by
 refine FnSpec.of_tri' (E:=know _ [] [] []) (zAl (kc zQ9 all_nil) all_nil all_nil) Tryz.func94 rfl rfl (by kernel_rfl) ?_
 intro C x hE hnl hfit hpre
 simp only [Tryz.ntmps94,Tryz.results94,maxLen,seval,push_cast] at hnl hfit hpre ⊢
 obtain ⟨(p:List (List Int)),_⟩:=x
 dsimp only at hfit hpre ⊢
 repeat' (first|(refine goK (by assumption) ?_; iterate 4 (try clear hK K))|(refine zAb fun K hK=>?_)|((first|refine zAa hE rfl ?_|refine zAi ?_); simp +contextual only [hnl,↓kA,push_cast,seval,reduceCtorEq,cI])|(refine zAg ?_; simp only [thenQ,zAh,if_true,if_false,Nat.reduceEqDiff,reduceCtorEq])|(refine zAe (by rfl) (fun hb=>?_) (fun hb=>?_)<;>(try simp only [bq,reduceCtorEq] at hb)<;>(try omega))|fail)
 ·exact (zDL hb).symm
 ·exact (zEj hb).symm
end Go.Proofs.YtekfodeknpnkbaaGreatDoor
namespace Go.Proofs.YtekfodeknpnkbaaGreatDoor
open Go.RowKit Go.VS
section
variable {a b:List Int} {c:List (List Int)}
end
end Go.Proofs.YtekfodeknpnkbaaGreatDoor
namespace Go.Proofs.YtekfodeknpnkbaaGreatDoor
open Go.RowKit Go.VS Go.OT
section
variable {c t:List (List Int)}
end
end Go.Proofs.YtekfodeknpnkbaaGreatDoor
namespace Go.Proofs.YtekfodeknpnkbaaGreatDoor
open Go.RowKit Go.VS
end Go.Proofs.YtekfodeknpnkbaaGreatDoor
namespace Go.Proofs.YtekfodeknpnkbaaGreatDoor
open Go.RowKit Go.VS
end Go.Proofs.YtekfodeknpnkbaaGreatDoor
namespace Go.Proofs.YtekfodeknpnkbaaGreatDoor
open Go.RowKit Go.VS Go.OT
end Go.Proofs.YtekfodeknpnkbaaGreatDoor
