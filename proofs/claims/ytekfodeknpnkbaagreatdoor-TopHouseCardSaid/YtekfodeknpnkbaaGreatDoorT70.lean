import Derived.Test.YtekfodeknpnkbaaGreatDoorT48
import Derived.Test.YtekfodeknpnkbaaGreatDoorT69
set_option linter.unusedSimpArgs false
set_option linter.unusedVariables false
namespace Go.Proofs.YtekfodeknpnkbaaGreatDoor
open Go.RowKit Go.VS
theorem zRO:FnSpec Tryz.prog 88 zP8:=by
 refine FnSpec.of_tri' (E:=know _ [] [] []) (zAl (kc zJg all_nil) all_nil all_nil) Tryz.func88 rfl rfl (by kernel_rfl) ?_
 intro C x hE hnl hfit hpre
 simp only [Tryz.ntmps88,Tryz.results88,maxLen,seval,push_cast] at hnl hfit hpre ⊢
 obtain ⟨(a:List (List Int)),(b:List (List Int)),_⟩:=x
 dsimp only at hfit hpre ⊢
 repeat' (first|(refine goK (by assumption) ?_; iterate 4 (try clear hK K))|(refine zAb fun K hK=>?_)|((first|refine zAa hE rfl ?_|refine zAi ?_|((first|refine zAc hE 1 rfl rfl (by kernel_rfl) ?_|refine zAc hE 2 rfl rfl (by kernel_rfl) ?_|refine zAc hE 3 rfl rfl (by kernel_rfl) ?_|refine zAc hE 4 rfl rfl (by kernel_rfl) ?_); simp only [List.length_cons,List.length_nil,Nat.reduceAdd,Nat.reduceSub,List.take_succ_cons,List.take_zero,List.drop_succ_cons,List.drop_zero])); simp +contextual only [hnl,↓kA,push_cast,seval,reduceCtorEq,cI])|refine zAd ?_|((first|refine zAg ?_|refine zAj ?_); simp only [thenQ,zAh,if_true,if_false,Nat.reduceEqDiff,reduceCtorEq])|(refine zAe (by rfl) (fun hb=>?_) (fun hb=>?_)<;>(try simp only [bq,reduceCtorEq] at hb)<;>(try omega))|refine zAr (by rfl) ?_ ?_|refine andS ?_|(refine ⟨fun hc=>?_,fun hc=>?_⟩)|(intro hc; try omega))
 ·exact (decide_eq_false fun e=>hb (by rw [e])).symm
 have hlen:=hb; clear hb
 refine zAk (fun k:Nat=>AS.of [(0,.one (.val (.sl (.sl .int)) a)),(1,.one (.val (.sl (.sl .int)) b)),(5,.I k)] [] []) (fun k=>k≤a.length∧∀ j,j<k→a.getD j []=b.getD j []) (fun k=>a.length - k) 0 ⟨Nat.zero_le _,by omega⟩ ?_ ?_
 ·refine zAf ?_ ?_ ?_<;>simp only [push_cast,seval,reduceCtorEq,cI]
 intro k ⟨hk,hj⟩ K' hL
 repeat' (first|(refine goK (by assumption) ?_; iterate 4 (try clear hK K))|(refine zAb fun K hK=>?_)|((first|refine zAa hE rfl ?_|refine zAi ?_|((first|refine zAc hE 1 rfl rfl (by kernel_rfl) ?_|refine zAc hE 2 rfl rfl (by kernel_rfl) ?_|refine zAc hE 3 rfl rfl (by kernel_rfl) ?_|refine zAc hE 4 rfl rfl (by kernel_rfl) ?_); simp only [List.length_cons,List.length_nil,Nat.reduceAdd,Nat.reduceSub,List.take_succ_cons,List.take_zero,List.drop_succ_cons,List.drop_zero])); simp +contextual only [hnl,↓kA,push_cast,seval,reduceCtorEq,cI])|refine zAd ?_|((first|refine zAg ?_|refine zAj ?_); simp only [thenQ,zAh,if_true,if_false,Nat.reduceEqDiff,reduceCtorEq])|(refine zAe (by rfl) (fun hb=>?_) (fun hb=>?_)<;>(try simp only [bq,reduceCtorEq] at hb)<;>(try omega))|refine zAr (by rfl) ?_ ?_|refine andS ?_|(refine ⟨fun hc=>?_,fun hc=>?_⟩)|(intro hc; try omega))
 ·exact (decide_eq_false (zDC [] hb)).symm
 ·refine hL _ (k+1) ⟨by omega,fun j hj'=>?_⟩ (by omega) ?_
  ·rcases Nat.lt_or_ge j k with h3|h3
   ·exact hj j h3
   ·have:j=k:=by omega
    subst this
    exact hb
  refine zAf ?_ ?_ ?_<;>simp only [push_cast,seval,reduceCtorEq,cI]
 ·exact (decide_eq_true (zDA [] (by omega) fun j hj'=>hj j (by omega))).symm
def bksV (L:List Line):List ByteArray:=tbl (L.length+1) fun j=>bkF 0 (L.take j)
theorem zQW (L:List Line):(bksV L).length=L.length+1:=zAZ _ _
theorem zXG {L:List Line} {k:Nat} (h:k≤L.length):(bksV L).getD k ByteArray.empty=bkF 0 (L.take k):=zBu _ _ (by omega)
theorem zXF (L:List Line) (y:Line):bksV (L++[y])=bksV L++[bkF 0 (L++[y])]:=by
 unfold bksV
 rw [show (L++[y]).length+1=L.length+1+1 by rw [List.length_append]; rfl,zD9,List.take_of_length_le (l:=L++[y]) (by rw [List.length_append]; simp)]
 rw [zAD (g:=fun j=>bkF 0 (L.take j)) fun i hi=>by rw [List.take_append_of_le_length (by omega)]]
end Go.Proofs.YtekfodeknpnkbaaGreatDoor
