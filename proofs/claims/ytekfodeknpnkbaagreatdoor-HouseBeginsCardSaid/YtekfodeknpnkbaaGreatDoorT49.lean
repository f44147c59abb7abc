import Derived.Test.YtekfodeknpnkbaaGreatDoorT8
import Derived.Test.YtekfodeknpnkbaaGreatDoorT34
set_option linter.unusedSimpArgs false
set_option linter.unusedVariables false
namespace Go.Proofs.YtekfodeknpnkbaaGreatDoor
open Go.RowKit Go.VS
def zFm (l:List ByteArray):Bool:=l.any (fun t=>decide (400<(t.size:Int))) || decide (300<(l.length:Int))
theorem zRk {l:List ByteArray} {k:Nat} (h:k<l.length) (h2:400<((l.getD k ByteArray.empty).size:Int)):zFm l=true:=by
 unfold zFm
 rw [Bool.or_eq_true]
 refine .inl (List.any_eq_true.2 ⟨_,List.getElem_mem h,?_⟩)
 rw [List.getD_eq_getElem?_getD,List.getElem?_eq_getElem h] at h2
 exact decide_eq_true h2
theorem zOj {l:List ByteArray} (h:∀ i,i<l.length→((l.getD i ByteArray.empty).size:Int)≤400):zFm l=decide (300<(l.length:Int)):=by
 unfold zFm
 have:l.any (fun t=>decide (400<(t.size:Int)))=false:=by
  rw [List.any_eq_false]
  intro t ht
  obtain ⟨i,hi,rfl⟩:=List.getElem_of_mem ht
  have h2:=h i hi
  rw [List.getD_eq_getElem?_getD,List.getElem?_eq_getElem hi] at h2
  have h3:((l[i]).size:Int)≤400:=h2
  simp only [decide_eq_true_eq]
  omega
 rw [this,Bool.false_or]
@[push_cast] def zV3:Con:=⟨[.dat (.sl .str)],fun _=>True,fun (x:List ByteArray×Unit)=>{res:=[.val .bool (zFm x.1)]}⟩
theorem zDB:FnSpec Tryz.prog 14 zV3:=by
 refine FnSpec.of_tri' (E:=know [] [] [] []) (zAl all_nil all_nil all_nil) Tryz.func14 rfl rfl (by kernel_rfl) ?_
 intro C x hE hnl hfit hpre
 simp only [Tryz.ntmps14,Tryz.results14,maxLen,seval,push_cast] at hnl hfit hpre ⊢
 obtain ⟨(l:List ByteArray),_⟩:=x
 dsimp only at hfit hpre ⊢
 repeat' (first|(refine goK (by assumption) ?_; iterate 4 (try clear hK K))|(refine zAb fun K hK=>?_)|(refine zAa hE rfl ?_; simp +contextual only [hnl,↓kA,push_cast,seval,reduceCtorEq])|refine zAd ?_|fail)
 refine zAk (fun k:Nat=>AS.of [(0,.one (.val (.sl .str) l)),(3,.I k)] [] []) (fun k=>k≤l.length∧∀ i,i<k→((l.getD i ByteArray.empty).size:Int)≤400) (fun k=>l.length - k) 0 ⟨Nat.zero_le _,fun i hi=>by omega⟩ ?_ ?_
 ·refine zAf ?_ ?_ ?_<;>simp only [push_cast,seval,reduceCtorEq]
 rintro k ⟨hk,hs⟩ K' hL
 rcases Nat.lt_or_ge k l.length with h|h
 ·by_cases h2:400<((l.getD k ByteArray.empty).size:Int)
  ·have hv:=zRk h h2
   replace hnl:=And.intro hnl hv
   exact auC
  ·repeat' (first|(refine goK (by assumption) ?_; iterate 4 (try clear hK K))|(refine zAb fun K hK=>?_)|(refine zAa hE rfl ?_; simp +contextual only [hnl,↓kA,push_cast,seval,reduceCtorEq])|refine zAd ?_|(refine zAg ?_; simp only [thenQ,zAh,if_true,if_false,Nat.reduceEqDiff,reduceCtorEq])|(refine zAe (by rfl) (fun hb=>?_) (fun hb=>?_)<;>(try simp only [bq,reduceCtorEq] at hb)<;>(try omega))|refine andS ?_|fail)
   refine hL _ (k+1) ⟨by omega,fun i hi=>?_⟩ (by omega) ?_
   ·by_cases e:i=k
    ·subst e; omega
    ·exact hs i (by omega)
   refine zAf ?_ ?_ ?_<;>simp only [push_cast,seval,reduceCtorEq]
 ·obtain rfl:k=l.length:=by omega
  have hv:=zOj hs
  replace hnl:=And.intro hnl hv
  exact auC
end Go.Proofs.YtekfodeknpnkbaaGreatDoor
