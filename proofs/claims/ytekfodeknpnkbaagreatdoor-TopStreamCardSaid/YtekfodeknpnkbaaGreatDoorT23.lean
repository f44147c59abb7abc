import Derived.Test.YtekfodeknpnkbaaGreatDoorT13
import Derived.Test.YtekfodeknpnkbaaGreatDoorT22
set_option linter.unusedSimpArgs false
set_option linter.unusedVariables false
namespace Go.OT
section
variable {R C:Nat} {a b:Nat→Int} {c q:Nat→Nat→Int} {u v:Nat→Int} {w:Int}
theorem zRl (hq:IsPart R C a b q) (h:Holds R C c u v) (hu:∀ i,i<R→u i≤w) (hv:∀ j,j<C→v j≤w):worth R C a b u v≤cst R C c q+w*(sg R a+sg C b - 2*units R C q):=by
 have h1:cst R C (fun i j=>u i+v j) q≤cst R C c q:=sg_le R fun i hi=>sg_le C fun j hj=>Int.mul_le_mul_of_nonneg_right (h i j hi hj) (hq.nn i j hi hj)
 rw [zFE] at h1
 unfold worth at h1 ⊢
 have h2:sg R (fun i=>a i*u i)≤sg R (fun i=>rowS C q i*u i)+w*(sg R a - units R C q):=by
  have e:w*(sg R a - units R C q)=sg R (fun i=>w*(a i - rowS C q i)):=by
   rw [zFx,zGT]; rfl
  rw [e,←zCO]
  refine sg_le R fun i hi=>?_
  have k1:=hq.row i hi
  have k2:=Int.mul_le_mul_of_nonneg_left (hu i hi) (show 0≤a i - rowS C q i by omega)
  rw [Int.sub_mul] at k2
  rw [Int.mul_comm w]
  omega
 have h3:sg C (fun j=>b j*v j)≤sg C (fun j=>colS R q j*v j)+w*(sg C b - units R C q):=by
  have e:w*(sg C b - units R C q)=sg C (fun j=>w*(b j - colS R q j)):=by
   rw [zFx,zGT,←zCJ]
  rw [e,←zCO]
  refine sg_le C fun j hj=>?_
  have k1:=hq.col j hj
  have k2:=Int.mul_le_mul_of_nonneg_left (hv j hj) (show 0≤b j - colS R q j by omega)
  rw [Int.sub_mul] at k2
  rw [Int.mul_comm w]
  omega
 rw [show sg R a+sg C b - 2*units R C q=(sg R a - units R C q)+(sg C b - units R C q) by omega,Int.mul_add]
 omega
end
section
variable {a b:List Int} {c:List (List Int)}
end
end Go.OT
namespace Go.Proofs.YtekfodeknpnkbaaGreatDoor
open Go.RowKit Go.VS
end Go.Proofs.YtekfodeknpnkbaaGreatDoor
namespace Go.Proofs.YtekfodeknpnkbaaGreatDoor
open Go.RowKit Go.VS
theorem zUD:FnSpec Tryz.prog 46 zLG:=by
 refine FnSpec.of_tri' (E:=know [] [] [] []) (zAl all_nil all_nil all_nil) Tryz.func46 rfl rfl (by kernel_rfl) ?_
 intro C x hE hnl hfit hpre
 simp only [Tryz.ntmps46,Tryz.results46,maxLen,seval,push_cast] at hnl hfit hpre ⊢
 obtain ⟨(l:List Int),_⟩:=x
 dsimp only at hfit hpre ⊢
 repeat' (first|(refine goK (by assumption) ?_; iterate 4 (try clear hK K))|(refine zAb fun K hK=>?_)|((first|refine zAa hE rfl ?_|refine zAi ?_); simp +contextual only [hnl,↓kA,push_cast,seval,reduceCtorEq,cI])|refine zAd ?_|((first|refine zAg ?_|refine zAj ?_); simp only [thenQ,zAh,if_true,if_false,Nat.reduceEqDiff,reduceCtorEq])|(refine zAe (by rfl) (fun hb=>?_) (fun hb=>?_)<;>(try simp only [bq,reduceCtorEq] at hb)<;>(try omega))|refine zAr (by rfl) ?_ ?_|refine andS ?_|(refine ⟨fun hc=>?_,fun hc=>?_⟩)|(intro hc; try omega))
 refine zAk (fun k:Nat=>AS.of [(0,.one (.val (.sl .int) l)),(3,.I (lsum (l.take k))),(4,.I k)] [] []) (fun k=>k≤l.length) (fun k=>l.length - k) 0 (Nat.zero_le _) ?_ ?_
 ·refine zAf ?_ ?_ ?_<;>simp only [push_cast,seval,reduceCtorEq,cI]
  simp [lsum]
 intro k hk K' hL
 repeat' (first|(refine goK (by assumption) ?_; iterate 4 (try clear hK K))|(refine zAb fun K hK=>?_)|((first|refine zAa hE rfl ?_|refine zAi ?_); simp +contextual only [hnl,↓kA,push_cast,seval,reduceCtorEq,cI])|refine zAd ?_|((first|refine zAg ?_|refine zAj ?_); simp only [thenQ,zAh,if_true,if_false,Nat.reduceEqDiff,reduceCtorEq])|(refine zAe (by rfl) (fun hb=>?_) (fun hb=>?_)<;>(try simp only [bq,reduceCtorEq] at hb)<;>(try omega))|refine zAr (by rfl) ?_ ?_|refine andS ?_|(refine ⟨fun hc=>?_,fun hc=>?_⟩)|(intro hc; try omega))
 ·refine ⟨by rw [←zBH l k (by omega)]; exact hpre _,?_⟩
  repeat' (first|(refine goK (by assumption) ?_; iterate 4 (try clear hK K))|(refine zAb fun K hK=>?_)|((first|refine zAa hE rfl ?_|refine zAi ?_); simp +contextual only [hnl,↓kA,push_cast,seval,reduceCtorEq,cI])|refine zAd ?_|((first|refine zAg ?_|refine zAj ?_); simp only [thenQ,zAh,if_true,if_false,Nat.reduceEqDiff,reduceCtorEq])|(refine zAe (by rfl) (fun hb=>?_) (fun hb=>?_)<;>(try simp only [bq,reduceCtorEq] at hb)<;>(try omega))|refine zAr (by rfl) ?_ ?_|refine andS ?_|(refine ⟨fun hc=>?_,fun hc=>?_⟩)|(intro hc; try omega))
  refine hL _ (k+1) (by omega) (by omega) ?_
  refine zAf ?_ ?_ ?_<;>simp only [push_cast,seval,reduceCtorEq,cI]
  exact (zBH l k (by omega)).symm
 ·obtain rfl:k=l.length:=by omega
  simp
end Go.Proofs.YtekfodeknpnkbaaGreatDoor
namespace Go.Proofs.YtekfodeknpnkbaaGreatDoor
open Go.RowKit Go.VS
end Go.Proofs.YtekfodeknpnkbaaGreatDoor
namespace Go.Proofs.YtekfodeknpnkbaaGreatDoor
open Go.RowKit Go.VS
end Go.Proofs.YtekfodeknpnkbaaGreatDoor
