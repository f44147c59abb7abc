import Derived.Test.YtekfodeknpnkbaaGreatDoorT6
set_option linter.unusedSimpArgs false
set_option linter.unusedVariables false
namespace Go.LC
open Go.OT
section
variable {w:Nat→Nat→Int} {es:List (Nat×Nat)} {r:Nat}
def zGL (b:Nat→Nat) (n x:Nat):Nat:=least (fun k=>it b k x == x) n
end
end Go.LC
namespace Go.Proofs.YtekfodeknpnkbaaGreatDoor
open Go.RowKit Go.VS
theorem zRM:FnSpec Tryz.prog 118 zUN:=by
 refine FnSpec.of_tri' (E:=know [] [] [] []) (zAl all_nil all_nil all_nil) Tryz.func118 rfl rfl (by kernel_rfl) ?_
 intro C x hE hnl hfit hpre
 simp only [Tryz.ntmps118,Tryz.results118,maxLen,seval,push_cast] at hnl hfit hpre ⊢
 obtain ⟨(n:Int),(t:ByteArray),_⟩:=x
 dsimp only at hfit hpre ⊢
 have h0:=zLF n
 repeat' (first|(refine goK (by assumption) ?_; iterate 4 (try clear hK K))|(refine zAb fun K hK=>?_)|(refine zAa hE rfl ?_; simp +contextual only [hnl,↓kA,push_cast,seval,reduceCtorEq])|refine zAd ?_|refine andS ?_|fail)
 refine zAk (fun k:Nat=>AS.of [(1,.one (.val .str t)),(5,.I (sumK n t k)),(6,.I k)] [] []) (fun k=>k≤t.size) (fun k=>t.size - k) 0 (Nat.zero_le _) ?_ ?_
 ·refine zAf ?_ ?_ ?_<;>simp only [push_cast,seval,reduceCtorEq]
  rfl
 intro k hk K' hL
 have hb1:=zCi n t k
 have hb2:((t.data.toList.getD k 0).toNat:Int)≤255:=by have:=(t.data.toList.getD k 0).toNat_lt; omega
 repeat' (first|(refine goK (by assumption) ?_; iterate 4 (try clear hK K))|(refine zAb fun K hK=>?_)|((first|refine zAa hE rfl ?_|refine zAi ?_); simp +contextual only [hnl,↓kA,push_cast,seval,reduceCtorEq])|refine zAd ?_|((first|refine zAg ?_|refine zAj ?_); simp only [thenQ,zAh,if_true,if_false,Nat.reduceEqDiff,reduceCtorEq])|(refine zAe (by rfl) (fun hb=>?_) (fun hb=>?_)<;>(try simp only [bq,reduceCtorEq] at hb)<;>(try omega))|refine andS ?_|fail)
 ·refine hL _ (k+1) (by omega) (by omega) ?_
  refine zAf ?_ ?_ ?_<;>simp only [push_cast,seval,reduceCtorEq]
  rfl
 ·obtain rfl:k=t.size:=by omega
  rfl
end Go.Proofs.YtekfodeknpnkbaaGreatDoor
