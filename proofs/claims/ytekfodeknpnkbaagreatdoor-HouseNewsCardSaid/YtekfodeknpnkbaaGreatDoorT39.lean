import Derived.Test.YtekfodeknpnkbaaGreatDoorT17
import Derived.Test.YtekfodeknpnkbaaGreatDoorT26
import Derived.Test.YtekfodeknpnkbaaGreatDoorT32
import Derived.Test.YtekfodeknpnkbaaGreatDoorT34
set_option linter.unusedSimpArgs false
set_option linter.unusedVariables false
namespace Go.Proofs.YtekfodeknpnkbaaGreatDoor
open Go.RowKit Go.VS
@[push_cast] def zYh:Con:=⟨[.dat .int,.dat (.prod .str .int)],fun (x:Int×Line×Unit)=>LinePre x.2.1,fun (x:Int×Line×Unit)=>{res:=[.val .str (lineV x.1 x.2.1),.val .int (sumV x.1 (textV x.2.1.2 x.2.1.1))]}⟩
theorem zMu:FnSpec Tryz.prog 75 zYh:=by
 refine FnSpec.of_tri' (E:=know _ [] [] []) (zAl (kc zGF (kc zRM all_nil)) all_nil all_nil) Tryz.func75 rfl rfl (by kernel_rfl) ?_
 intro C x hE hnl hfit hpre
 simp only [Tryz.ntmps75,Tryz.results75,maxLen,seval,push_cast] at hnl hfit hpre ⊢
 obtain ⟨(before:Int),⟨(order:ByteArray),(least:Int)⟩,_⟩:=x
 dsimp only at hfit hpre ⊢
 obtain ⟨hb3,hb2⟩:=hpre
 dsimp only at hb2 hb3
 have h1:=zCu hb2
 have h3:spS.size=1:=rfl
 have h4:(textV least order).size=(itoaV least).size+1+order.size:=by unfold textV; rw [zAU,zAU]; rfl
 have h5:=zCi before (textV least order) (textV least order).size
 have h6:InR (sumV before (textV least order)):=by unfold InR sumV; omega
 have h7:=zCu h6
 have hT:itoaV least++spS++order=textV least order:=rfl
 have h8:(itoaV least++spS).size=(itoaV least).size+1:=zAU _ _
 have h9:(itoaV (sumV before (textV least order))++spS).size=(itoaV (sumV before (textV least order))).size+1:=zAU _ _
 replace hnl:=And.intro hnl (And.intro zNb (And.intro hT (And.intro h3 (And.intro h8 h9))))
 repeat' (first|(refine goK (by assumption) ?_; iterate 4 (try clear hK K))|(refine zAb fun K hK=>?_)|((first|refine zAa hE rfl ?_|refine zAi ?_|((first|refine zAc hE 1 rfl rfl (by kernel_rfl) ?_|refine zAc hE 2 rfl rfl (by kernel_rfl) ?_|refine zAc hE 3 rfl rfl (by kernel_rfl) ?_|refine zAc hE 4 rfl rfl (by kernel_rfl) ?_); simp only [List.length_cons,List.length_nil,Nat.reduceAdd,Nat.reduceSub,List.take_succ_cons,List.take_zero,List.drop_succ_cons,List.drop_zero])); simp +contextual only [hnl,↓kA,push_cast,seval,reduceCtorEq])|refine andS ?_|fail)
 rfl
end Go.Proofs.YtekfodeknpnkbaaGreatDoor
namespace Go.Proofs.YtekfodeknpnkbaaGreatDoor
open Go.RowKit Go.VS
@[push_cast] def zU7:Con:=⟨[.dat (.sl (.prod .str .int))],fun (x:List Line×Unit)=>WritePre x.1,fun (x:List Line×Unit)=>{res:=[.val .str (wrK x.1 x.1.length).1]}⟩
set_option maxHeartbeats 2000000 in
theorem zJt:FnSpec Tryz.prog 34 zU7:=by
 refine FnSpec.of_tri' (E:=know _ [] [] []) (zAl (kc zMu all_nil) all_nil all_nil) Tryz.func34 rfl rfl (by kernel_rfl) ?_
 intro C x hE hnl hfit hpre
 simp only [Tryz.ntmps34,Tryz.results34,maxLen,seval,push_cast] at hnl hfit hpre ⊢
 obtain ⟨(l:List Line),_⟩:=x
 dsimp only at hfit hpre ⊢
 have hpl:=hpre.len
 have hem:({data:=#[]}:ByteArray)=ByteArray.empty:=rfl
 replace hnl:=And.intro hnl hem
 repeat' (first|(refine goK (by assumption) ?_; iterate 4 (try clear hK K))|(refine zAb fun K hK=>?_)|(refine zAa hE rfl ?_; simp +contextual only [hnl,↓kA,push_cast,seval,reduceCtorEq])|refine zAd ?_|fail)
 refine zAk (fun k:Nat=>AS.of [(0,.one (.val (.sl (.prod .str .int)) l)),(3,.one (.val .str (wrK l k).1)),(4,.I (wrK l k).2),(5,.I k)] [] []) (fun k=>k≤l.length) (fun k=>l.length - k) 0 (Nat.zero_le _) ?_ ?_
 ·refine zAf ?_ ?_ ?_<;>simp only [push_cast,seval,reduceCtorEq]
  all_goals first|rfl|exact ⟨rfl,rfl⟩
 intro k hk K' hL
 rcases Nat.lt_or_ge k l.length with h|h
 ·have hx:LinePre (l.getD k (ByteArray.empty,0)):=hpre.all _ (zAJ _ h)
  have s1:=zLL hpre k (by omega)
  have s2:=zJ9 (s:=(wrK l k).2) hx
  have s3:(lineV (wrK l k).2 (l.getD k (ByteArray.empty,0))++{data:=#[10]}).size=(lineV (wrK l k).2 (l.getD k (ByteArray.empty,0))).size+1:=zAU _ _
  have s4:=zAU (wrK l k).1 (lineV (wrK l k).2 (l.getD k (ByteArray.empty,0))++{data:=#[10]})
  have s5:({data:=#[10]}:ByteArray).size=1:=rfl
  replace hnl:=And.intro hnl (And.intro (eq_true hx) (And.intro s3 (And.intro s4 s5)))
  repeat' (first|(refine goK (by assumption) ?_; iterate 4 (try clear hK K))|(refine zAb fun K hK=>?_)|(refine zAa hE rfl ?_; simp +contextual only [hnl,↓kA,push_cast,seval,reduceCtorEq])|refine zAd ?_|(refine zAg ?_; simp only [thenQ,zAh,if_true,if_false,Nat.reduceEqDiff,reduceCtorEq])|(refine zAe (by rfl) (fun hb=>?_) (fun hb=>?_)<;>(try simp only [bq,reduceCtorEq] at hb)<;>(try omega))|refine andS ?_|fail)
  refine hL _ (k+1) h (by omega) ?_
  refine zAf ?_ ?_ ?_<;>simp only [push_cast,seval,reduceCtorEq]
  all_goals first|rfl|exact ⟨rfl,rfl⟩
 ·obtain rfl:k=l.length:=by omega
  exact auC
end Go.Proofs.YtekfodeknpnkbaaGreatDoor
