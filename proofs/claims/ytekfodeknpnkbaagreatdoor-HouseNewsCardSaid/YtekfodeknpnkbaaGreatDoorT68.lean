import Derived.Test.YtekfodeknpnkbaaGreatDoorT20
import Derived.Test.YtekfodeknpnkbaaGreatDoorT52
import Derived.Test.YtekfodeknpnkbaaGreatDoorT53
import Derived.Test.YtekfodeknpnkbaaGreatDoorT65
set_option linter.unusedSimpArgs false
set_option linter.unusedVariables false
namespace Go.Proofs.YtekfodeknpnkbaaGreatDoor
open Go.RowKit Go.VS
@[push_cast] def zRm:Con:=⟨[.nilp],fun _=>True,fun _=>{res:=[.val (.sl .int) [],.val (.sl .int) []]}⟩
theorem zMz:FnSpec Tryz.prog 28 zRm:=by
 refine FnSpec.of_tri' (E:=know [] [] [] []) (zAl all_nil all_nil all_nil) Tryz.func28 rfl rfl (by kernel_rfl) ?_
 intro C x hE hnl hfit hpre
 simp only [Tryz.ntmps28,Tryz.results28,maxLen,seval,push_cast] at hnl hfit hpre ⊢
 obtain ⟨⟨⟩,_⟩:=x
 try dsimp only at hfit hpre ⊢
 have hem:({data:=#[]}:ByteArray)=ByteArray.empty:=rfl
 replace hnl:=And.intro hnl hem
 exact auA
@[push_cast] def zRv:Con:=⟨[.nilp],fun _=>True,fun _=>{res:=[.val (.prod (.sl .int) (.sl .int)) ([],[])]}⟩
theorem zMO:FnSpec Tryz.prog 38 zRv:=by
 refine FnSpec.of_tri' (E:=know [] [] [] []) (zAl all_nil all_nil all_nil) Tryz.func38 rfl rfl (by kernel_rfl) ?_
 intro C x hE hnl hfit hpre
 simp only [Tryz.ntmps38,Tryz.results38,maxLen,seval,push_cast] at hnl hfit hpre ⊢
 obtain ⟨⟨⟩,_⟩:=x
 try dsimp only at hfit hpre ⊢
 have hem:({data:=#[]}:ByteArray)=ByteArray.empty:=rfl
 replace hnl:=And.intro hnl hem
 exact auA
@[push_cast] def zZt:Con:=⟨[.nilp,.dat .str],fun _=>True,fun _=>{res:=[.val .int 1]}⟩
theorem zVr:FnSpec Tryz.prog 18 zZt:=by
 refine FnSpec.of_tri' (E:=know [] [] [] []) (zAl all_nil all_nil all_nil) Tryz.func18 rfl rfl (by kernel_rfl) ?_
 intro C x hE hnl hfit hpre
 simp only [Tryz.ntmps18,Tryz.results18,maxLen,seval,push_cast] at hnl hfit hpre ⊢
 obtain ⟨⟨⟩,(t:ByteArray),_⟩:=x
 try dsimp only at hfit hpre ⊢
 have hem:({data:=#[]}:ByteArray)=ByteArray.empty:=rfl
 replace hnl:=And.intro hnl hem
 exact auA
@[push_cast] def zTk:Con:=⟨[.nilp,.dat (.sl (.sl .int)),.dat (.prod (.sl .int) (.sl .int))],fun _=>True,fun _=>{res:=[.val .int 1]}⟩
theorem zOg:FnSpec Tryz.prog 36 zTk:=by
 refine FnSpec.of_tri' (E:=know [] [] [] []) (zAl all_nil all_nil all_nil) Tryz.func36 rfl rfl (by kernel_rfl) ?_
 intro C x hE hnl hfit hpre
 simp only [Tryz.ntmps36,Tryz.results36,maxLen,seval,push_cast] at hnl hfit hpre ⊢
 obtain ⟨⟨⟩,(p:List (List Int)),(r:List Int×List Int),_⟩:=x
 try dsimp only at hfit hpre ⊢
 have hem:({data:=#[]}:ByteArray)=ByteArray.empty:=rfl
 replace hnl:=And.intro hnl hem
 exact auA
@[push_cast] def zST:Con:=⟨[.nilp],fun _=>True,fun _=>{res:=[.val (.sl (.sl .int)) []]}⟩
theorem zNW:FnSpec Tryz.prog 30 zST:=by
 refine FnSpec.of_tri' (E:=know [] [] [] []) (zAl all_nil all_nil all_nil) Tryz.func30 rfl rfl (by kernel_rfl) ?_
 intro C x hE hnl hfit hpre
 simp only [Tryz.ntmps30,Tryz.results30,maxLen,seval,push_cast] at hnl hfit hpre ⊢
 obtain ⟨⟨⟩,_⟩:=x
 try dsimp only at hfit hpre ⊢
 have hem:({data:=#[]}:ByteArray)=ByteArray.empty:=rfl
 replace hnl:=And.intro hnl hem
 exact auA
@[push_cast] def zU1:Con:=⟨[.nilp],fun _=>True,fun _=>{res:=[.val .int 0]}⟩
theorem zO9:FnSpec Tryz.prog 31 zU1:=by
 refine FnSpec.of_tri' (E:=know [] [] [] []) (zAl all_nil all_nil all_nil) Tryz.func31 rfl rfl (by kernel_rfl) ?_
 intro C x hE hnl hfit hpre
 simp only [Tryz.ntmps31,Tryz.results31,maxLen,seval,push_cast] at hnl hfit hpre ⊢
 obtain ⟨⟨⟩,_⟩:=x
 try dsimp only at hfit hpre ⊢
 have hem:({data:=#[]}:ByteArray)=ByteArray.empty:=rfl
 replace hnl:=And.intro hnl hem
 exact auA
@[push_cast] def zTr:Con:=⟨[.nilp],fun _=>True,fun _=>{res:=[.val .int 0]}⟩
theorem zOh:FnSpec Tryz.prog 22 zTr:=by
 refine FnSpec.of_tri' (E:=know [] [] [] []) (zAl all_nil all_nil all_nil) Tryz.func22 rfl rfl (by kernel_rfl) ?_
 intro C x hE hnl hfit hpre
 simp only [Tryz.ntmps22,Tryz.results22,maxLen,seval,push_cast] at hnl hfit hpre ⊢
 obtain ⟨⟨⟩,_⟩:=x
 try dsimp only at hfit hpre ⊢
 have hem:({data:=#[]}:ByteArray)=ByteArray.empty:=rfl
 replace hnl:=And.intro hnl hem
 exact auA
@[push_cast] def zWt:Con:=⟨[.nilp],fun _=>True,fun _=>{res:=[.val (.sl (.sl .int)) []]}⟩
theorem zRu:FnSpec Tryz.prog 33 zWt:=by
 refine FnSpec.of_tri' (E:=know [] [] [] []) (zAl all_nil all_nil all_nil) Tryz.func33 rfl rfl (by kernel_rfl) ?_
 intro C x hE hnl hfit hpre
 simp only [Tryz.ntmps33,Tryz.results33,maxLen,seval,push_cast] at hnl hfit hpre ⊢
 obtain ⟨⟨⟩,_⟩:=x
 try dsimp only at hfit hpre ⊢
 have hem:({data:=#[]}:ByteArray)=ByteArray.empty:=rfl
 replace hnl:=And.intro hnl hem
 exact auA
@[push_cast] def zVh:Con:=⟨[.nilp],fun _=>True,fun _=>{res:=[.val .str ByteArray.empty]}⟩
theorem zQv:FnSpec Tryz.prog 23 zVh:=by
 refine FnSpec.of_tri' (E:=know [] [] [] []) (zAl all_nil all_nil all_nil) Tryz.func23 rfl rfl (by kernel_rfl) ?_
 intro C x hE hnl hfit hpre
 simp only [Tryz.ntmps23,Tryz.results23,maxLen,seval,push_cast] at hnl hfit hpre ⊢
 obtain ⟨⟨⟩,_⟩:=x
 try dsimp only at hfit hpre ⊢
 have hem:({data:=#[]}:ByteArray)=ByteArray.empty:=rfl
 replace hnl:=And.intro hnl hem
 exact auA
@[push_cast] def zSy:Con:=⟨[.nilp],fun _=>True,fun _=>{res:=[.val .bool false]}⟩
theorem zNF:FnSpec Tryz.prog 39 zSy:=by
 refine FnSpec.of_tri' (E:=know [] [] [] []) (zAl all_nil all_nil all_nil) Tryz.func39 rfl rfl (by kernel_rfl) ?_
 intro C x hE hnl hfit hpre
 simp only [Tryz.ntmps39,Tryz.results39,maxLen,seval,push_cast] at hnl hfit hpre ⊢
 obtain ⟨⟨⟩,_⟩:=x
 try dsimp only at hfit hpre ⊢
 have hem:({data:=#[]}:ByteArray)=ByteArray.empty:=rfl
 replace hnl:=And.intro hnl hem
 exact auA
@[push_cast] def zWi:Con:=⟨[.dat (.sl (.sl .int)),.dat .str,.dat (.sl (.sl .int))],fun _=>True,fun _=>{res:=[.val .bool true]}⟩
set_option maxRecDepth 20000 in
set_option maxHeartbeats 16000000 in
theorem zRo:FnSpec Tryz.prog 10 zWi:=by
 refine FnSpec.of_triP (E:=know _ [] [] []) (zAl (kc zMz (kc zMO (kc zVr (kc zOg (kc zNW (kc zO9 (kc zOh (kc zRu (kc zQv (kc zNF all_nil)))))))))) all_nil all_nil) Tryz.func10 rfl rfl (by kernel_rfl) ?_
 intro C x hP hE hnl hfit hpre
 simp only [Tryz.ntmps10,Tryz.results10,maxLen,seval,push_cast] at hnl hfit hpre ⊢
 obtain ⟨(q:List (List Int)),(t:ByteArray),(P:List (List Int)),_⟩:=x
 dsimp only at hfit hpre ⊢
 have hem:({data:=#[]}:ByteArray)=ByteArray.empty:=rfl
 have hnl0:=hnl
 replace hnl:=And.intro hnl hem
 (refine zAb fun K hK0=>?_; have hS:=Stop.mk hK0; clear hK0; (repeat' (first|(refine goK (by assumption) ?_; iterate 4 (try clear hK K))|(refine zAb fun K hK=>?_)|((first|refine zAa hE rfl ?_|refine zAi ?_); simp +contextual only [hnl,↓kA,push_cast,seval,reduceCtorEq,cI])|refine zAd ?_|((first|refine zAg ?_|refine zAj ?_); simp only [thenQ,zAh,if_true,if_false,Nat.reduceEqDiff,reduceCtorEq])|(refine zAe (by rfl) (fun hb=>?_) (fun hb=>?_)<;>(try simp only [bq,reduceCtorEq] at hb)<;>(try omega))|refine zAr (by rfl) ?_ ?_|refine andS ?_|(refine ⟨fun hc=>?_,fun hc=>?_⟩)|(intro hc; try omega))); refine hS.h _ ?_; clear hS K)
 (refine zAb fun K hK0=>?_; have hS:=Stop.mk hK0; clear hK0; (repeat' (first|(refine goK (by assumption) ?_; iterate 4 (try clear hK K))|(refine zAb fun K hK=>?_)|((first|refine zAa hE rfl ?_|refine zAi ?_); simp +contextual only [hnl,↓kA,push_cast,seval,reduceCtorEq,cI])|refine zAd ?_|((first|refine zAg ?_|refine zAj ?_); simp only [thenQ,zAh,if_true,if_false,Nat.reduceEqDiff,reduceCtorEq])|(refine zAe (by rfl) (fun hb=>?_) (fun hb=>?_)<;>(try simp only [bq,reduceCtorEq] at hb)<;>(try omega))|refine zAr (by rfl) ?_ ?_|refine andS ?_|(refine ⟨fun hc=>?_,fun hc=>?_⟩)|(intro hc; try omega))); refine hS.h _ ?_; clear hS K)
 (refine zAb fun K hK0=>?_; have hS:=Stop.mk hK0; clear hK0; (repeat' (first|(refine goK (by assumption) ?_; iterate 4 (try clear hK K))|(refine zAb fun K hK=>?_)|((first|refine zAa hE rfl ?_|refine zAi ?_); simp +contextual only [hnl,↓kA,push_cast,seval,reduceCtorEq,cI])|refine zAd ?_|((first|refine zAg ?_|refine zAj ?_); simp only [thenQ,zAh,if_true,if_false,Nat.reduceEqDiff,reduceCtorEq])|(refine zAe (by rfl) (fun hb=>?_) (fun hb=>?_)<;>(try simp only [bq,reduceCtorEq] at hb)<;>(try omega))|refine zAr (by rfl) ?_ ?_|refine andS ?_|(refine ⟨fun hc=>?_,fun hc=>?_⟩)|(intro hc; try omega))); refine hS.h _ ?_; clear hS K)
 (refine zAb fun K hK0=>?_; have hS:=Stop.mk hK0; clear hK0; (repeat' (first|(refine goK (by assumption) ?_; iterate 4 (try clear hK K))|(refine zAb fun K hK=>?_)|((first|refine zAa hE rfl ?_|refine zAi ?_); simp +contextual only [hnl,↓kA,push_cast,seval,reduceCtorEq,cI])|refine zAd ?_|((first|refine zAg ?_|refine zAj ?_); simp only [thenQ,zAh,if_true,if_false,Nat.reduceEqDiff,reduceCtorEq])|(refine zAe (by rfl) (fun hb=>?_) (fun hb=>?_)<;>(try simp only [bq,reduceCtorEq] at hb)<;>(try omega))|refine zAr (by rfl) ?_ ?_|refine andS ?_|(refine ⟨fun hc=>?_,fun hc=>?_⟩)|(intro hc; try omega))); refine hS.h _ ?_; clear hS K)
 (refine zAb fun K hK0=>?_; have hS:=Stop.mk hK0; clear hK0; (repeat' (first|(refine goK (by assumption) ?_; iterate 4 (try clear hK K))|(refine zAb fun K hK=>?_)|((first|refine zAa hE rfl ?_|refine zAi ?_); simp +contextual only [hnl,↓kA,push_cast,seval,reduceCtorEq,cI])|refine zAd ?_|((first|refine zAg ?_|refine zAj ?_); simp only [thenQ,zAh,if_true,if_false,Nat.reduceEqDiff,reduceCtorEq])|(refine zAe (by rfl) (fun hb=>?_) (fun hb=>?_)<;>(try simp only [bq,reduceCtorEq] at hb)<;>(try omega))|refine zAr (by rfl) ?_ ?_|refine andS ?_|(refine ⟨fun hc=>?_,fun hc=>?_⟩)|(intro hc; try omega))); refine hS.h _ ?_; clear hS K)
 have hE2:KnowOK C.P (know [(13,zU3),(15,zMm),(16,zPj),(17,zMf),(20,zMd),(39,zPi)] [] []):=by rw [hP]; exact zAl (all_cons zDg (all_cons zBU (all_cons zCQ (all_cons zCU (all_cons zDK (all_cons zFC all_nil)))))) all_nil all_nil
 clear hE
 have hE:=hE2
 clear hE2
 by_cases he:zAu q=0
 rotate_left
 ·replace hnl:=And.intro hnl0 (eq_false he)
  exact auA
 have hin:=zAR he
 have hr:=HR.new hin
 have hg:Good (newH q):=zIB hin Hist.new
 obtain ⟨⟨⟨⟩,⟨⟩,(f:List (List Int)),(c:List (List Int)),(a:List Int),(b:List Int),(w:Int),(ord:List ByteArray),(bk:ByteArray),⟨⟩⟩,hh⟩:∃ h2,newH q=h2:=⟨_,rfl⟩
 obtain ⟨⟨(rc:List (List Int)),(ra:List Int),(rb:List Int),(rw:Int),(rn:Int),(rl:List Line),⟨⟩⟩,hx⟩:∃ x2,newR q=x2:=⟨_,rfl⟩
 rw [hh] at hg hr
 rw [hx] at hr
 replace hnl:=And.intro hnl0 (And.intro he (And.intro hh (And.intro hx (And.intro (eq_true hr) (eq_true hg)))))
 exact auA
end Go.Proofs.YtekfodeknpnkbaaGreatDoor
