import Derived.Test.YtekfodeknpnkbaaGreatDoorT39
import Derived.Test.YtekfodeknpnkbaaGreatDoorT45
import Derived.Test.YtekfodeknpnkbaaGreatDoorT46
import Derived.Test.YtekfodeknpnkbaaGreatDoorT51
set_option linter.unusedSimpArgs false
set_option linter.unusedVariables false
namespace Go.Proofs.YtekfodeknpnkbaaGreatDoor
open Go.RowKit Go.VS
@[push_cast] def zVj:Con:=⟨[.obj rFs],fun (x:RX×Unit)=>WritePre (rLn x.1),fun (x:RX×Unit)=>{res:=[.val .str (wrK (rLn x.1) (rLn x.1).length).1],objs:=[(0,⟨rFs,x.1⟩)]}⟩
theorem zQw:FnSpec Tryz.prog 62 zVj:=by
 refine FnSpec.of_tri' (E:=know _ [] [] []) (zAl (kc zJt all_nil) all_nil all_nil) Tryz.func62 rfl rfl (by kernel_rfl) ?_
 intro C x hE hnl hfit hpre
 simp only [Tryz.ntmps62,Tryz.results62,maxLen,seval,push_cast] at hnl hfit hpre ⊢
 obtain ⟨⟨(c:List (List Int)),(a:List Int),(b:List Int),(w:Int),(n:Int),(L:List Line),⟨⟩⟩,_⟩:=x
 dsimp only at hfit hpre ⊢
 have hp:WritePre L:=hpre
 replace hnl:=And.intro hnl (eq_true hp)
 simp only [rLn,push_cast] at hnl ⊢
 exact auB
end Go.Proofs.YtekfodeknpnkbaaGreatDoor
namespace Go.Proofs.YtekfodeknpnkbaaGreatDoor
open Go.RowKit Go.VS Go.OT
theorem HR.rinv {h:HX} {x:RX} (q:HR h x):RInv x:=⟨by rw [q.st]; exact q.hl.inv.st,by rw [q.st]; exact q.ls,q.hl.len.2,q.hl.ln⟩
end Go.Proofs.YtekfodeknpnkbaaGreatDoor
namespace Go.Proofs.YtekfodeknpnkbaaGreatDoor
open Go.RowKit Go.VS
@[push_cast] def zMd:Con:=⟨[.obj hFs,.obj rFs],fun (x:HX×RX×Unit)=>HR x.1 x.2.1,fun (x:HX×RX×Unit)=>{res:=[.val .bool true],objs:=[(0,⟨hFs,x.1⟩),(1,⟨rFs,x.2.1⟩)]}⟩
set_option maxHeartbeats 8000000 in
theorem zDK:FnSpec Tryz.prog 20 zMd:=by
 refine FnSpec.of_tri' (E:=know _ [] [] []) (zAl (kc zD0 (kc zHl (kc zOz (kc zGb (kc zEX (kc zB7 (kc zEg (kc zQw all_nil)))))))) all_nil all_nil) Tryz.func20 rfl rfl (by kernel_rfl) ?_
 intro C x hE hnl hfit hpre
 simp only [Tryz.ntmps20,Tryz.results20,maxLen,seval,push_cast] at hnl hfit hpre ⊢
 obtain ⟨⟨⟨⟩,⟨⟩,(f:List (List Int)),(c:List (List Int)),(a:List Int),(b:List Int),(w:Int),(ord:List ByteArray),(bk:ByteArray),⟨⟩⟩,⟨(c2:List (List Int)),(a2:List Int),(b2:List Int),(w2:Int),(n:Int),(L:List Line),⟨⟩⟩,_⟩:=x
 dsimp only at hfit hpre ⊢
 have hbk:=hpre.book
 have hwp:WritePre L:=hpre.rinv.wr
 have hsz:StateSz (c,a,b,w):=hpre.hl.inv.st.sz
 have hst:(c2,a2,b2,w2)=(c,a,b,w):=hpre.st
 have hls:n=lst (c,a,b,w):=hpre.ls
 obtain ⟨rfl,rfl,rfl,rfl⟩:c=c2∧a=a2∧b=b2∧w=w2:=by simpa [eq_comm] using hst
 have hbk':bk=(wrK L L.length).1:=hbk
 subst hls
 subst hbk'
 replace hnl:=And.intro hnl (And.intro (eq_true hsz) (eq_true hwp))
 simp only [hSt,hBk,lst,rLn,push_cast] at hnl ⊢
 repeat' (first|(refine goK (by assumption) ?_; iterate 4 (try clear hK K))|(refine zAb fun K hK=>?_)|((first|refine zAa hE rfl ?_|refine zAi ?_); simp +contextual only [hnl,↓kA,push_cast,seval,reduceCtorEq,cI])|refine zAd ?_|((first|refine zAg ?_|refine zAj ?_); simp only [thenQ,zAh,if_true,if_false,Nat.reduceEqDiff,reduceCtorEq])|(refine zAe (by rfl) (fun hb=>?_) (fun hb=>?_)<;>(try simp only [bq,reduceCtorEq] at hb)<;>(try omega))|refine zAr (by rfl) ?_ ?_|refine andS ?_|(refine ⟨fun hc=>?_,fun hc=>?_⟩)|(intro hc; try omega))
 refine zAo (t:=AS.of [(0,.one (.box 0)),(1,.one (.box 1)),(5,.one (.val (.sl .int) a)),(6,.one (.val (.sl .int) b))] [] [(0,.rcd [.raw (.int .i32 0),.raw (.int .u32 0),.val (.sl (.sl .int)) f,.val (.sl (.sl .int)) c,.val (.sl .int) a,.val (.sl .int) b,.val .int w,.mk 0 9 .str ord,.val .str (wrK L L.length).1]),(1,.rcd [.val (.sl (.sl .int)) c,.val (.sl .int) a,.val (.sl .int) b,.val .int w,.val .int (zA9 a b c w),.val (.sl (.prod .str .int)) L])]) ?_ ?_
 ·refine zAf ?_ ?_ ?_<;>simp only [push_cast,seval,reduceCtorEq,cI]
  all_goals first|rfl|exact ⟨rfl,rfl⟩|trace_state
 refine zBL hE (fun D s=>s.env 0=.one (.box 0) ∧
  s.env 1=.one (.box 1) ∧
  s.env 5=.one (.val (.sl .int) a) ∧
  s.env 6=.one (.val (.sl .int) b) ∧
  s.boxes 0=some (.rcd [.raw (.int .i32 0),.raw (.int .u32 0),.val (.sl (.sl .int)) f,.val (.sl (.sl .int)) c,.val (.sl .int) a,.val (.sl .int) b,.val .int w,.mk 0 9 .str ord,.val .str (wrK L L.length).1]) ∧
  s.boxes 1=some (.rcd [.val (.sl (.sl .int)) c,.val (.sl .int) a,.val (.sl .int) b,.val .int w,.val .int (zA9 a b c w),.val (.sl (.prod .str .int)) L]) ∧
  (D 0=true→s.env 12=.one (.val (.sl .int) a)) ∧
  (D 1=true→s.env 13=.one (.box 1)) ∧
  (D 2=true→s.env 14=.one (.box 1)) ∧
  (D 3=true→s.env 15=.one (.boxf 1 6 1 1)) ∧
  (D 4=true→s.env 16=.one (.val (.sl .int) a)) ∧
  (D 5=true→s.env 17=.one (.val .bool true)) ∧
  (D 6=true→s.env 18=.one (.val .bool true)) ∧
  (D 7=true→s.env 19=.one (.val (.sl .int) b)) ∧
  (D 8=true→s.env 20=.one (.box 1)) ∧
  (D 9=true→s.env 21=.one (.box 1)) ∧
  (D 10=true→s.env 22=.one (.boxf 1 6 2 2)) ∧
  (D 11=true→s.env 23=.one (.val (.sl .int) b)) ∧
  (D 12=true→s.env 24=.one (.val .bool true)) ∧
  (D 13=true→s.env 25=.one (.val .bool true)) ∧
  (D 14=true→s.env 26=.one (.val .bool true)) ∧
  (D 15=true→s.env 27=.one (.box 0)) ∧
  (D 16=true→s.env 28=.one (.val (.sl (.sl .int)) c)) ∧
  (D 17=true→s.env 29=.one (.box 1)) ∧
  (D 18=true→s.env 30=.one (.box 1)) ∧
  (D 19=true→s.env 31=.one (.boxf 1 6 0 0)) ∧
  (D 20=true→s.env 32=.one (.val (.sl (.sl .int)) c)) ∧
  (D 21=true→s.env 33=.one (.val .bool true)) ∧
  (D 22=true→s.env 34=.one (.val .bool true)) ∧
  (D 23=true→s.env 35=.one (.val .bool true)) ∧
  (D 24=true→s.env 36=.one (.box 0)) ∧
  (D 25=true→s.env 37=.one (.val .int w)) ∧
  (D 26=true→s.env 38=.one (.box 1)) ∧
  (D 27=true→s.env 39=.one (.box 1)) ∧
  (D 28=true→s.env 40=.one (.boxf 1 6 3 3)) ∧
  (D 29=true→s.env 41=.one (.val .int w)) ∧
  (D 30=true→s.env 42=.one (.val .bool true)) ∧
  (D 31=true→s.env 43=.one (.val .bool true)) ∧
  (D 32=true→s.env 44=.one (.val .bool true)) ∧
  (D 33=true→s.env 45=.one (.box 0)) ∧
  (D 34=true→s.env 46=.one (.val .int (zA9 a b c w))) ∧
  (D 35=true→s.env 47=.one (.box 1)) ∧
  (D 36=true→s.env 48=.one (.box 1)) ∧
  (D 37=true→s.env 49=.one (.boxf 1 6 4 4)) ∧
  (D 38=true→s.env 50=.one (.val .int (zA9 a b c w))) ∧
  (D 39=true→s.env 51=.one (.val .bool true)) ∧
  (D 40=true→s.env 52=.one (.val .bool true)) ∧
  (D 41=true→s.env 53=.one (.val .bool true)) ∧
  (D 42=true→s.env 54=.one (.box 0)) ∧
  (D 43=true→s.env 55=.one (.val .str (wrK L L.length).1)) ∧
  (D 44=true→s.env 56=.one (.box 1)) ∧
  (D 45=true→s.env 57=.one (.val .str (wrK L L.length).1)) ∧
  (D 46=true→s.env 58=.one (.val .bool true)) ∧
  (D 47=true→s.env 59=.one (.val .bool true)) ∧
  (D 48=true→s.env 4=.one (.val .bool true))) rfl (by kernel_rfl) ?_ ?_ ?_
 ·dsimp only
  simp only [push_cast,seval,reduceCtorEq,cI]
 ·refine ⟨fun D s h0 hp hI=>?_,fun D s h0 hp hI=>?_,fun D s h0 hp hI=>?_,fun D s h0 hp hI=>?_,fun D s h0 hp hI=>?_,fun D s h0 hp hI=>?_,fun D s h0 hp hI=>?_,fun D s h0 hp hI=>?_,fun D s h0 hp hI=>?_,fun D s h0 hp hI=>?_,fun D s h0 hp hI=>?_,fun D s h0 hp hI=>?_,fun D s h0 hp hI=>?_,fun D s h0 hp hI=>?_,fun D s h0 hp hI=>?_,fun D s h0 hp hI=>?_,fun D s h0 hp hI=>?_,fun D s h0 hp hI=>?_,fun D s h0 hp hI=>?_,fun D s h0 hp hI=>?_,fun D s h0 hp hI=>?_,fun D s h0 hp hI=>?_,fun D s h0 hp hI=>?_,fun D s h0 hp hI=>?_,fun D s h0 hp hI=>?_,fun D s h0 hp hI=>?_,fun D s h0 hp hI=>?_,fun D s h0 hp hI=>?_,fun D s h0 hp hI=>?_,fun D s h0 hp hI=>?_,fun D s h0 hp hI=>?_,fun D s h0 hp hI=>?_,fun D s h0 hp hI=>?_,fun D s h0 hp hI=>?_,fun D s h0 hp hI=>?_,fun D s h0 hp hI=>?_,fun D s h0 hp hI=>?_,fun D s h0 hp hI=>?_,fun D s h0 hp hI=>?_,fun D s h0 hp hI=>?_,fun D s h0 hp hI=>?_,fun D s h0 hp hI=>?_,fun D s h0 hp hI=>?_,fun D s h0 hp hI=>?_,fun D s h0 hp hI=>?_,fun D s h0 hp hI=>?_,fun D s h0 hp hI=>?_,fun D s h0 hp hI=>?_,fun D s h0 hp hI=>?_,trivial⟩
  all_goals obtain ⟨e0,e1,e5,e6,b0,b1,f0,f1,f2,f3,f4,f5,f6,f7,f8,f9,f10,f11,f12,f13,f14,f15,f16,f17,f18,f19,f20,f21,f22,f23,f24,f25,f26,f27,f28,f29,f30,f31,f32,f33,f34,f35,f36,f37,f38,f39,f40,f41,f42,f43,f44,f45,f46,f47,f48⟩:=hI
  all_goals (try simp [preds,Region.binds] at hp)
  all_goals (simp +contextual only [*,setD,hSt,hBk,lst,rLn,↓kN,↓kP,↓kG,push_cast,seval,reduceCtorEq,cI])
  all_goals first|omega|(refine ⟨?_,?_⟩<;>omega)
 intro D s hD hI
 obtain ⟨e0,e1,e5,e6,b0,b1,f0,f1,f2,f3,f4,f5,f6,f7,f8,f9,f10,f11,f12,f13,f14,f15,f16,f17,f18,f19,f20,f21,f22,f23,f24,f25,f26,f27,f28,f29,f30,f31,f32,f33,f34,f35,f36,f37,f38,f39,f40,f41,f42,f43,f44,f45,f46,f47,f48⟩:=hI
 have v1:=f48 (hD 48 (by decide))
 refine hK _ ?_
 refine zAo (t:=AS.of [(4,.one (.val .bool true))] [] [(0,.rcd [.raw (.int .i32 0),.raw (.int .u32 0),.val (.sl (.sl .int)) f,.val (.sl (.sl .int)) c,.val (.sl .int) a,.val (.sl .int) b,.val .int w,.mk 0 9 .str ord,.val .str (wrK L L.length).1]),(1,.rcd [.val (.sl (.sl .int)) c,.val (.sl .int) a,.val (.sl .int) b,.val .int w,.val .int (zA9 a b c w),.val (.sl (.prod .str .int)) L])]) ?_ ?_
 ·refine zAf ?_ ?_ ?_<;>simp only [v1,b0,b1,push_cast,seval,reduceCtorEq,cI]
  all_goals first|exact ⟨_,rfl⟩|skip
 clear hK
 repeat' (first|(refine goK (by assumption) ?_; iterate 4 (try clear hK K))|(refine zAb fun K hK=>?_)|((first|refine zAa hE rfl ?_|refine zAi ?_); simp +contextual only [hnl,↓kA,push_cast,seval,reduceCtorEq,cI])|refine zAd ?_|((first|refine zAg ?_|refine zAj ?_); simp only [thenQ,zAh,if_true,if_false,Nat.reduceEqDiff,reduceCtorEq])|(refine zAe (by rfl) (fun hb=>?_) (fun hb=>?_)<;>(try simp only [bq,reduceCtorEq] at hb)<;>(try omega))|refine zAr (by rfl) ?_ ?_|refine andS ?_|(refine ⟨fun hc=>?_,fun hc=>?_⟩)|(intro hc; try omega))
 all_goals trace_state
end Go.Proofs.YtekfodeknpnkbaaGreatDoor
