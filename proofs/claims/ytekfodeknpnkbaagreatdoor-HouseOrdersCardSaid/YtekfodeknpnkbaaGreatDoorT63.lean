import Derived.Test.YtekfodeknpnkbaaGreatDoorT50
import Derived.Test.YtekfodeknpnkbaaGreatDoorT53
import Derived.Test.YtekfodeknpnkbaaGreatDoorT54
set_option linter.unusedSimpArgs false
set_option linter.unusedVariables false
namespace Go.Proofs.YtekfodeknpnkbaaGreatDoor
open Go.RowKit Go.VS
@[push_cast] def zRr:Con:=⟨[.dat (.sl (.sl .int)),.dat (.sl .str)],fun _=>True,fun _=>{res:=[.val .bool true]}⟩
set_option maxHeartbeats 8000000 in
theorem zMG:FnSpec Tryz.prog 3 zRr:=by
 refine FnSpec.of_tri' (E:=know _ [] [] []) (zAl (kc zDg (kc zDB (kc zBU (kc zCQ (kc zCU (kc zC2 (kc zLu (kc zDK all_nil)))))))) all_nil all_nil) Tryz.func3 rfl rfl (by kernel_rfl) ?_
 intro C x hE hnl hfit hpre
 simp only [Tryz.ntmps3,Tryz.results3,maxLen,seval,push_cast] at hnl hfit hpre ⊢
 obtain ⟨(q:List (List Int)),(l:List ByteArray),_⟩:=x
 dsimp only at hfit hpre ⊢
 have hnl0:=hnl
 by_cases hlg:zFm l=true
 ·replace hnl:=And.intro hnl hlg
  exact auA
 rw [Bool.not_eq_true] at hlg
 have hls:∀ t∈l,t.size≤100000:=fun t ht=>by have:=(zFM hlg).2 t ht; omega
 by_cases he:zAu q=0
 rotate_left
 ·replace hnl:=And.intro hnl (And.intro hlg (eq_false he))
  exact auA
 have hin:=zAR he
 replace hnl:=And.intro hnl (And.intro hlg he)
 repeat' (first|(refine goK (by assumption) ?_; iterate 4 (try clear hK K))|(refine zAb fun K hK=>?_)|((first|refine zAa hE rfl ?_|refine zAi ?_); simp +contextual only [hnl,↓kA,push_cast,seval,reduceCtorEq,cI])|refine zAd ?_|(refine zAg ?_; simp only [thenQ,zAh,if_true,if_false,Nat.reduceEqDiff,reduceCtorEq])|(refine zAe (by rfl) (fun hb=>?_) (fun hb=>?_)<;>(try simp only [bq,reduceCtorEq] at hb)<;>(try omega))|(refine ⟨fun hc=>?_,fun hc=>?_⟩)|fail)
 refine zAk (fun (y:Nat×HX×RX)=>AS.of [(1,.one (.val (.sl .str) l)),(5,.one (.box 18)),(6,.one (.box 1018)),(8,.I y.1)] [] [(18,.rcd [.raw (.int .i32 0),.raw (.int .u32 0),.val (.sl (.sl .int)) y.2.1.2.2.1,.val (.sl (.sl .int)) y.2.1.2.2.2.1,.val (.sl .int) y.2.1.2.2.2.2.1,.val (.sl .int) y.2.1.2.2.2.2.2.1,.val .int y.2.1.2.2.2.2.2.2.1,.mk 18 9 .str y.2.1.2.2.2.2.2.2.2.1,.val .str y.2.1.2.2.2.2.2.2.2.2.1]),(1018,.rcd [.val (.sl (.sl .int)) y.2.2.1,.val (.sl .int) y.2.2.2.1,.val (.sl .int) y.2.2.2.2.1,.val .int y.2.2.2.2.2.1,.val .int y.2.2.2.2.2.2.1,.val (.sl (.prod .str .int)) y.2.2.2.2.2.2.2.1])]) (fun y=>y.1≤l.length∧HR y.2.1 y.2.2) (fun y=>l.length - y.1) (0,newH q,newR q) ⟨by omega,HR.new hin⟩ ?_ ?_
 ·refine zAf ?_ ?_ ?_<;>simp only [push_cast,seval,reduceCtorEq,cI]
  all_goals first|rfl|exact ⟨rfl,rfl⟩
 rintro ⟨k,h,x⟩ ⟨hk,hr⟩ K' hL
 dsimp only at hk hr ⊢
 by_cases hlt:k<l.length∧k<30
 rotate_left
 ·obtain ⟨⟨⟩,⟨⟩,(f:List (List Int)),(c:List (List Int)),(a:List Int),(b:List Int),(w:Int),(ord:List ByteArray),(bk:ByteArray),⟨⟩⟩:=h
  obtain ⟨(rc:List (List Int)),(ra:List Int),(rb:List Int),(rw:Int),(rn:Int),(rl:List Line),⟨⟩⟩:=x
  dsimp only
  replace hnl:=hnl0
  exact auA
 have h1:=hr.hl.inv
 have h2:=hr.rinv
 have h3:(l.getD k ByteArray.empty).size≤100000:=hls _ (zAJ _ hlt.1)
 have hq:=hr.doE (l.getD k ByteArray.empty)
 have hr2:=hr.doX (l.getD k ByteArray.empty)
 clear hls he hin hlg
 obtain ⟨e,he⟩:∃ e,doE h (l.getD k ByteArray.empty)=e:=⟨_,rfl⟩
 rw [he] at hq
 obtain ⟨⟨⟨⟩,⟨⟩,(f2:List (List Int)),(c2:List (List Int)),(a2:List Int),(b2:List Int),(w2:Int),(ord2:List ByteArray),(bk2:ByteArray),⟨⟩⟩,hh2⟩:∃ h2,doX h (l.getD k ByteArray.empty)=h2:=⟨_,rfl⟩
 obtain ⟨⟨(rc2:List (List Int)),(ra2:List Int),(rb2:List Int),(rw2:Int),(rn2:Int),(rl2:List Line),⟨⟩⟩,hx2⟩:∃ x2,rdoX x (l.getD k ByteArray.empty)=x2:=⟨_,rfl⟩
 rw [hh2,hx2] at hr2
 obtain ⟨⟨⟩,⟨⟩,(f:List (List Int)),(c:List (List Int)),(a:List Int),(b:List Int),(w:Int),(ord:List ByteArray),(bk:ByteArray),⟨⟩⟩:=h
 obtain ⟨(rc:List (List Int)),(ra:List Int),(rb:List Int),(rw:Int),(rn:Int),(rl:List Line),⟨⟩⟩:=x
 dsimp only
 replace hnl:=And.intro hnl0 (And.intro (eq_true h1) (And.intro (eq_true h2) (And.intro he (And.intro hq (And.intro hh2 (And.intro hx2 (eq_true hr2)))))))
 repeat' (first|(refine goK (by assumption) ?_; iterate 4 (try clear hK K))|(refine zAb fun K hK=>?_)|(refine zAa hE rfl ?_; simp +contextual only [hnl,↓kA,push_cast,seval,reduceCtorEq,cI])|refine zAd ?_|(refine zAg ?_; simp only [thenQ,zAh,if_true,if_false,Nat.reduceEqDiff,reduceCtorEq])|(refine zAe (by rfl) (fun hb=>?_) (fun hb=>?_)<;>(try simp only [bq,reduceCtorEq] at hb)<;>(try omega))|(refine ⟨fun hc=>?_,fun hc=>?_⟩)|fail)
 refine zBL hE (fun D s=>(D 12=true→D 5=true) ∧
  (D 12=true→D 11=true) ∧
  (D 13=true→D 5=true) ∧
  (D 13=true→D 11=true) ∧
  s.env 1=.one (.val (.sl .str) l) ∧
  s.env 5=.one (.box 18) ∧
  s.env 6=.one (.box 1018) ∧
  s.env 8=.I k ∧
  (D 0=true→s.env 36=.one (.box 18)) ∧
  (D 1=true→s.env 37=.one (.val (.sl .str) l)) ∧
  (D 2=true→s.env 38=.I k) ∧
  (D 3=true→s.env 39=.one (.padr .str (l.getD k ByteArray.empty))) ∧
  (D 4=true→s.env 40=.one (.val .str (l.getD k ByteArray.empty))) ∧
  (D 5=true→s.env 41=.one (.val .int e)) ∧
  (D 6=true→s.env 42=.one (.box 1018)) ∧
  (D 7=true→s.env 43=.one (.val (.sl .str) l)) ∧
  (D 8=true→s.env 44=.I k) ∧
  (D 9=true→s.env 45=.one (.padr .str (l.getD k ByteArray.empty))) ∧
  (D 10=true→s.env 46=.one (.val .str (l.getD k ByteArray.empty))) ∧
  (D 11=true→s.env 47=.one (.val .int e)) ∧
  (D 12=true→s.env 48=.one (.val .bool false)) ∧
  (D 13=true→s.env 49=.one (.val .bool false)) ∧
  (D 14=true→s.env 50=.one (.box 18)) ∧
  (D 15=true→s.env 51=.one (.box 1018)) ∧
  (D 16=true→s.env 52=.one (.val .bool true)) ∧
  (D 17=true→s.env 53=.one (.val .bool false)) ∧
  (D 18=true→s.env 54=.one (.val .bool false)) ∧
  (D 5=false→s.boxes 18=some (.rcd [.raw (.int .i32 0),.raw (.int .u32 0),.val (.sl (.sl .int)) f,.val (.sl (.sl .int)) c,.val (.sl .int) a,.val (.sl .int) b,.val .int w,.mk 18 9 .str ord,.val .str bk])) ∧
  (D 5=true→s.boxes 18=some (.rcd [.raw (.int .i32 0),.raw (.int .u32 0),.val (.sl (.sl .int)) f2,.val (.sl (.sl .int)) c2,.val (.sl .int) a2,.val (.sl .int) b2,.val .int w2,.mk 18 9 .str ord2,.val .str bk2])) ∧
  (D 11=false→s.boxes 1018=some (.rcd [.val (.sl (.sl .int)) rc,.val (.sl .int) ra,.val (.sl .int) rb,.val .int rw,.val .int rn,.val (.sl (.prod .str .int)) rl])) ∧
  (D 11=true→s.boxes 1018=some (.rcd [.val (.sl (.sl .int)) rc2,.val (.sl .int) ra2,.val (.sl .int) rb2,.val .int rw2,.val .int rn2,.val (.sl (.prod .str .int)) rl2]))) rfl (by kernel_rfl) ?_ ?_ ?_
 ·dsimp only
  simp only [push_cast,seval,reduceCtorEq,cI]
 ·refine ⟨fun D s h0 hp hI=>?_,fun D s h0 hp hI=>?_,fun D s h0 hp hI=>?_,fun D s h0 hp hI=>?_,fun D s h0 hp hI=>?_,fun D s h0 hp hI=>?_,fun D s h0 hp hI=>?_,fun D s h0 hp hI=>?_,fun D s h0 hp hI=>?_,fun D s h0 hp hI=>?_,fun D s h0 hp hI=>?_,fun D s h0 hp hI=>?_,fun D s h0 hp hI=>?_,fun D s h0 hp hI=>?_,fun D s h0 hp hI=>?_,fun D s h0 hp hI=>?_,fun D s h0 hp hI=>?_,fun D s h0 hp hI=>?_,fun D s h0 hp hI=>?_,trivial⟩
  all_goals obtain ⟨O0,O1,O2,O3,E1,E5,E6,E8,F0,F1,F2,F3,F4,F5,F6,F7,F8,F9,F10,F11,F12,F13,F14,F15,F16,F17,F18,B0,B1,C0,C1⟩:=hI
  all_goals (try simp [preds,Region.binds] at hp)
  all_goals (try have N0:=zAV O0 h0)
  all_goals (try have N1:=zAV O1 h0)
  all_goals (try have N2:=zAV O2 h0)
  all_goals (try have N3:=zAV O3 h0)
  all_goals (simp +contextual only [*,setD,↓kN,↓kP,↓kG,push_cast,seval,reduceCtorEq,cI])
  all_goals first|omega|(refine And.intro ?_ ?_<;>omega)|rfl|skip
 intro D s hD hI
 obtain ⟨O0,O1,O2,O3,E1,E5,E6,E8,F0,F1,F2,F3,F4,F5,F6,F7,F8,F9,F10,F11,F12,F13,F14,F15,F16,F17,F18,B0,B1,C0,C1⟩:=hI
 have v1:=B1 (hD 5 (by decide))
 have v2:=C1 (hD 11 (by decide))
 have v3:=F18 (hD 18 (by decide))
 refine hK _ ?_
 refine zAo (t:=AS.of [(1,.one (.val (.sl .str) l)),(5,.one (.box 18)),(6,.one (.box 1018)),(8,.I k),(54,.one (.val .bool false))] [] [(18,.rcd [.raw (.int .i32 0),.raw (.int .u32 0),.val (.sl (.sl .int)) f2,.val (.sl (.sl .int)) c2,.val (.sl .int) a2,.val (.sl .int) b2,.val .int w2,.mk 18 9 .str ord2,.val .str bk2]),(1018,.rcd [.val (.sl (.sl .int)) rc2,.val (.sl .int) ra2,.val (.sl .int) rb2,.val .int rw2,.val .int rn2,.val (.sl (.prod .str .int)) rl2])]) ?_ ?_
 ·refine zAf ?_ ?_ ?_<;>simp only [E1,E5,E6,E8,v1,v2,v3,push_cast,seval,reduceCtorEq,cI]
  all_goals first|exact ⟨_,rfl⟩|skip
 clear hK
 replace hnl:=hnl0
 repeat' (first|(refine goK (by assumption) ?_; iterate 4 (try clear hK K))|(refine zAa hE rfl ?_; simp +contextual only [hnl,↓kA,push_cast,seval,reduceCtorEq,cI])|(refine zAg ?_; simp only [thenQ,zAh,if_true,if_false,Nat.reduceEqDiff,reduceCtorEq])|(refine zAe (by rfl) (fun hb=>?_) (fun hb=>?_)<;>(try simp only [bq,reduceCtorEq] at hb)<;>(try omega))|refine andS ?_|fail)
 refine hL _ (k+1,((),(),f2,c2,a2,b2,w2,ord2,bk2,()),(rc2,ra2,rb2,rw2,rn2,rl2,())) ⟨by omega,hr2⟩ (by dsimp only; omega) ?_
 refine zAf ?_ ?_ ?_<;>simp only [push_cast,seval,reduceCtorEq,cI]
end Go.Proofs.YtekfodeknpnkbaaGreatDoor
