import Derived.Test.YtekfodeknpnkbaaGreatDoorT19
import Derived.Test.YtekfodeknpnkbaaGreatDoorT32
import Derived.Test.YtekfodeknpnkbaaGreatDoorT34
import Derived.Test.YtekfodeknpnkbaaGreatDoorT42
set_option linter.unusedSimpArgs false
set_option linter.unusedVariables false
namespace Go.Proofs.YtekfodeknpnkbaaGreatDoor
open Go.RowKit Go.VS
@[push_cast] def zPn:Con:=⟨[.dat (.sl (.sl .int))],fun (x:List (List Int)×Unit)=>Small x.1,fun (x:List (List Int)×Unit)=>{res:=[.val (.sl (.sl .int)) x.1]}⟩
theorem zOy:FnSpec Tryz.prog 95 zPn:=by
 refine FnSpec.of_tri' (E:=know [] [] [] [12]) (zAl all_nil all_nil all_nil) Tryz.func95 rfl rfl (by kernel_rfl) ?_
 intro C x hE hnl hfit hpre
 simp only [Tryz.ntmps95,Tryz.results95,maxLen,seval,push_cast] at hnl hfit hpre ⊢
 obtain ⟨(p:List (List Int)),_⟩:=x
 dsimp only at hfit hpre ⊢
 have hl:=hpre.1
 repeat' (first|(refine goK (by assumption) ?_; iterate 4 (try clear hK K))|(refine zAb fun K hK=>?_)|(refine zAa hE rfl ?_; simp +contextual only [hnl,↓kA,push_cast,seval,reduceCtorEq,cI])|refine zAd ?_|fail)
 refine zAk (fun i:Nat=>AS.of [(0,.one (.val (.sl (.sl .int)) p)),(3,.one (.ref 19)),(4,.I i)] [(19,.deep 38 3 .int (tbl i fun r=>p.getD r []))] []) (fun i=>i≤p.length) (fun i=>p.length - i) 0 (Nat.zero_le _) ?_ ?_
 ·refine zAf ?_ ?_ ?_<;>simp only [push_cast,seval,reduceCtorEq,cI]
  exact ⟨by omega,zIg _⟩
 intro i hi K' hL
 replace hnl:=And.intro hnl (zAZ i fun r=>p.getD r [])
 have hrow:=@Small.row p hpre i
 rcases Nat.lt_or_ge i p.length with h|h
 ·have hrow:=hrow h
  repeat' (first|(refine goK (by assumption) ?_; iterate 4 (try clear hK K))|(refine zAb fun K hK=>?_)|(refine zAa hE rfl ?_; simp +contextual only [hnl,↓kA,push_cast,seval,reduceCtorEq,cI])|refine zAd ?_|(refine zAg ?_; simp only [thenQ,zAh,if_true,if_false,Nat.reduceEqDiff,reduceCtorEq])|(refine zAe (by rfl) (fun hb=>?_) (fun hb=>?_)<;>(try simp only [bq,reduceCtorEq] at hb)<;>(try omega))|refine andS ?_|fail)
  refine hL _ (i+1) (by omega) (by omega) ?_
  refine zAf ?_ ?_ ?_<;>simp only [push_cast,seval,reduceCtorEq,cI]
  left
  rw [zD9]
 ·obtain rfl:i=p.length:=by omega
  repeat' (first|(refine zAo (t:=AS.of [(2,.one (.val (.sl (.sl .int)) p))] [] []) ?_ (Stop.h ?_); · (refine zAf ?_ ?_ ?_<;>simp only [push_cast,seval,reduceCtorEq,cI]; rw [←zLg p []]))|(first|(refine goK (by assumption) ?_; iterate 4 (try clear hK K))|(refine zAb fun K hK=>?_)|((first|refine zAa hE rfl ?_|refine zAi ?_); simp +contextual only [hnl,↓kA,push_cast,seval,reduceCtorEq,cI])|refine zAd ?_|((first|refine zAg ?_|refine zAj ?_); simp only [thenQ,zAh,if_true,if_false,Nat.reduceEqDiff,reduceCtorEq])|(refine zAe (by rfl) (fun hb=>?_) (fun hb=>?_)<;>(try simp only [bq,reduceCtorEq] at hb)<;>(try omega))|refine zAr (by rfl) ?_ ?_|refine andS ?_|(refine ⟨fun hc=>?_,fun hc=>?_⟩)|(intro hc; try omega)))
  refine ⟨?_⟩
  exact auA
@[push_cast] def zYq:Con:=⟨[.sdat (.sl (.sl .int))],fun _=>True,fun (x:List (List Int)×Unit)=>if zAu x.1=0 then {res:=[.obj ⟨rFs,newR x.1⟩,.val .int 0]} else {res:=[.raw (.pointer none),.val .int (zAu x.1)]}⟩
set_option maxHeartbeats 4000000 in
theorem zIS:FnSpec Tryz.prog 49 zYq:=by
 refine FnSpec.of_tri' (E:=knowZ [14,19] [(94,zIu),(95,zPn)]) (zPP (all_cons zHk (all_cons zOy all_nil))) Tryz.func49 rfl rfl (by kernel_rfl) ?_
 intro C x hE hnl hfit hpre
 simp only [Tryz.ntmps49,Tryz.results49,maxLen,seval,push_cast] at hnl hfit hpre ⊢
 obtain ⟨(c:List (List Int)),_⟩:=x
 dsimp only at hfit hpre ⊢
 by_cases he:zAu c=0
 rotate_left
 ·replace hnl:=And.intro hnl (eq_false he)
  exact auA
 have hin:=zAR he
 have hr:=hin.rows
 have hcl:1≤(c.getD 0 []).length∧(c.getD 0 []).length≤5:=hin.cols
 have hsm:Small c:=⟨by omega,fun r hr'=>by
  obtain ⟨i,hi,rfl⟩:=List.getElem_of_mem hr'
  have h:=hin.len hi
  have e:c.getD i []=c[i]:=by rw [List.getD_eq_getElem?_getD,List.getElem?_eq_getElem hi]; rfl
  rw [e] at h
  have h2:wid c≤5:=hin.cols.2
  omega⟩
 replace hnl:=And.intro hnl (And.intro he (eq_true hsm))
 repeat' (first|(refine goK (by assumption) ?_; iterate 4 (try clear hK K))|(refine zAb fun K hK=>?_)|(refine zAa hE rfl ?_; simp +contextual only [hnl,↓kA,push_cast,seval,reduceCtorEq,cI])|(refine zAg ?_; simp only [thenQ,zAh,if_true,if_false,Nat.reduceEqDiff,reduceCtorEq])|(refine zAe (by rfl) (fun hb=>?_) (fun hb=>?_)<;>(try simp only [bq,reduceCtorEq] at hb)<;>(try omega))|fail)
 refine zBL hE (fun D s=>(D 12=true→D 11=true) ∧
  s.env 0=.one (.val (.sl (.sl .int)) c) ∧
  (D 0=true→s.env 10=.one (.val (.sl (.sl .int)) c)) ∧
  (D 1=true→s.env 11=.one (.val (.sl (.sl .int)) c)) ∧
  (D 2=true→s.env 12=.one (.val (.sl (.sl .int)) c)) ∧
  (D 3=true→s.env 13=.I (c.length:Nat)) ∧
  (D 4=true→s.env 14=.one (.val (.sl .int) (List.replicate c.length (0:Int)))) ∧
  (D 5=true→s.env 15=.one (.val (.sl (.sl .int)) c)) ∧
  (D 6=true→s.env 16=.one (.padr (.sl .int) (c.getD 0 []))) ∧
  (D 7=true→s.env 17=.one (.val (.sl .int) (c.getD 0 []))) ∧
  (D 8=true→s.env 18=.I ((c.getD 0 []).length:Nat)) ∧
  (D 9=true→s.env 19=.one (.val (.sl .int) (List.replicate (c.getD 0 []).length (0:Int)))) ∧
  (D 10=true→s.env 20=(.rcd [.val (.sl (.sl .int)) c,.val (.sl .int) (List.replicate c.length (0:Int)),.val (.sl .int) (List.replicate (c.getD 0 []).length (0:Int)),.val .int (0:Int),.val .int (0:Int),.nils])) ∧
  (D 11=true→s.env 21=.one (.box 21)) ∧
  (D 11=true→s.boxes 21=some (.rcd [.val (.sl (.sl .int)) c,.val (.sl .int) (List.replicate c.length (0:Int)),.val (.sl .int) (List.replicate (c.getD 0 []).length (0:Int)),.val .int (0:Int),.val .int (0:Int),.nils])) ∧
  (D 12=true→s.env 2=.one (.box 21)) ∧
  (D 13=true→s.env 3=.one (.val .int 0))) rfl (by kernel_rfl) ?_ ?_ ?_
 ·dsimp only
  simp only [push_cast,seval,reduceCtorEq,cI]
 ·refine ⟨fun D s h0 hp hI=>?_,fun D s h0 hp hI=>?_,fun D s h0 hp hI=>?_,fun D s h0 hp hI=>?_,fun D s h0 hp hI=>?_,fun D s h0 hp hI=>?_,fun D s h0 hp hI=>?_,fun D s h0 hp hI=>?_,fun D s h0 hp hI=>?_,fun D s h0 hp hI=>?_,fun D s h0 hp hI=>?_,fun D s h0 hp hI=>?_,fun D s h0 hp hI=>?_,fun D s h0 hp hI=>?_,trivial⟩
  all_goals obtain ⟨o1,e0,f0,f1,f2,f3,f4,f5,f6,f7,f8,f9,f10,f11,g11,f12,f13⟩:=hI
  all_goals (try simp [preds,Region.binds] at hp)
  all_goals (try have n0x:=zAV o1 h0)
  all_goals (simp +contextual only [*,setD,↓kN,↓kP,push_cast,seval,reduceCtorEq,cI])
  all_goals first|omega|(refine And.intro ?_ ?_<;>omega)|rfl
 intro D s hD hI
 obtain ⟨o1,e0,f0,f1,f2,f3,f4,f5,f6,f7,f8,f9,f10,f11,g11,f12,f13⟩:=hI
 have v1:=g11 (hD 11 (by decide))
 have v2:=f12 (hD 12 (by decide))
 have v3:=f13 (hD 13 (by decide))
 refine hK _ ?_
 refine zAo (t:=AS.of [(2,.one (.box 21)),(3,.one (.val .int 0))] [] [(21,(.rcd [.val (.sl (.sl .int)) c,.val (.sl .int) (List.replicate c.length (0:Int)),.val (.sl .int) (List.replicate (c.getD 0 []).length (0:Int)),.val .int (0:Int),.val .int (0:Int),.val (.sl (.prod .str .int)) ([]:List Line)]))]) ?_ ?_
 ·refine zAf ?_ ?_ ?_<;>simp only [v1,v2,v3,push_cast,seval,reduceCtorEq,cI]
  all_goals first|exact ⟨_,rfl⟩|skip
 refine zAi ?_
 simp only [hnl,newR,mkR,newS,push_cast,seval,reduceCtorEq,cI]
end Go.Proofs.YtekfodeknpnkbaaGreatDoor
