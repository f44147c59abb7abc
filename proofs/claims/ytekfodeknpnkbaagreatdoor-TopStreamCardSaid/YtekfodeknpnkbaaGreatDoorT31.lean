import Derived.Test.YtekfodeknpnkbaaGreatDoorT6
set_option linter.unusedSimpArgs false
set_option linter.unusedVariables false
namespace Go.Proofs.YtekfodeknpnkbaaGreatDoor
open Go.RowKit Go.VS
theorem zG1 {α:Type} (n:Nat) (v:α):tbl n (fun _=>v)=List.replicate n v:=by simp [tbl,List.map_const']
theorem zLg {α:Type} (l:List α) (d:α):l=tbl l.length (fun i=>l.getD i d):=by
 apply List.ext_getElem (by simp [tbl])
 intro i h1 h2
 simp [tbl,List.getD_eq_getElem?_getD,h1]
theorem zYo {α β:Type} (l:List α) (d:α) (g:α→β):l.map g=tbl l.length (fun i=>g (l.getD i d)):=by
 conv=>lhs; rw [zLg l d]
 simp [tbl]
def rowsP (p:List (List Int)):List Int:=p.map lsum
def colP (p:List (List Int)) (c:Nat):Int:=lsum (p.map fun r=>r.getD c 0)
def colsP (p:List (List Int)):List Int:=tbl (wid p) (colP p)
theorem zSP {p:List (List Int)} {i:Nat} (h:i<p.length) (c:Nat):colP (p.take (i+1)) c=colP (p.take i) c+(p.getD i []).getD c 0:=by
 unfold colP
 rw [List.map_take,List.map_take,zBH _ _ (by simpa using h)]
 congr 1
 simp [List.getD_eq_getElem?_getD,h]
theorem InPlan.sumR {p:List (List Int)} (h:InPlan p) {i:Nat} (hi:i<p.length) (j:Nat):0≤lsum ((p.getD i []).take j)∧lsum ((p.getD i []).take j)≤750:=by
 have h1:=zEo 150 (by omega) ((p.getD i []).take j) (fun x hx=>h.mem _ (zAJ [] hi) x (List.mem_of_mem_take hx))
 have h2:=h.row hi
 have h3:=h.cols
 have h4:((p.getD i []).take j).length≤5:=by rw [List.length_take]; omega
 omega
theorem InPlan.sumC {p:List (List Int)} (h:InPlan p) {c:Nat} (hc:c<wid p) (i:Nat):0≤colP (p.take i) c∧colP (p.take i) c≤750:=by
 unfold colP
 have h1:=zEo 150 (by omega) ((p.take i).map fun r=>r.getD c 0) (fun x hx=>by
  obtain ⟨r,hr,rfl⟩:=List.mem_map.1 hx
  have hr':=List.mem_of_mem_take hr
  exact h.mem r hr' _ (zAJ 0 (by rw [h.len r hr']; exact hc)))
 have h3:=h.rows
 have h4:((p.take i).map fun r=>r.getD c 0).length≤5:=by rw [List.length_map,List.length_take]; omega
 omega
@[push_cast] def zXW:Con:=⟨[.dat (.sl (.sl .int))],fun (x:List (List Int)×Unit)=>InPlan x.1,fun (x:List (List Int)×Unit)=>{res:=[.own (.flat 3 .int (rowsP x.1)),.own (.flat 3 .int (colsP x.1))]}⟩
theorem zS6:FnSpec Tryz.prog 90 zXW:=by
 refine FnSpec.of_tri' (E:=know [] [] [] [12,17]) (zAl all_nil all_nil all_nil) Tryz.func90 rfl rfl (by kernel_rfl) ?_
 intro C x hE hnl hfit hpre
 simp only [Tryz.ntmps90,Tryz.results90,maxLen,seval,push_cast] at hnl hfit hpre ⊢
 obtain ⟨(p:List (List Int)),_⟩:=x
 dsimp only at hfit hpre ⊢
 have hr:=hpre.rows
 have hc:=hpre.cols
 have hw:(p.getD 0 []).length=wid p:=rfl
 repeat' (first|(refine goK (by assumption) ?_; iterate 4 (try clear hK K))|(refine zAb fun K hK=>?_)|((first|refine zAa hE rfl ?_|((first|refine zAc hE 1 rfl rfl (by kernel_rfl) ?_|refine zAc hE 2 rfl rfl (by kernel_rfl) ?_|refine zAc hE 3 rfl rfl (by kernel_rfl) ?_|refine zAc hE 4 rfl rfl (by kernel_rfl) ?_); simp only [List.length_cons,List.length_nil,Nat.reduceAdd,Nat.reduceSub,List.take_succ_cons,List.take_zero,List.drop_succ_cons,List.drop_zero])); simp +contextual only [hnl,↓kA,push_cast,seval,reduceCtorEq,cI])|refine zAd ?_|refine andS ?_|fail)
 refine zC7 4 12 12 (by simp only [push_cast,seval,reduceCtorEq,cI]; rfl) (by omega) ?_
 refine zC7 5 17 17 (by simp only [push_cast,seval,reduceCtorEq,cI]; rfl) (by omega) ?_
 refine zAk (fun i:Nat=>AS.of [(4,.one (.ref 12)),(5,.one (.ref 17)),(18,.one (.val (.sl (.sl .int)) p)),(19,.I p.length),(20,.I i)]
  [(12,.flat 3 .int (tbl p.length fun r=>if r<i then lsum (p.getD r []) else 0)),(17,.flat 3 .int (tbl (wid p) fun c=>colP (p.take i) c))] []) (fun i=>i≤p.length) (fun i=>p.length - i) 0 (Nat.zero_le _) ?_ ?_
 ·refine zAf ?_ ?_ ?_<;>simp only [push_cast,seval,reduceCtorEq,cI]
  refine ⟨.inl (congrArg _ ?_),.inl (congrArg _ ?_)⟩
  ·rw [←zG1]
   exact zAD fun r _=>by rw [if_neg (Nat.not_lt_zero r)]
  ·rw [←zG1]
   exact zAD fun c _=>by simp [colP,lsum]
 intro i hi K' hL
 repeat' (first|(refine goK (by assumption) ?_; iterate 4 (try clear hK K))|(refine zAb fun K hK=>?_)|((first|refine zAa hE rfl ?_|refine zAi ?_); simp +contextual only [hnl,↓kA,push_cast,seval,reduceCtorEq,cI])|refine zAd ?_|((first|refine zAg ?_|refine zAj ?_); simp only [thenQ,zAh,if_true,if_false,Nat.reduceEqDiff,reduceCtorEq])|(refine zAe (by rfl) (fun hb=>?_) (fun hb=>?_)<;>(try simp only [bq,reduceCtorEq] at hb)<;>(try omega))|refine andS ?_|fail)
 ·have hi':i<p.length:=by omega
  have hwi:=hpre.row hi'
  refine zAk (fun j:Nat=>AS.of [(4,.one (.ref 12)),(5,.one (.ref 17)),(6,.I i),(18,.one (.val (.sl (.sl .int)) p)),(19,.I p.length),(20,.I i),(25,.one (.val (.sl .int) (p.getD i []))),(26,.I (p.getD i []).length),(27,.I j)]
   [(12,.flat 3 .int (tbl p.length fun r=>if r<i then lsum (p.getD r []) else if r=i then lsum ((p.getD i []).take j) else 0)),(17,.flat 3 .int (tbl (wid p) fun c=>colP (p.take i) c+if c<j then (p.getD i []).getD c 0 else 0))] [])
   (fun j=>j≤wid p) (fun j=>wid p - j) 0 (Nat.zero_le _) ?_ ?_
  ·refine zAf ?_ ?_ ?_<;>simp only [push_cast,seval,reduceCtorEq,cI]
   refine ⟨.inl (congrArg _ (zAD fun r _=>?_)),.inl (congrArg _ (zAD fun c _=>?_))⟩
   ·simp only [lsum,ite_self]
   ·rw [if_neg (Nat.not_lt_zero c),Int.add_zero]
  intro j hj K2 hL2
  have e1:(tbl p.length fun r=>if r<i then lsum (p.getD r []) else if r=i then lsum ((p.getD i []).take j) else 0).getD i 0=lsum ((p.getD i []).take j):=by
   rw [zBu _ _ hi',if_neg (Nat.lt_irrefl _),if_pos rfl]
  have e2:j<wid p→(tbl (wid p) fun c=>colP (p.take i) c+if c<j then (p.getD i []).getD c 0 else 0).getD j 0=colP (p.take i) j:=fun hj'=>by
   rw [zBu _ _ hj',if_neg (Nat.lt_irrefl _),Int.add_zero]
  have s1:=hpre.sumR hi' j
  replace hnl:=And.intro hnl (And.intro e1 (And.intro (zAZ p.length fun r=>if r<i then lsum (p.getD r []) else if r=i then lsum ((p.getD i []).take j) else 0) (zAZ (wid p) fun c=>colP (p.take i) c+if c<j then (p.getD i []).getD c 0 else 0)))
  repeat' (first|(refine goK (by assumption) ?_; iterate 4 (try clear hK K))|(refine zAb fun K hK=>?_)|(refine zAa hE rfl ?_; simp +contextual only [hnl,↓kA,push_cast,seval,reduceCtorEq,cI])|refine zAd ?_|((first|refine zAg ?_|refine zAj ?_); simp only [thenQ,zAh,if_true,if_false,Nat.reduceEqDiff,reduceCtorEq])|(refine zAe (by rfl) (fun hb=>?_) (fun hb=>?_)<;>(try simp only [bq,reduceCtorEq] at hb)<;>(try omega))|refine andS ?_|fail)
  ·have hj':j<wid p:=by omega
   have s2:=hpre.at hi' hj'
   have s3:=hpre.sumC hj' i
   have s4:InR ((tbl (wid p) fun c=>colP (p.take i) c+if c<j then (p.getD i []).getD c 0 else 0).getD j 0+(p.getD i []).getD j 0):=by
    rw [e2 hj']
    unfold InR
    omega
   refine ⟨by unfold InR; omega,?_⟩
   repeat' (first|(refine goK (by assumption) ?_; iterate 4 (try clear hK K))|(refine zAa hE rfl ?_; simp +contextual only [hnl,↓kA,push_cast,seval,reduceCtorEq,cI])|refine andS ?_|fail)
   refine hL2 _ (j+1) (by omega) (by omega) ?_
   refine zAf ?_ ?_ ?_<;>simp only [push_cast,seval,reduceCtorEq,cI]
   rw [e2 hj',zFz,zFz]
   refine ⟨.inl (congrArg _ (zAD fun r _=>?_)),.inl (congrArg _ (zAD fun c _=>?_))⟩
   ·by_cases h:r=i
    ·subst h
     rw [if_pos rfl,if_neg (Nat.lt_irrefl _),if_pos rfl,zBH _ _ (by omega)]
    ·rw [if_neg h,if_neg h,if_neg h]
   ·by_cases h:c=j
    ·subst h
     rw [if_pos rfl,if_pos (Nat.lt_succ_self _)]
    ·rw [if_neg h]
     by_cases h2:c<j
     ·rw [if_pos h2,if_pos (by omega)]
     ·rw [if_neg h2,if_neg (by omega)]
  ·have hjw:j=wid p:=by omega
   refine hL _ (i+1) (by omega) (by omega) ?_
   refine zAf ?_ ?_ ?_<;>simp only [push_cast,seval,reduceCtorEq,cI]
   refine ⟨.inl (congrArg _ (zAD fun r _=>?_)),.inl (congrArg _ (zAD fun c hc=>?_))⟩
   ·by_cases h:r=i
    ·subst h
     rw [if_neg (Nat.lt_irrefl _),if_pos rfl,if_pos (Nat.lt_succ_self _),List.take_of_length_le (by omega)]
    ·rw [if_neg h]
     by_cases h2:r<i
     ·rw [if_pos h2,if_pos (by omega)]
     ·rw [if_neg h2,if_neg (by omega)]
   ·rw [if_pos (by omega),zSP hi']
 ·obtain rfl:i=p.length:=by omega
  refine ⟨congrArg _ ?_,congrArg _ ?_⟩
  ·rw [rowsP,zYo p []]
   exact zAD fun r hr=>if_pos hr
  ·rw [List.take_of_length_le (Nat.le_refl _)]
   rfl
end Go.Proofs.YtekfodeknpnkbaaGreatDoor
namespace Go.Proofs.YtekfodeknpnkbaaGreatDoor
open Go.RowKit Go.VS
section
variable {c:List (List Int)} {ps:List Int}
end
end Go.Proofs.YtekfodeknpnkbaaGreatDoor
namespace Go.Proofs.YtekfodeknpnkbaaGreatDoor
open Go.RowKit Go.VS
end Go.Proofs.YtekfodeknpnkbaaGreatDoor
namespace Go.Proofs.YtekfodeknpnkbaaGreatDoor
open Go.RowKit Go.VS
@[push_cast] def zZD:Con:=⟨[.dat (.sl (.sl .int))],fun _=>True,fun (x:List (List Int)×Unit) =>
 {res:=[.own (.flat 3 .int (if zAW x.1=0 then rowsP x.1 else [])),.own (.flat 3 .int (if zAW x.1=0 then colsP x.1 else [])),.val .int (zAW x.1)]}⟩
section
variable {a b:List Int} {p:List (List Int)}
end
end Go.Proofs.YtekfodeknpnkbaaGreatDoor
namespace Go.Proofs.YtekfodeknpnkbaaGreatDoor
open Go.RowKit Go.VS
theorem zLM:FnSpec Tryz.prog 44 zZD:=by
 refine FnSpec.of_tri' (E:=know _ [] [] []) (zAl (kc zI4 (kc zS6 all_nil)) all_nil all_nil) Tryz.func44 rfl rfl (by kernel_rfl) ?_
 intro C x hE hnl hfit hpre
 simp only [Tryz.ntmps44,Tryz.results44,maxLen,seval,push_cast] at hnl hfit hpre ⊢
 obtain ⟨(p:List (List Int)),_⟩:=x
 dsimp only at hfit hpre ⊢
 rcases zFI p with he|he
 ·have hin:=zEk he
  replace hnl:=And.intro hnl he
  exact auB
 ·replace hnl:=And.intro hnl he
  exact auB
def zUh:Clo:=⟨[.int],[.int],.bool,fun _ _=>True,fun (y:Int×Unit) (x:Int×Unit)=>decide (x.1<0) || decide (min y.1 5≤x.1)⟩
attribute [push_cast] zUh
end Go.Proofs.YtekfodeknpnkbaaGreatDoor
