import Derived.Test.YtekfodeknpnkbaaGreatDoorT9
set_option linter.unusedSimpArgs false
set_option linter.unusedVariables false
namespace Go.Proofs.YtekfodeknpnkbaaGreatDoor
open Go.RowKit Go.VS
end Go.Proofs.YtekfodeknpnkbaaGreatDoor
namespace Go.Proofs.YtekfodeknpnkbaaGreatDoor
open Go.RowKit Go.VS
section
variable {a b:List Int} {c:List (List Int)}
end
end Go.Proofs.YtekfodeknpnkbaaGreatDoor
namespace Go.Proofs.YtekfodeknpnkbaaGreatDoor
open Go.RowKit Go.VS Go.OT
theorem zKn:FnSpec Tryz.prog 72 zQc:=by
 refine FnSpec.of_tri' (E:=know [] [] [] []) (zAl all_nil all_nil all_nil) Tryz.func72 rfl rfl (by kernel_rfl) ?_
 intro C x hE hnl hfit hpre
 simp only [Tryz.ntmps72,Tryz.results72,maxLen,seval,push_cast] at hnl hfit hpre ⊢
 obtain ⟨(c:List (List Int)),(t:List (List Int)),_⟩:=x
 dsimp only at hfit hpre ⊢
 have hlc:=hpre.rows
 repeat' (first|(refine goK (by assumption) ?_; iterate 4 (try clear hK K))|(refine zAb fun K hK=>?_)|(refine zAa hE rfl ?_; simp +contextual only [hnl,↓kA,push_cast,seval,reduceCtorEq,cI])|refine zAd ?_|fail)
 refine zAk (fun k:Nat=>AS.of [(0,.one (.val (.sl (.sl .int)) c)),(5,.I (zCP c t k)),(10,.one (.val (.sl (.sl .int)) t)),(11,.I t.length),(12,.I k)] [] []) (fun k=>k≤t.length) (fun k=>t.length - k) 0 (Nat.zero_le _) ?_ ?_
 ·refine zAf ?_ ?_ ?_<;>simp only [push_cast,seval,reduceCtorEq,cI]
  rfl
 intro k hk K' hL
 repeat' (first|(refine goK (by assumption) ?_; iterate 4 (try clear hK K))|(refine zAb fun K hK=>?_)|((first|refine zAa hE rfl ?_|refine zAi ?_); simp +contextual only [hnl,↓kA,push_cast,seval,reduceCtorEq,cI])|refine zAd ?_|((first|refine zAg ?_|refine zAj ?_); simp only [thenQ,zAh,if_true,if_false,Nat.reduceEqDiff,reduceCtorEq])|(refine zAe (by rfl) (fun hb=>?_) (fun hb=>?_)<;>(try simp only [bq,reduceCtorEq] at hb)<;>(try omega))|refine andS ?_|fail)
 ·have hk':k<t.length:=by omega
  have h3:=hpre.cols hk'
  refine zAk (fun j:Nat=>AS.of [(0,.one (.val (.sl (.sl .int)) c)),(5,.I (zCP c t k+dotK (c.getD k []) (t.getD k []) j)),(6,.I k),(10,.one (.val (.sl (.sl .int)) t)),(11,.I t.length),(12,.I k),(17,.one (.val (.sl .int) (t.getD k []))),(18,.I (t.getD k []).length),(19,.I j)] [] []) (fun j=>j≤(t.getD k []).length) (fun j=>(t.getD k []).length - j) 0 (Nat.zero_le _) ?_ ?_
  ·refine zAf ?_ ?_ ?_<;>simp only [push_cast,seval,reduceCtorEq,cI]
   simp [dotK]
  intro j hj K2 hL2
  have h4:=hpre.spend k (by omega)
  have h5:=hpre.dot hk' j (by omega)
  have h6:j<(t.getD k []).length→_:=fun h=>hpre.term hk' (j:=j) h
  repeat' (first|(refine goK (by assumption) ?_; iterate 4 (try clear hK K))|(refine zAb fun K hK=>?_)|(refine zAa hE rfl ?_; simp +contextual only [hnl,↓kA,push_cast,seval,reduceCtorEq,cI])|refine zAd ?_|((first|refine zAg ?_|refine zAj ?_); simp only [thenQ,zAh,if_true,if_false,Nat.reduceEqDiff,reduceCtorEq])|(refine zAe (by rfl) (fun hb=>?_) (fun hb=>?_)<;>(try simp only [bq,reduceCtorEq] at hb)<;>(try omega))|refine andS ?_|fail)
  ·have h7:=h6 (by omega)
   rw [Int.mul_comm] at h7
   refine ⟨by unfold InR; omega,by unfold InR; omega,?_⟩
   repeat' (first|(refine goK (by assumption) ?_; iterate 4 (try clear hK K))|(refine zAa hE rfl ?_; simp +contextual only [hnl,↓kA,push_cast,seval,reduceCtorEq,cI])|refine andS ?_|fail)
   refine hL2 _ (j+1) (by omega) (by omega) ?_
   refine zAf ?_ ?_ ?_<;>simp only [push_cast,seval,reduceCtorEq,cI]
   rw [dotK,Int.mul_comm,Int.add_assoc]
  ·obtain rfl:j=(t.getD k []).length:=by omega
   refine hL _ (k+1) (by omega) (by omega) ?_
   refine zAf ?_ ?_ ?_<;>simp only [push_cast,seval,reduceCtorEq,cI]
   rfl
 ·obtain rfl:k=t.length:=by omega
  rfl
section
variable {c t:List (List Int)}
end
end Go.Proofs.YtekfodeknpnkbaaGreatDoor
namespace Go.Proofs.YtekfodeknpnkbaaGreatDoor
open Go.RowKit Go.VS
end Go.Proofs.YtekfodeknpnkbaaGreatDoor
namespace Go.Proofs.YtekfodeknpnkbaaGreatDoor
open Go.RowKit Go.VS
end Go.Proofs.YtekfodeknpnkbaaGreatDoor
namespace Go.Proofs.YtekfodeknpnkbaaGreatDoor
open Go.RowKit Go.VS Go.OT
end Go.Proofs.YtekfodeknpnkbaaGreatDoor
namespace Go.Proofs.YtekfodeknpnkbaaGreatDoor
open Go.RowKit Go.VS Go.OT
section
variable {a b:List Int} {c:List (List Int)} {p:zA3}
theorem zT5 {x y:Int}:orV [x,y]=if x=0 then y else x:=by
 simp only [zEP,zIX]
 split
 ·split
  ·omega
  ·rfl
 ·rfl
end
end Go.Proofs.YtekfodeknpnkbaaGreatDoor
namespace Go.Proofs.YtekfodeknpnkbaaGreatDoor
open Go.RowKit Go.VS Go.OT
def zHy (a b:List Int) (c:List (List Int)) (w:Int):List (List Int):=if errWd a b c w=0 then stepP a b c (fewK a b c w) else []
@[push_cast] def zMn:Con:=⟨[.dat (.sl .int),.dat (.sl .int),.dat (.sl (.sl .int)),.dat .int],fun _=>True,fun (x:List Int×List Int×List (List Int)×Int×Unit)=>{res:=[.val (.sl (.sl .int)) (zHy x.1 x.2.1 x.2.2.1 x.2.2.2.1),.val .int (errWd x.1 x.2.1 x.2.2.1 x.2.2.2.1)]}⟩
theorem zIG:FnSpec Tryz.prog 74 zMn:=by
 refine FnSpec.of_tri' (E:=know _ [] [] []) (zAl (kc zDX (kc zII all_nil)) all_nil all_nil) Tryz.func74 rfl rfl (by kernel_rfl) ?_
 intro C x hE hnl hfit hpre
 simp only [Tryz.ntmps74,Tryz.results74,maxLen,seval,push_cast] at hnl hfit hpre ⊢
 obtain ⟨(a:List Int),(b:List Int),(c:List (List Int)),(w:Int),_⟩:=x
 dsimp only at hfit hpre ⊢
 by_cases he:errWd a b c w=0
 ·have h1:=zBE he
  have hm:=h1.1.mc
  have h3:zHy a b c w=stepP a b c (fewK a b c w):=if_pos he
  replace hnl:=And.intro hnl (And.intro he (And.intro h3 (And.intro hm h1.2)))
  exact auB
 ·have h3:zHy a b c w=[]:=if_neg he
  replace hnl:=And.intro hnl (And.intro h3 (eq_false he))
  exact auB
end Go.Proofs.YtekfodeknpnkbaaGreatDoor
namespace Go.Proofs.YtekfodeknpnkbaaGreatDoor
open Go.RowKit Go.VS Go.OT
def cK (p:List (List Int)) (i k:Nat):Int:=sg i fun r=>gt p r k
def colB (p:List (List Int)) (i j:Nat):List Int:=tbl (wid p) fun k=>cK p i k+(if k<j then gt p i k else 0)
section
variable {p:List (List Int)}
theorem zPl (i j:Nat):(colB p i j).length=wid p:=zAZ _ _
theorem zSL (i j:Nat) {k:Nat} (hk:k<wid p):(colB p i j).getD k 0=cK p i k+(if k<j then gt p i k else 0):=zBu _ _ hk
theorem zSM (i:Nat):colB p i (wid p)=colB p (i+1) 0:=zAD fun k hk=>by
 rw [if_pos hk,if_neg (by omega)]
 show _=(cK p i k+gt p i k)+0
 omega
theorem zSN {i j:Nat} (hj:j<wid p) {x:Int} (hx:x=(colB p i j).getD j 0+gt p i j):(colB p i j).set j x=colB p i (j+1):=by
 unfold colB at hx ⊢
 rw [zBu _ _ hj,if_neg (by omega)] at hx
 rw [zFz]
 refine zAD fun k hk=>?_
 by_cases h:k=j
 ·subst h
  rw [if_pos rfl,if_pos (by omega),hx]
  omega
 ·rw [if_neg h]
  by_cases h2:k<j
  ·rw [if_pos h2,if_pos (by omega)]
  ·rw [if_neg h2,if_neg (by omega)]
theorem zSO:colB p 0 0=List.replicate (wid p) 0:=by
 unfold colB tbl
 apply List.ext_getElem
 ·simp
 ·intro k h1 h2
  simp [cK,sg]
theorem zXb (h:InPlan p):∀ i k,i≤p.length→k<wid p→0≤cK p i k∧cK p i k≤150*i
 | 0,k,_,_=>by simp [cK,sg]
 | i+1,k,hi,hk=>by
  have h1:=zXb h i k (by omega) hk
  have h2:0≤gt p i k∧gt p i k≤150:=h.at (show i<p.length by omega) hk
  show 0≤cK p i k+gt p i k∧cK p i k+gt p i k≤_
  omega
end
theorem zJc {p:List (List Int)} (h:InPlan p) {i:Nat} (hi:i<p.length) (m:Nat):InR (lsum ((p.getD i []).take m)):=by
 have h1:=h.row hi
 have h2:=h.cols
 have key:∀ m,m≤(p.getD i []).length→0≤lsum ((p.getD i []).take m)∧lsum ((p.getD i []).take m)≤150*m:=by
  intro m
  induction m with
  | zero=>intro _; simp [lsum]
  | succ m ih =>
   intro hm
   have:=ih (by omega)
   have k3:0≤(p.getD i []).getD m 0∧(p.getD i []).getD m 0≤150:=h.at hi (by omega)
   rw [zBH _ m (by omega)]
   omega
 rcases Nat.lt_or_ge (p.getD i []).length m with h3|h3
 ·rw [List.take_of_length_le (by omega)]
  have:=key _ (Nat.le_refl _)
  rw [List.take_length] at this
  unfold InR
  omega
 ·have:=key m h3
  unfold InR
  omega
structure LooseP (a b:List Int) (p:List (List Int)):Prop where
 rows:p.length=a.length
 cols:wid p=b.length
 ra:∀ i,i<p.length→lsum (p.getD i [])≤a.getD i 0
 cb:∀ k,k<wid p→cK p p.length k≤b.getD k 0
theorem looseP_iff {a b:List Int} {p:List (List Int)}:LooseP a b p↔(p.length=a.length∧wid p=b.length∧(∀ i,i<p.length→lsum (p.getD i [])≤a.getD i 0)∧∀ k,k<wid p→cK p p.length k≤b.getD k 0) :=
 ⟨fun ⟨a,b,c,d⟩=>⟨a,b,c,d⟩,fun ⟨a,b,c,d⟩=>⟨a,b,c,d⟩⟩
instance (a b:List Int) (p:List (List Int)):Decidable (LooseP a b p):=decidable_of_iff _ looseP_iff.symm
def errLo (a b:List Int) (p:List (List Int)):Int:=if zAt a=0∧zAt b=0∧zAW p=0 then if LooseP a b p then 0 else 7 else 1
@[push_cast] def loCon:Con:=⟨[.dat (.sl .int),.dat (.sl .int),.dat (.sl (.sl .int))],fun _=>True,fun (x:List Int×List Int×List (List Int)×Unit)=>{res:=[.val .int (errLo x.1 x.2.1 x.2.2.1)]}⟩
theorem zFG (a:List Int):zAt a=0∨zAt a=1:=by
 unfold zAt
 split<;>simp
theorem yAm (a b:List Int) (p:List (List Int)):(zAt a=0∧zAt b=0∧zAW p=0∧orV [zAt a,zAt b,zAW p]=0)∨(errLo a b p=1∧orV [zAt a,zAt b,zAW p]=1):=by
 have h1:=zFG a
 have h2:=zFG b
 have h3:=zFI p
 simp only [zEP,zIX]
 by_cases h:zAt a=0∧zAt b=0∧zAW p=0
 ·obtain ⟨e1,e2,e3⟩:=h
  left
  rw [if_pos e1,if_pos e2,if_pos e3]
  exact ⟨e1,e2,e3,rfl⟩
 ·right
  refine ⟨if_neg h,?_⟩
  by_cases e1:zAt a=0
  ·by_cases e2:zAt b=0
   ·have e3:¬zAW p=0:=fun e3=>h ⟨e1,e2,e3⟩
    rw [if_pos e1,if_pos e2,if_neg e3]
    omega
   ·rw [if_pos e1,if_neg e2]
    omega
  ·rw [if_neg e1]
   omega
theorem zTB:FnSpec Tryz.prog 70 loCon:=by
 refine FnSpec.of_tri' (E:=know _ [] [] []) (zAl (kc zKC (kc zI4 (kc zIY (kc zEN all_nil)))) all_nil all_nil) Tryz.func70 rfl rfl (by kernel_rfl) ?_
 intro C x hE hnl hfit hpre
 simp only [Tryz.ntmps70,Tryz.results70,maxLen,seval,push_cast] at hnl hfit hpre ⊢
 obtain ⟨(a:List Int),(b:List Int),(p:List (List Int)),_⟩:=x
 dsimp only at hfit hpre ⊢
 rcases yAm a b p with ⟨e1,e2,e3,e0⟩|⟨e1,e0⟩
 ·have hp:=zEk e3
  have hw:(p.getD 0 []).length=wid p:=rfl
  have hpr:=hp.rows
  have hpc:=hp.cols
  have eL:∀ h:LooseP a b p,errLo a b p=0:=fun h=>by rw [errLo,if_pos ⟨e1,e2,e3⟩,if_pos h]
  have eN:¬LooseP a b p→errLo a b p=7:=fun h=>by rw [errLo,if_pos ⟨e1,e2,e3⟩,if_neg h]
  replace hnl:=And.intro hnl (And.intro e0 hw)
  by_cases hs:p.length=a.length∧wid p=b.length
  ·obtain ⟨hs1,hs2⟩:=hs
   have hsum:∀ i,i<p.length→∀ m,InR (lsum ((p.getD i []).take m)):=fun i hi=>zJc hp hi
   repeat' (first|(refine goK (by assumption) ?_; iterate 4 (try clear hK K))|(refine zAb fun K hK=>?_)|(refine zAa hE rfl ?_; simp +contextual only [hnl,↓kA,push_cast,seval,reduceCtorEq,cI])|refine zAd ?_|(refine zAg ?_; simp only [thenQ,zAh,if_true,if_false,Nat.reduceEqDiff,reduceCtorEq])|(refine zAe (by rfl) (fun hb=>?_) (fun hb=>?_)<;>(try simp only [bq,reduceCtorEq] at hb)<;>(try omega))|refine andS ?_|(refine ⟨fun hc=>?_,fun hc=>?_⟩)|fail)
   refine zAk (fun i:Nat=>AS.of [(0,.one (.val (.sl .int) a)),(1,.one (.val (.sl .int) b)),(8,.one (.ref 42)),(43,.one (.val (.sl (.sl .int)) p)),(44,.I p.length),(45,.I i)] [(42,.flat 3 .int (colB p i 0))] []) (fun i=>i≤p.length∧∀ r,r<i→lsum (p.getD r [])≤a.getD r 0) (fun i=>p.length - i) 0 ⟨Nat.zero_le _,by omega⟩ ?_ ?_
   ·refine zAf ?_ ?_ ?_<;>simp only [push_cast,seval,reduceCtorEq,cI]
    rw [zSO,hs2]
    exact .inl rfl
   intro i ⟨hi,hall⟩ K' hL
   rcases Nat.lt_or_ge i p.length with hip|hip
   ·have hrow:=hp.row hip
    have hsi:=hsum i hip
    replace hnl:=And.intro hnl (fun m=>eq_true (hsi m))
    repeat' (first|(refine goK (by assumption) ?_; iterate 4 (try clear hK K))|(refine zAb fun K hK=>?_)|((first|refine zAa hE rfl ?_|refine zAi ?_|((first|refine zAc hE 1 rfl rfl (by kernel_rfl) ?_|refine zAc hE 2 rfl rfl (by kernel_rfl) ?_|refine zAc hE 3 rfl rfl (by kernel_rfl) ?_|refine zAc hE 4 rfl rfl (by kernel_rfl) ?_); simp only [List.length_cons,List.length_nil,Nat.reduceAdd,Nat.reduceSub,List.take_succ_cons,List.take_zero,List.drop_succ_cons,List.drop_zero])); simp +contextual only [hnl,↓kA,push_cast,seval,reduceCtorEq,cI])|refine zAd ?_|(refine zAg ?_; simp only [thenQ,zAh,if_true,if_false,Nat.reduceEqDiff,reduceCtorEq])|(refine zAe (by rfl) (fun hb=>?_) (fun hb=>?_)<;>(try simp only [bq,reduceCtorEq] at hb)<;>(try omega))|refine andS ?_|fail)
    ·exact (eN fun h=>by have:=h.ra i hip; omega).symm
    ·refine zAk (fun j:Nat=>AS.of [(0,.one (.val (.sl .int) a)),(1,.one (.val (.sl .int) b)),(8,.one (.ref 42)),(9,.I i),(43,.one (.val (.sl (.sl .int)) p)),(44,.I p.length),(45,.I i),(57,.one (.val (.sl .int) (p.getD i []))),(58,.I (p.getD i []).length),(59,.I j)] [(42,.flat 3 .int (colB p i j))] []) (fun j=>j≤wid p) (fun j=>wid p - j) 0 (Nat.zero_le _) ?_ ?_
     ·refine zAf ?_ ?_ ?_<;>simp only [push_cast,seval,reduceCtorEq,cI]
      all_goals skip
     intro j hj K2 hL2
     have hcl:=zPl (p:=p) i j
     rcases Nat.lt_or_ge j (wid p) with hjw|hjw
     ·have k1:=zSL (p:=p) i j hjw
      rw [if_neg (Nat.lt_irrefl j)] at k1
      have k2:=zXb hp i j hi hjw
      have k3:0≤(p.getD i []).getD j 0∧(p.getD i []).getD j 0≤150:=hp.at hip hjw
      have k4:=zSN (i:=i) hjw (x:=(colB p i j).getD j 0+(p.getD i []).getD j 0) rfl
      repeat' (first|(refine goK (by assumption) ?_; iterate 4 (try clear hK K))|(refine zAb fun K hK=>?_)|(refine zAa hE rfl ?_; simp +contextual only [hnl,↓kA,push_cast,seval,reduceCtorEq,cI])|refine zAd ?_|(refine zAg ?_; simp only [thenQ,zAh,if_true,if_false,Nat.reduceEqDiff,reduceCtorEq])|(refine zAe (by rfl) (fun hb=>?_) (fun hb=>?_)<;>(try simp only [bq,reduceCtorEq] at hb)<;>(try omega))|refine andS ?_|fail)
      all_goals try rw [k4]
      all_goals refine hL2 _ (j+1) (by omega) (by omega) ?_
      all_goals refine zAf ?_ ?_ ?_<;>simp only [push_cast,seval,reduceCtorEq,cI]
      all_goals first|exact .inl rfl|skip
     ·obtain rfl:j=wid p:=by omega
      have k5:=zSM (p:=p) i
      repeat' (first|(refine goK (by assumption) ?_; iterate 4 (try clear hK K))|(refine zAb fun K hK=>?_)|(refine zAa hE rfl ?_; simp +contextual only [hnl,↓kA,push_cast,seval,reduceCtorEq,cI])|(refine zAj ?_; simp only [thenQ,zAh,if_true,if_false,Nat.reduceEqDiff,reduceCtorEq])|(refine zAe (by rfl) (fun hb=>?_) (fun hb=>?_)<;>(try simp only [bq,reduceCtorEq] at hb)<;>(try omega))|refine andS ?_|fail)
      refine hL _ (i+1) ⟨by omega,fun r hr=>?_⟩ (by omega) ?_
      ·rcases Nat.lt_or_ge r i with h|h
       ·exact hall r h
       ·obtain rfl:r=i:=by omega
        omega
      refine zAf ?_ ?_ ?_<;>simp only [push_cast,seval,reduceCtorEq,cI]
      rw [k5]
      exact .inl rfl
   ·obtain rfl:i=p.length:=by omega
    have hcl:=zPl (p:=p) p.length 0
    repeat' (first|(refine goK (by assumption) ?_; iterate 4 (try clear hK K))|(refine zAb fun K hK=>?_)|(refine zAa hE rfl ?_; simp +contextual only [hnl,↓kA,push_cast,seval,reduceCtorEq,cI])|refine zAd ?_|(refine zAj ?_; simp only [thenQ,zAh,if_true,if_false,Nat.reduceEqDiff,reduceCtorEq])|(refine zAe (by rfl) (fun hb=>?_) (fun hb=>?_)<;>(try simp only [bq,reduceCtorEq] at hb)<;>(try omega))|fail)
    refine zAk (fun k:Nat=>AS.of [(1,.one (.val (.sl .int) b)),(73,.one (.ref 42)),(74,.I (colB p p.length 0).length),(75,.I k)] [(42,.flat 3 .int (colB p p.length 0))] []) (fun k=>k≤wid p∧∀ j,j<k→cK p p.length j≤b.getD j 0) (fun k=>wid p - k) 0 ⟨Nat.zero_le _,by omega⟩ ?_ ?_
    ·refine zAf ?_ ?_ ?_<;>simp only [push_cast,seval,reduceCtorEq,cI]
     all_goals skip
    intro k ⟨hk,hal2⟩ K3 hL3
    rcases Nat.lt_or_ge k (wid p) with hkw|hkw
    ·have k1:=zSL (p:=p) p.length 0 hkw
     rw [if_neg (Nat.not_lt_zero _),Int.add_zero] at k1
     repeat' (first|(refine goK (by assumption) ?_; iterate 4 (try clear hK K))|(refine zAb fun K hK=>?_)|((first|refine zAa hE rfl ?_|refine zAi ?_); simp +contextual only [hnl,↓kA,push_cast,seval,reduceCtorEq,cI])|refine zAd ?_|(refine zAg ?_; simp only [thenQ,zAh,if_true,if_false,Nat.reduceEqDiff,reduceCtorEq])|(refine zAe (by rfl) (fun hb=>?_) (fun hb=>?_)<;>(try simp only [bq,reduceCtorEq] at hb)<;>(try omega))|refine andS ?_|fail)
     ·exact (eN fun h=>by have:=h.cb k hkw; omega).symm
     ·refine hL3 _ (k+1) ⟨by omega,fun j hj=>?_⟩ (by omega) ?_
      ·rcases Nat.lt_or_ge j k with h|h
       ·exact hal2 j h
       ·obtain rfl:j=k:=by omega
        omega
      refine zAf ?_ ?_ ?_<;>simp only [push_cast,seval,reduceCtorEq,cI]
    ·obtain rfl:k=wid p:=by omega
     repeat' (first|(refine goK (by assumption) ?_; iterate 4 (try clear hK K))|(refine zAb fun K hK=>?_)|((first|refine zAa hE rfl ?_|refine zAi ?_); simp +contextual only [hnl,↓kA,push_cast,seval,reduceCtorEq,cI])|(refine zAj ?_; simp only [thenQ,zAh,if_true,if_false,Nat.reduceEqDiff,reduceCtorEq])|(refine zAe (by rfl) (fun hb=>?_) (fun hb=>?_)<;>(try simp only [bq,reduceCtorEq] at hb)<;>(try omega))|fail)
     exact (eL ⟨hs1,hs2,fun i hi=>hall i hi,fun k hk=>hal2 k hk⟩).symm
  ·repeat' (first|(refine goK (by assumption) ?_; iterate 4 (try clear hK K))|(refine zAb fun K hK=>?_)|((first|refine zAa hE rfl ?_|refine zAi ?_); simp +contextual only [hnl,↓kA,push_cast,seval,reduceCtorEq,cI])|(refine zAg ?_; simp only [thenQ,zAh,if_true,if_false,Nat.reduceEqDiff,reduceCtorEq])|(refine zAe (by rfl) (fun hb=>?_) (fun hb=>?_)<;>(try simp only [bq,reduceCtorEq] at hb)<;>(try omega))|refine andS ?_|(refine ⟨fun hc=>?_,fun hc=>?_⟩)|fail)
   all_goals first|exact (eN fun h=>hs ⟨h.rows,h.cols⟩).symm|skip
   done
 ·replace hnl:=And.intro hnl (And.intro e1 e0)
  exact auB
end Go.Proofs.YtekfodeknpnkbaaGreatDoor
namespace Go.Proofs.YtekfodeknpnkbaaGreatDoor
open Go.RowKit Go.VS Go.OT
def movK (p:List (List Int)) (i:Nat):Int:=sg i fun r=>lsum (p.getD r [])
theorem zOI {p:List (List Int)} (h:InPlan p) {i:Nat} (hi:i<p.length):0≤lsum (p.getD i [])∧lsum (p.getD i [])≤750:=by
 have h1:=h.row hi
 have h2:=h.cols
 rw [zBs]
 have k1:0≤sumL (p.getD i []):=zDe _ fun j hj=>(h.at hi (show j<wid p by omega)).1
 have k2:sumL (p.getD i [])≤(p.getD i []).length*150:=zM7 _ fun j hj=>(h.at hi (show j<wid p by omega)).2
 omega
theorem zFO {p:List (List Int)} (h:InPlan p):∀ i,i≤p.length→0≤movK p i∧movK p i≤750*i
 | 0,_=>by simp [movK,sg]
 | i+1,hi=>by
  have h1:=zFO h i (by omega)
  have h2:=zOI h (show i<p.length by omega)
  show 0≤movK p i+lsum (p.getD i [])∧movK p i+lsum (p.getD i [])≤_
  omega
@[push_cast] def zXj:Con:=⟨[.dat (.sl (.sl .int))],fun (x:List (List Int)×Unit)=>InPlan x.1,fun (x:List (List Int)×Unit)=>{res:=[.val .int (movK x.1 x.1.length)]}⟩
theorem zPX:FnSpec Tryz.prog 73 zXj:=by
 refine FnSpec.of_tri' (E:=know _ [] [] []) (zAl (kc zEN all_nil) all_nil all_nil) Tryz.func73 rfl rfl (by kernel_rfl) ?_
 intro C x hE hnl hfit hpre
 simp only [Tryz.ntmps73,Tryz.results73,maxLen,seval,push_cast] at hnl hfit hpre ⊢
 obtain ⟨(p:List (List Int)),_⟩:=x
 dsimp only at hfit hpre ⊢
 have hpr:=hpre.rows
 repeat' (first|(refine goK (by assumption) ?_; iterate 4 (try clear hK K))|(refine zAb fun K hK=>?_)|(refine zAa hE rfl ?_; simp +contextual only [hnl,↓kA,push_cast,seval,reduceCtorEq,cI])|refine zAd ?_|fail)
 refine zAk (fun i:Nat=>AS.of [(3,.I (movK p i)),(6,.one (.val (.sl (.sl .int)) p)),(7,.I p.length),(8,.I i)] [] []) (fun i=>i≤p.length) (fun i=>p.length - i) 0 (Nat.zero_le _) ?_ ?_
 ·refine zAf ?_ ?_ ?_<;>simp only [push_cast,seval,reduceCtorEq,cI]
  all_goals rfl
 intro i hi K' hL
 rcases Nat.lt_or_ge i p.length with hip|hip
 ·have hsi:=zJc hpre hip
  have h1:=zFO hpre i hi
  have h2:=zOI hpre hip
  replace hnl:=And.intro hnl (fun m=>eq_true (hsi m))
  repeat' (first|(refine goK (by assumption) ?_; iterate 4 (try clear hK K))|(refine zAb fun K hK=>?_)|(refine zAa hE rfl ?_; simp +contextual only [hnl,↓kA,push_cast,seval,reduceCtorEq,cI])|refine zAd ?_|(refine zAg ?_; simp only [thenQ,zAh,if_true,if_false,Nat.reduceEqDiff,reduceCtorEq])|(refine zAe (by rfl) (fun hb=>?_) (fun hb=>?_)<;>(try simp only [bq,reduceCtorEq] at hb)<;>(try omega))|refine andS ?_|fail)
  refine hL _ (i+1) (by omega) (by omega) ?_
  refine zAf ?_ ?_ ?_<;>simp only [push_cast,seval,reduceCtorEq,cI]
  all_goals rfl
 ·obtain rfl:i=p.length:=by omega
  exact auB
def errLC (a b:List Int) (c:List (List Int)) (w:Int) (t:List (List Int)):Int:=if errWd a b c w=0 then errLo a b t else errWd a b c w
def costV (a b:List Int) (c:List (List Int)) (w:Int) (t:List (List Int)):Int:=spend c t+w*(lsum a+lsum b - 2*movK t t.length)
def costL (a b:List Int) (c:List (List Int)) (w:Int) (t:List (List Int)):Int:=if errLC a b c w t=0 then costV a b c w t else 0
theorem zK4 {a b:List Int} {c:List (List Int)} {w:Int} {t:List (List Int)} (h:errLC a b c w t=0):errWd a b c w=0∧InPlan t∧LooseP a b t:=by
 unfold errLC at h
 split at h
 ·rename_i h1
  unfold errLo at h
  split at h
  ·rename_i h2
   split at h
   ·rename_i h3; exact ⟨h1,zEk h2.2.2,h3⟩
   ·omega
  ·omega
 ·rename_i h1; exact absurd h h1
theorem zTA {a b:List Int} {c:List (List Int)} {t:List (List Int)} (hf:ForOK a b c) (hp:InPlan t) (hl:LooseP a b t):Fit c t:=by
 have hm:=hf.mc
 refine ⟨a.length,b.length,⟨by have:=hm.a5; omega,by have:=hm.b5; omega⟩,⟨hm.hc.rows,hm.hc.cols,fun i j hi hj=>by have:=hm.hc.at' i j hi hj; omega⟩,⟨hl.rows,fun i hi=>?_,fun i j hi hj=>?_⟩⟩
 ·rw [hp.row (by rw [hl.rows]; exact hi)]; exact hl.cols
 ·have h1:0≤(t.getD i []).getD j 0∧(t.getD i []).getD j 0≤150:=hp.at (by rw [hl.rows]; exact hi) (by rw [hl.cols]; exact hj)
  omega
theorem zXh {a b:List Int} {t:List (List Int)} (hp:InPlan t) (hl:LooseP a b t) {i:Nat} (hi:i<a.length):rowS b.length (gt t) i=lsum (t.getD i []):=by
 rw [zBs]
 unfold sumL
 rw [hp.row (by rw [hl.rows]; exact hi),hl.cols]
 rfl
theorem zYj {a b:List Int} {t:List (List Int)} (hp:InPlan t) (hl:LooseP a b t):IsPart a.length b.length (ga a) (ga b) (gt t)∧units a.length b.length (gt t)=movK t t.length:=by
 refine ⟨⟨fun i j hi hj=>(hp.at (show i<t.length by rw [hl.rows]; exact hi) (show j<wid t by rw [hl.cols]; exact hj)).1,fun i hi=>?_,fun j hj=>?_⟩,?_⟩
 ·rw [zXh hp hl hi]
  exact hl.ra i (by rw [hl.rows]; exact hi)
 ·have h1:=hl.cb j (by rw [hl.cols]; exact hj)
  rw [hl.rows] at h1
  exact h1
 ·unfold units movK
  rw [hl.rows]
  exact zAm _ fun i hi=>zXh hp hl hi
end Go.Proofs.YtekfodeknpnkbaaGreatDoor
namespace Go.Proofs.YtekfodeknpnkbaaGreatDoor
open Go.RowKit Go.VS Go.OT Go.LC
theorem zTZ {l:List Int} (h:zB3 l=true) {i:Nat} (hi:i<l.length):0≤ga l i∧ga l i≤30:=by
 unfold zB3 at h
 simp only [Bool.and_eq_true,decide_eq_true_eq,List.all_eq_true] at h
 exact h.2 _ (zAJ 0 hi)
theorem yAc {t:List (List Int)} {x:Int} {r:List Int} (hr:r∈t) (hx:x∈r):∃ i j,i<t.length∧j<(t.getD i []).length∧x=gt t i j:=by
 obtain ⟨i,hi,rfl⟩:=List.getElem_of_mem hr
 obtain ⟨j,hj,rfl⟩:=List.getElem_of_mem hx
 have e:t.getD i []=t[i]:=by rw [List.getD_eq_getElem?_getD,List.getElem?_eq_getElem hi]; rfl
 refine ⟨i,j,hi,by rw [e]; exact hj,?_⟩
 unfold gt
 rw [e,List.getD_eq_getElem?_getD,List.getElem?_eq_getElem hj]
 rfl
theorem zYQ {a b:List Int} {c:List (List Int)} (hf:ForOK a b c) {k:Nat} (hk:k≤maxU a b) :
 InPlan (stepP a b c k)∧LooseP a b (stepP a b c k)∧movK (stepP a b c k) (stepP a b c k).length=k∧spend c (stepP a b c k)=partV a b c k:=by
 have hm:=hf.mc
 have hs:=stepI hm k hk
 have hsh:=hs.way.shp
 obtain ⟨p1,p2,p3⟩:=zLo hm hk
 generalize stepP a b c k=t at *
 have ha:=zCw hf.ha
 have hb:=zCw hf.hb
 have hr:=hsh.rows
 have hc:=hsh.cols
 have ha5:=hm.a5
 have hb5:=hm.b5
 have hw:wid t=b.length:=hc 0 (by omega)
 have hin:InPlan t:=by
  refine ⟨by omega,by omega,fun r hr=>?_,fun r hr x hx=>?_⟩
  ·obtain ⟨i,hi,rfl⟩:=List.getElem_of_mem hr
   have:=hc i hi
   rw [List.getD_eq_getElem?_getD,List.getElem?_eq_getElem hi] at this
   exact this.trans hw.symm
  ·obtain ⟨i,j,hi,hj,rfl⟩:=yAc hr hx
   have hj':=hc i hi
   have k1:=p1.nn i j (by omega) (by omega)
   have k2:=p1.at_le (i:=i) (j:=j) (by omega) (by omega)
   have k3:=zTZ hf.hb (i:=j) (by omega)
   omega
 have hrow:∀ i,i<a.length→rowS b.length (gt t) i=lsum (t.getD i []):=fun i hi=>by
  rw [zBs]
  unfold sumL
  rw [hc i (by omega)]
  rfl
 have hlo:LooseP a b t:=by
  refine ⟨hr,hw,fun i hi=>?_,fun j hj=>?_⟩
  ·rw [←hrow i (by omega)]
   exact p1.row i (by omega)
  ·rw [hr]
   exact p1.col j (by omega)
 refine ⟨hin,hlo,?_,?_⟩
 ·rw [←(zYj hin hlo).2,p2]
 ·rw [←p3]
  exact zGW hsh.tab.sz
end Go.Proofs.YtekfodeknpnkbaaGreatDoor
namespace Go.Proofs.YtekfodeknpnkbaaGreatDoor
open Go.RowKit Go.VS Go.OT Go.LC
theorem zJI {a b:List Int} {c:List (List Int)} {w:Int} (he:errWd a b c w=0):errLC a b c w (stepP a b c (fewK a b c w))=0∧costL a b c w (stepP a b c (fewK a b c w))=zBa a b c w:=by
 obtain ⟨hf,hw⟩:=zBE he
 have hk:=(zEI hf.mc w).1
 obtain ⟨g1,g2,g3,g4⟩:=zYQ hf hk
 have e1:errLo a b (stepP a b c (fewK a b c w))=0:=by rw [errLo,if_pos ⟨if_pos hf.ha,if_pos hf.hb,zIz g1⟩,if_pos g2]
 have e2:errLC a b c w (stepP a b c (fewK a b c w))=0:=by rw [errLC,if_pos he]; exact e1
 refine ⟨e2,?_⟩
 rw [costL,if_pos e2,costV,g3,g4,zBs,zBs]
 rfl
end Go.Proofs.YtekfodeknpnkbaaGreatDoor
