import Derived.Test.YtekfodeknpnkbaaGreatDoorT33
import Derived.Test.YtekfodeknpnkbaaGreatDoorT34
set_option linter.unusedSimpArgs false
set_option linter.unusedVariables false
namespace Go.Proofs.YtekfodeknpnkbaaGreatDoor
open Go.RowKit Go.VS
structure PEq:Prop where
 put:({data:=#[112,117,116]}:ByteArray)=pPut
 take:({data:=#[116,97,107,101]}:ByteArray)=pTake
 want:({data:=#[119,97,110,116]}:ByteArray)=pWant
 drop:({data:=#[100,114,111,112]}:ByteArray)=pDrop
 cost:({data:=#[99,111,115,116]}:ByteArray)=pCost
 waste:({data:=#[119,97,115,116,101]}:ByteArray)=zI0
 claim:({data:=#[99,108,97,105,109]}:ByteArray)=zIZ
theorem pEqs:PEq:=⟨rfl,rfl,rfl,rfl,rfl,rfl,rfl⟩
theorem zWm (n:ByteArray) : -1≤numsV n∧numsV n≤3:=by
 unfold numsV
 split
 ·omega
 ·split
  ·omega
  ·split<;>omega
@[push_cast] def zYu:Con:=⟨[.dat .str],fun _=>True,fun (x:ByteArray×Unit)=>{res:=[.val .int (numsV x.1)]}⟩
theorem zTW:FnSpec Tryz.prog 107 zYu:=by
 refine FnSpec.of_tri' (E:=know [] [] [] []) (zAl all_nil all_nil all_nil) Tryz.func107 rfl rfl (by kernel_rfl) ?_
 intro C x hE hnl hfit hpre
 simp only [Tryz.ntmps107,Tryz.results107,maxLen,seval,push_cast] at hnl hfit hpre ⊢
 obtain ⟨(n:ByteArray),_⟩:=x
 dsimp only at hfit hpre ⊢
 obtain ⟨q1,q2,q3,q4,q5,q6,q7⟩:=pEqs
 replace hnl:=And.intro hnl (And.intro q1 (And.intro q2 (And.intro q3 (And.intro q4 (And.intro q5 (And.intro q6 q7))))))
 clear q1 q2 q3 q4 q5 q6 q7
 by_cases h0:n=pPut
 ·have e:numsV n=2:=by unfold numsV; rw [if_pos (.inl h0)]
  replace hnl:=And.intro hnl (And.intro e (eq_true h0))
  exact auC
 by_cases h1:n=pTake
 ·have e:numsV n=2:=by unfold numsV; rw [if_pos (.inr (.inl h1))]
  replace hnl:=And.intro hnl (And.intro e (And.intro (eq_false h0) (eq_true h1)))
  exact auC
 by_cases h2:n=pWant
 ·have e:numsV n=2:=by unfold numsV; rw [if_pos (.inr (.inr (.inl h2)))]
  replace hnl:=And.intro hnl (And.intro e (And.intro (eq_false h0) (And.intro (eq_false h1) (eq_true h2))))
  exact auC
 by_cases h3:n=pDrop
 ·have e:numsV n=2:=by unfold numsV; rw [if_pos (.inr (.inr (.inr (h3))))]
  replace hnl:=And.intro hnl (And.intro e (And.intro (eq_false h0) (And.intro (eq_false h1) (And.intro (eq_false h2) (eq_true h3)))))
  exact auC
 have hq:¬(n=pPut∨n=pTake∨n=pWant∨n=pDrop):=fun h=>h.elim h0 fun h=>h.elim h1 fun h=>h.elim h2 h3
 by_cases h4:n=pCost
 ·have e:numsV n=3:=by unfold numsV; rw [if_neg hq,if_pos h4]
  replace hnl:=And.intro hnl (And.intro e (And.intro (eq_false h0) (And.intro (eq_false h1) (And.intro (eq_false h2) (And.intro (eq_false h3) (eq_true h4))))))
  exact auC
 by_cases h5:n=zI0
 ·have e:numsV n=1:=by unfold numsV; rw [if_neg hq,if_neg h4,if_pos (.inl h5)]
  replace hnl:=And.intro hnl (And.intro e (And.intro (eq_false h0) (And.intro (eq_false h1) (And.intro (eq_false h2) (And.intro (eq_false h3) (And.intro (eq_false h4) (eq_true h5)))))))
  exact auC
 by_cases h6:n=zIZ
 ·have e:numsV n=1:=by unfold numsV; rw [if_neg hq,if_neg h4,if_pos (.inr h6)]
  replace hnl:=And.intro hnl (And.intro e (And.intro (eq_false h0) (And.intro (eq_false h1) (And.intro (eq_false h2) (And.intro (eq_false h3) (And.intro (eq_false h4) (And.intro (eq_false h5) (eq_true h6))))))))
  exact auC
 have e:numsV n = -1:=by unfold numsV; rw [if_neg hq,if_neg h4,if_neg (fun h=>h.elim h5 h6)]
 replace hnl:=And.intro hnl (And.intro e (And.intro (eq_false h0) (And.intro (eq_false h1) (And.intro (eq_false h2) (And.intro (eq_false h3) (And.intro (eq_false h4) (And.intro (eq_false h5) (eq_false h6))))))))
 exact auC
def rchE (l:List Int) (i n:Int) (g:Bool):Int:=if (l.length:Int)≤i then 4 else if n=0 then 1 else if g=true then (if 30<l.getD i.toNat 0+n then 3 else 0) else if l.getD i.toNat 0<n then 9 else 0
def rchL (l:List Int) (i n:Int) (g:Bool):List Int:=if rchE l i n g=0 then l.set i.toNat (if g=true then l.getD i.toNat 0+n else l.getD i.toNat 0 - n) else []
structure RchPre (l:List Int) (i n:Int):Prop where
 len:l.length≤1000
 at':∀ k,k<l.length→0≤l.getD k 0∧l.getD k 0≤30
 i:0≤i∧i≤99999
 n:0≤n∧n≤99999
def isOrd (t:ByteArray):Bool:=decide (1≤t.size∧t.size≤30)
def argsK (t:ByteArray) (k:Nat):List Int:=tbl k fun i=>numRV (zAE t (i+1))
def zEb (t:ByteArray):Bool:=isOrd t && (decide (((zBx t).length:Int) - 1=numsV (zAE t 0)) && (List.range ((zBx t).length - 1)).all fun i=>zBl (zAE t (i+1)) && decide (numRV (zAE t (i+1))≤99999))
def zHL (t:ByteArray):List Int:=argsK t ((zBx t).length - 1)
@[push_cast] def zUC:Con:=⟨[.dat .str],fun (x:ByteArray×Unit)=>x.1.size≤100000,fun (x:ByteArray×Unit) =>
 {res:=[.val .str (if zEb x.1=true then zAE x.1 0 else ⟨#[]⟩),.val (.sl .int) (if zEb x.1=true then zHL x.1 else []),.val .bool (zEb x.1)]}⟩
end Go.Proofs.YtekfodeknpnkbaaGreatDoor
namespace Go.Proofs.YtekfodeknpnkbaaGreatDoor
open Go.RowKit Go.VS
section
variable {t:ByteArray} {k:Nat}
theorem zDQ:zEb t=true↔(1≤t.size∧t.size≤30)∧((zBx t).length:Int) - 1=numsV (zAE t 0)∧∀ i,i<(zBx t).length - 1→zBl (zAE t (i+1))=true∧numRV (zAE t (i+1))≤99999:=by
 simp only [zEb,isOrd,Bool.and_eq_true,decide_eq_true_eq,List.all_eq_true,List.mem_range]
theorem zUd (h:¬(1≤t.size∧t.size≤30)):zEb t=false:=by
 rw [Bool.eq_false_iff]; exact fun h2=>h (zDQ.1 h2).1
theorem zUe (h:¬((zBx t).length:Int) - 1=numsV (zAE t 0)):zEb t=false:=by
 rw [Bool.eq_false_iff]; exact fun h2=>h (zDQ.1 h2).2.1
theorem zUf (hk:k<(zBx t).length - 1) (h:¬(zBl (zAE t (k+1))=true∧numRV (zAE t (k+1))≤99999)):zEb t=false:=by
 rw [Bool.eq_false_iff]; exact fun h2=>h ((zDQ.1 h2).2.2 k hk)
end
theorem zOK:FnSpec Tryz.prog 58 zUC:=by
 refine FnSpec.of_tri' (E:=know _ [] [] []) (zAl (kc zSb (kc zTW (kc zMC all_nil))) all_nil all_nil) Tryz.func58 rfl rfl (by kernel_rfl) ?_
 intro C x hE hnl hfit hpre
 simp only [Tryz.ntmps58,Tryz.results58,maxLen,seval,push_cast] at hnl hfit hpre ⊢
 obtain ⟨(t:ByteArray),_⟩:=x
 dsimp only at hfit hpre ⊢
 have hem:({data:=#[]}:ByteArray)=ByteArray.empty:=rfl
 by_cases h1:1≤t.size∧t.size≤30
 rotate_left
 ·have e:=zUd h1
  replace hnl:=And.intro hnl (And.intro e hem)
  exact auC
 have hpos:=zKI t
 have hlen:(zBx t).length≤t.size+1:=(wK_le t (t.size+1)).2
 have hin:=zWm (zAE t 0)
 have hw0:(zBx t).getD 0 ByteArray.empty=zAE t 0:=rfl
 by_cases h2:((zBx t).length:Int) - 1=numsV (zAE t 0)
 rotate_left
 ·have e:=zUe h2
  replace hnl:=And.intro hnl (And.intro e (And.intro hem hw0))
  exact auC
 replace hnl:=And.intro hnl (And.intro hem hw0)
 repeat' (first|(refine goK (by assumption) ?_; iterate 4 (try clear hK K))|(refine zAb fun K hK=>?_)|(refine zAa hE rfl ?_; simp +contextual only [hnl,↓kA,push_cast,seval,reduceCtorEq])|refine zAd ?_|(refine zAg ?_; simp only [thenQ,zAh,if_true,if_false,Nat.reduceEqDiff,reduceCtorEq])|(refine zAe (by rfl) (fun hb=>?_) (fun hb=>?_)<;>(try simp only [bq,reduceCtorEq] at hb)<;>(try omega))|refine andS ?_|(refine ⟨fun hc=>?_,fun hc=>?_⟩)|fail)
 refine zAk (fun k:Nat=>AS.of [(5,.one (.val (.sl .str) (zBx t))),(6,.one (.ref 47)),(7,.I (k+1:Nat))] [(47,.flat 3 .int (argsK t k))] []) (fun k=>k≤(zBx t).length - 1∧∀ i,i<k→zBl (zAE t (i+1))=true∧numRV (zAE t (i+1))≤99999) (fun k=>(zBx t).length - 1 - k) 0 ⟨Nat.zero_le _,by omega⟩ ?_ ?_
 ·refine zAf ?_ ?_ ?_<;>simp only [push_cast,seval,reduceCtorEq]
  all_goals first|rfl|exact ⟨by omega,rfl⟩
 intro k ⟨hk,hall⟩ K' hL
 have hal:(argsK t k).length=k:=zAZ _ _
 rcases Nat.lt_or_ge k ((zBx t).length - 1) with hkl|hkl
 ·have hwk:(zBx t).getD ((k:Int)+1).toNat ByteArray.empty=zAE t (k+1):=by
   rw [show ((k:Int)+1).toNat=k+1 by omega]; rfl
  by_cases h3:zBl (zAE t (k+1))=true∧numRV (zAE t (k+1))≤99999
  ·have hst:argsK t (k+1)=argsK t k++[numRV (zAE t (k+1))]:=zD9 _ _
   replace hnl:=And.intro hnl (And.intro hwk (And.intro h3.1 (And.intro (show decide (numRV (zAE t (k+1))≤99999)=true from decide_eq_true h3.2) hal)))
   repeat' (first|(refine goK (by assumption) ?_; iterate 4 (try clear hK K))|(refine zAb fun K hK=>?_)|(refine zAa hE rfl ?_; simp +contextual only [hnl,↓kA,push_cast,seval,reduceCtorEq])|refine zAd ?_|(refine zAg ?_; simp only [thenQ,zAh,if_true,if_false,Nat.reduceEqDiff,reduceCtorEq])|(refine zAe (by rfl) (fun hb=>?_) (fun hb=>?_)<;>(try simp only [bq,reduceCtorEq] at hb)<;>(try omega))|refine andS ?_|fail)
   refine hL _ (k+1) ⟨by omega,fun i hi=>?_⟩ (by omega) ?_
   ·rcases Nat.lt_or_ge i k with h5|h5
    ·exact hall i h5
    ·obtain rfl:i=k:=by omega
     exact h3
   refine zAf ?_ ?_ ?_<;>simp only [push_cast,seval,reduceCtorEq]
   exact .inl (by rw [hst])
  ·have e:=zUf hkl h3
   have h4:(zBl (zAE t (k+1)) && decide (numRV (zAE t (k+1))≤99999))=false:=by
    rw [Bool.eq_false_iff]
    intro h
    rw [Bool.and_eq_true,decide_eq_true_eq] at h
    exact h3 h
   replace hnl:=And.intro hnl (And.intro hwk (And.intro e h4))
   exact auC
 ·obtain rfl:k=(zBx t).length - 1:=by omega
  have e:zEb t=true:=zDQ.2 ⟨h1,h2,hall⟩
  replace hnl:=And.intro hnl e
  repeat' (first|(refine goK (by assumption) ?_; iterate 4 (try clear hK K))|(refine zAb fun K hK=>?_)|((first|refine zAa hE rfl ?_|refine zAi ?_); simp +contextual only [hnl,↓kA,push_cast,seval,reduceCtorEq])|(refine zAj ?_; simp only [thenQ,zAh,if_true,if_false,Nat.reduceEqDiff,reduceCtorEq])|(refine zAe (by rfl) (fun hb=>?_) (fun hb=>?_)<;>(try simp only [bq,reduceCtorEq] at hb)<;>(try omega))|refine andS ?_|fail)
  rfl
end Go.Proofs.YtekfodeknpnkbaaGreatDoor
