import Derived.Test.YtekfodeknpnkbaaGreatDoorT19
import Derived.Lib.AtoiAllCases
set_option linter.unusedSimpArgs false
set_option linter.unusedVariables false
namespace Go.Proofs.YtekfodeknpnkbaaGreatDoor
open Go.RowKit Go.VS
@[push_cast] def yAk:Con:=⟨[.dat .str,.dat .int],fun (x:ByteArray×Int×Unit)=>x.1.size≤1000000,fun (x:ByteArray×Int×Unit)=>{res:=[.val .int (atoiV x.1),.val .bool (numV x.1 x.2.1)]}⟩
theorem zVg (s:ByteArray):InR (atoiV s):=by
 unfold atoiV InR
 split
 ·rename_i v h
  have:=Lib.atoiAll_bounds h
  omega
 ·have:=Lib.atoiSat_bounds s.data.toList
  omega
 ·omega
theorem zWl:FnSpec Tryz.prog 65 yAk:=by
 refine FnSpec.of_tri' (E:=know _ [] [] []) (zAl (kc zIl (kc zGF all_nil)) all_nil all_nil) Tryz.func65 rfl rfl (by kernel_rfl) ?_
 intro C x hE hnl hfit hpre
 simp only [Tryz.ntmps65,Tryz.results65,maxLen,seval,push_cast] at hnl hfit hpre ⊢
 obtain ⟨(s:ByteArray),(most:Int),_⟩:=x
 dsimp only at hfit hpre ⊢
 have hin:InR (atoiV s):=zVg s
 cases hA:zDG s with
 | true =>
  replace hnl:=And.intro hnl hA
  repeat' (first|(refine goK (by assumption) ?_; iterate 4 (try clear hK K))|(refine zAb fun K hK=>?_)|((first|refine zAa hE rfl ?_|refine zAi ?_); simp +contextual only [hnl,↓kA,push_cast,seval,reduceCtorEq])|refine andS ?_|(refine ⟨fun hc=>?_,fun hc=>?_⟩)|fail)
  all_goals simp [numV, *]
 | false =>
  replace hnl:=And.intro hnl hA
  repeat' (first|(refine goK (by assumption) ?_; iterate 4 (try clear hK K))|(refine zAb fun K hK=>?_)|((first|refine zAa hE rfl ?_|refine zAi ?_); simp +contextual only [hnl,↓kA,push_cast,seval,reduceCtorEq])|refine andS ?_|fail)
  all_goals simp [numV, *]
end Go.Proofs.YtekfodeknpnkbaaGreatDoor
namespace Go.Proofs.YtekfodeknpnkbaaGreatDoor
open Go.RowKit Go.VS
theorem zFT (s:ByteArray) (y:Nat):(rcut1 s y).size≤s.size:=by
 unfold rcut1
 split
 ·rw [ByteArray.size_extract]; omega
 ·exact Nat.le_refl _
theorem zEs (s:ByteArray) (y:Nat):(rcut2 s y).size≤s.size:=by
 unfold rcut2
 split
 ·rw [ByteArray.size_extract]; omega
 ·exact Nat.zero_le _
end Go.Proofs.YtekfodeknpnkbaaGreatDoor
namespace Go.Proofs.YtekfodeknpnkbaaGreatDoor
open Go.RowKit Go.VS
def zD2 (b:ByteArray):ByteArray:=rcut1 (zBD b) 32
theorem zKy {b:ByteArray} (h3:zAy (zAX b) 32=true) (hw:zBl (zBJ b)=true):textV (numRV (zBJ b)) (zA6 b)=zAX b:=by
 have e:=zGy (s:=zAX b) (c:=32) h3
 unfold textV
 rw [(zIU hw).1]
 exact e
theorem zYF {b:ByteArray} {s:Int} (h1:zAy b 10=true) (h2:zAy (zBD b) 32=true) (h3:zAy (zAX b) 32=true) (h4:zBl (zBJ b)=true) (h5:numRV (zBJ b)≤999999)
 (h6:1≤((zA6 b).size:Int)∧((zA6 b).size:Int)≤30):nxOK b s=(numV (zD2 b) 1000002 && decide (atoiV (zD2 b)=sumV s (zAX b))):=by
 have hg:zCk b=true:=by
  unfold zCk nxIs
  rw [h1,h2,h3,h4,decide_eq_true h5,decide_eq_true h6]
  rfl
 have ht:=zKy h3 h4
 have hj:=zGy (s:=zBD b) (c:=32) h2
 have hl:lineV s (zCM b)=itoaV (sumV s (zAX b))++spS++zAX b:=by
  unfold lineV zCM
  dsimp only
  rw [ht]
 have hb:=zCi s (zAX b) (zAX b).size
 have hb':0≤sumV s (zAX b)∧sumV s (zAX b)≤1000002:=hb
 obtain ⟨a1,a2⟩:=zEf hb'.1 (by omega)
 have hjoin:zD2 b++spS++zAX b=zBD b:=hj
 unfold nxOK
 rw [hg,Bool.true_and,hl]
 by_cases he:itoaV (sumV s (zAX b))=zD2 b
 ·have e1:decide (itoaV (sumV s (zAX b))++spS++zAX b=zBD b)=true:=decide_eq_true (by rw [he]; exact hjoin)
  have e2:numV (zD2 b) 1000002=true:=by
   rw [←he]
   unfold numV
   rw [a1,a2,decide_eq_true hb'.1,decide_eq_true hb'.2,decide_eq_true rfl]
   rfl
  have e3:decide (atoiV (zD2 b)=sumV s (zAX b))=true:=decide_eq_true (by rw [←he]; exact a2)
  rw [e1,e2,e3]
  rfl
 ·have e1:decide (itoaV (sumV s (zAX b))++spS++zAX b=zBD b)=false:=by
   refine decide_eq_false fun e=>he ?_
   rw [←hjoin] at e
   have e':=congrArg (fun x:ByteArray=>x.data.toList) e
   simp only [ByteArray.data_append,Array.toList_append,List.append_assoc] at e'
   exact zE3 (List.append_cancel_right e')
  rw [e1]
  cases hn:numV (zD2 b) 1000002 with
  | false=>rfl
  | true =>
   rw [Bool.true_and]
   refine (decide_eq_false fun e=>he ?_).symm
   unfold numV at hn
   simp only [Bool.and_eq_true,decide_eq_true_eq] at hn
   rw [←e]
   exact hn.2.2.2
end Go.Proofs.YtekfodeknpnkbaaGreatDoor
namespace Go.Proofs.YtekfodeknpnkbaaGreatDoor
open Go.RowKit Go.VS
@[push_cast] def zYE:Con:=⟨[.dat .str],fun (x:ByteArray×Unit)=>x.1.size≤1000000,fun (x:ByteArray×Unit) =>
 {res:=[.own (.flat 9 .str ((zAL 60 x.1 0).1.map Prod.fst)),.own (.flat 3 .int ((zAL 60 x.1 0).1.map Prod.snd)),.val .str (zAL 60 x.1 0).2]}⟩
set_option maxHeartbeats 8000000 in
theorem zGQ:FnSpec Tryz.prog 24 zYE:=by
 refine FnSpec.of_tri' (E:=know _ [] [] []) (zAl (kc zPr (kc zWl (kc zFJ all_nil))) all_nil all_nil) Tryz.func24 rfl rfl (by kernel_rfl) ?_
 intro C x hE hnl hfit hpre
 simp only [Tryz.ntmps24,Tryz.results24,maxLen,seval,push_cast] at hnl hfit hpre ⊢
 obtain ⟨(book:ByteArray),_⟩:=x
 dsimp only at hfit hpre ⊢
 repeat' (first|(refine goK (by assumption) ?_; iterate 4 (try clear hK K))|(refine zAb fun K hK=>?_)|(refine zAa hE rfl ?_; simp +contextual only [hnl,↓kA,push_cast,seval,reduceCtorEq])|refine zAd ?_|fail)
 refine zAk (fun y:List Line×ByteArray×Int=>AS.of [(0,.one (.val .str y.2.1)),(5,.one (.ref 90)),(6,.one (.ref 94)),(7,.I y.2.2)] [(90,.flat 9 .str (y.1.map Prod.fst)),(94,.flat 3 .int (y.1.map Prod.snd))] []) (fun y=>y.1.length≤60∧y.2.1.size≤1000000∧zAL 60 book 0=(y.1++(zAL (60 - y.1.length) y.2.1 y.2.2).1,(zAL (60 - y.1.length) y.2.1 y.2.2).2)) (fun y=>60 - y.1.length) ([],book,0) ⟨Nat.zero_le _,hpre,rfl⟩ ?_ ?_
 ·refine zAf ?_ ?_ ?_<;>simp only [push_cast,seval,reduceCtorEq]
  all_goals first|rfl|omega|exact ⟨by omega,rfl⟩|skip
 rintro ⟨out,b,s⟩ ⟨h1,h2,h3⟩ K' hL
 dsimp only at h1 h2 h3 ⊢
 have hln:(out.map Prod.fst).length=out.length∧(out.map Prod.snd).length=out.length:=⟨List.length_map ..,List.length_map ..⟩
 rcases Nat.lt_or_ge out.length 60 with h4|h4
 rotate_left
 ·rw [show 60 - out.length=0 by omega] at h3
  have h3':zAL 60 book 0=(out,b):=by rw [h3]; show (out++[],b)=_; rw [List.append_nil]
  replace hnl:=And.intro hnl (And.intro hln h3')
  exact auD
 have e0:=zPq b 10
 have e1:cut1 b {data:=#[10]}=zBD b:=e0.2.1
 have e2:cut2 b {data:=#[10]}=rcut2 b 10:=e0.2.2
 have e3:cutB b {data:=#[10]}=zAy b 10:=e0.1
 have g0:=zPq (zBD b) 32
 have e4:cut1 (zBD b) {data:=#[32]}=zD2 b:=g0.2.1
 have e5:cut2 (zBD b) {data:=#[32]}=zAX b:=g0.2.2
 have e6:cutB (zBD b) {data:=#[32]}=zAy (zBD b) 32:=g0.1
 have k0:=zPq (zAX b) 32
 have e7:cut1 (zAX b) {data:=#[32]}=zBJ b:=k0.2.1
 have e8:cut2 (zAX b) {data:=#[32]}=zA6 b:=k0.2.2
 have e9:cutB (zAX b) {data:=#[32]}=zAy (zAX b) 32:=k0.1
 have z1:(zBD b).size≤b.size:=zFT b 10
 have z2:(zAX b).size≤(zBD b).size:=zEs (zBD b) 32
 have z3:(zBJ b).size≤(zAX b).size:=zFT (zAX b) 32
 have z4:(zA6 b).size≤(zAX b).size:=zEs (zAX b) 32
 have z5:(zD2 b).size≤(zBD b).size:=zFT (zBD b) 32
 have z6:=zEs b 10
 replace hnl:=And.intro hnl (And.intro hln (And.intro e1 (And.intro e2 (And.intro e3 (And.intro e4 (And.intro e5 (And.intro e6 (And.intro e7 (And.intro e8 e9)))))))))
 cases c1:zAy b 10 with
 | false =>
  have hk:¬nxOK b s=true:=by unfold nxOK zCk; rw [c1]; simp
  rw [zBr hk,List.append_nil] at h3
  replace hnl:=And.intro hnl (And.intro c1 h3)
  exact auD
 | true =>
 cases c2:zAy (zBD b) 32 with
 | false =>
  have hk:¬nxOK b s=true:=by unfold nxOK zCk; rw [c1,c2]; simp
  rw [zBr hk,List.append_nil] at h3
  replace hnl:=And.intro hnl (And.intro c1 (And.intro c2 h3))
  exact auD
 | true =>
 cases c3:zAy (zAX b) 32 with
 | false =>
  have hk:¬nxOK b s=true:=by unfold nxOK zCk; rw [c1,c2,c3]; simp
  rw [zBr hk,List.append_nil] at h3
  replace hnl:=And.intro hnl (And.intro c1 (And.intro c2 (And.intro c3 h3)))
  exact auD
 | true =>
 have hn:=zXo (s:=zBJ b) (m:=999999) (by omega)
 cases c5:numV (zBJ b) 999999 with
 | false =>
  have hk:¬nxOK b s=true:=by unfold nxOK zCk nxIs; rw [←hn,c5]; simp
  rw [zBr hk,List.append_nil] at h3
  cases c4:numV (zD2 b) 1000002 with
  | false =>
   replace hnl:=And.intro hnl (And.intro c1 (And.intro c2 (And.intro c3 (And.intro c4 h3))))
   exact auD
  | true =>
   replace hnl:=And.intro hnl (And.intro c1 (And.intro c2 (And.intro c3 (And.intro c4 (And.intro c5 h3)))))
   exact auD
 | true =>
 rw [c5] at hn
 have hn':=hn.symm
 rw [Bool.and_eq_true,decide_eq_true_eq] at hn'
 have ha:atoiV (zBJ b)=numRV (zBJ b):=zIT hn'.1
 by_cases c7:1≤((zA6 b).size:Int)∧((zA6 b).size:Int)≤30
 rotate_left
 ·have hk:¬nxOK b s=true:=by unfold nxOK zCk; rw [decide_eq_false c7]; simp
  rw [zBr hk,List.append_nil] at h3
  cases c4:numV (zD2 b) 1000002 with
  | false =>
   replace hnl:=And.intro hnl (And.intro c1 (And.intro c2 (And.intro c3 (And.intro c4 h3))))
   exact auD
  | true =>
   by_cases c6:atoiV (zD2 b)=sumV s (zAX b)
   ·by_cases c8:((zA6 b).size:Int)<1
    ·replace hnl:=And.intro hnl (And.intro c1 (And.intro c2 (And.intro c3 (And.intro c4 (And.intro c5 (And.intro c6 (And.intro (eq_true c8) h3)))))))
     exact auD
    ·have c9:30<((zA6 b).size:Int):=by omega
     replace hnl:=And.intro hnl (And.intro c1 (And.intro c2 (And.intro c3 (And.intro c4 (And.intro c5 (And.intro c6 (And.intro (eq_false c8) (And.intro (eq_true c9) h3))))))))
     exact auD
   ·replace hnl:=And.intro hnl (And.intro c1 (And.intro c2 (And.intro c3 (And.intro c4 (And.intro c5 (And.intro (eq_false c6) h3))))))
    exact auD
 have hr:=zYF (s:=s) c1 c2 c3 hn'.1 hn'.2 c7
 cases c4:numV (zD2 b) 1000002 with
 | false =>
  have hk:¬nxOK b s=true:=by rw [hr,c4]; simp
  rw [zBr hk,List.append_nil] at h3
  replace hnl:=And.intro hnl (And.intro c1 (And.intro c2 (And.intro c3 (And.intro c4 h3))))
  exact auD
 | true =>
 by_cases c6:atoiV (zD2 b)=sumV s (zAX b)
 rotate_left
 ·have hk:¬nxOK b s=true:=by rw [hr,c4,decide_eq_false c6]; simp
  rw [zBr hk,List.append_nil] at h3
  replace hnl:=And.intro hnl (And.intro c1 (And.intro c2 (And.intro c3 (And.intro c4 (And.intro c5 (And.intro (eq_false c6) h3))))))
  exact auD
 have hk:nxOK b s=true:=by rw [hr,c4,decide_eq_true c6]; rfl
 obtain ⟨m,hm⟩:∃ m,60 - out.length=m+1:=⟨60 - out.length - 1,by omega⟩
 rw [hm,zEl hk] at h3
 have c8:¬((zA6 b).size:Int)<1:=by omega
 have c9:¬30<((zA6 b).size:Int):=by omega
 replace hnl:=And.intro hnl (And.intro c1 (And.intro c2 (And.intro c3 (And.intro c4 (And.intro c5 (And.intro c6 (And.intro (eq_false c8) (And.intro (eq_false c9) ha))))))))
 repeat' (first|(refine goK (by assumption) ?_; iterate 4 (try clear hK K))|(refine zAb fun K hK=>?_)|(refine zAa hE rfl ?_; simp +contextual only [hnl,↓kA,push_cast,seval,reduceCtorEq])|refine zAd ?_|(refine zAg ?_; simp only [thenQ,zAh,if_true,if_false,Nat.reduceEqDiff,reduceCtorEq])|(refine zAe (by rfl) (fun hb=>?_) (fun hb=>?_)<;>(try simp only [bq,reduceCtorEq] at hb)<;>(try omega))|refine andS ?_|fail)
 refine hL _ (out++[zCM b],rcut2 b 10,nxSum b s) ⟨?_,?_,?_⟩ ?_ ?_
 ·dsimp only; rw [List.length_append]; simp; omega
 ·dsimp only; omega
 ·dsimp only
  rw [h3,List.length_append,show 60 - (out.length+[zCM b].length)=m by simp; omega,List.append_assoc]
  rfl
 ·dsimp only; rw [List.length_append]; simp; omega
 refine zAf ?_ ?_ ?_<;>simp only [push_cast,seval,reduceCtorEq]
 ·exact (congrArg (sumV s) (zKy c3 hn'.1)).symm
 ·exact ⟨.inl (by rw [List.map_append]; rfl),.inl (by rw [List.map_append]; rfl)⟩
end Go.Proofs.YtekfodeknpnkbaaGreatDoor
