import Derived.Test.YtekfodeknpnkbaaGreatDoorT37
import Derived.Test.YtekfodeknpnkbaaGreatDoorT52
set_option linter.unusedSimpArgs false
set_option linter.unusedVariables false
namespace Go.Proofs.YtekfodeknpnkbaaGreatDoor
open Go.RowKit Go.VS
theorem zQP {k:ByteArray} (h:¬smHas formsL k=true):numsV k = -1:=by
 have hn:∀ p∈formsL,¬p.1=k:=fun p hp e=>h (by rw [←e]; exact (zHa p hp).1)
 unfold numsV
 rw [if_neg,if_neg,if_neg]
 ·rintro (e|e)
  ·exact hn (zI0,5,1) (by simp [formsL]) e.symm
  ·exact hn (zIZ,6,1) (by simp [formsL]) e.symm
 ·exact fun e=>hn (pCost,4,3) (by simp [formsL]) e.symm
 ·rintro (e|e|e|e)
  ·exact hn (pPut,0,2) (by simp [formsL]) e.symm
  ·exact hn (pTake,1,2) (by simp [formsL]) e.symm
  ·exact hn (pWant,2,2) (by simp [formsL]) e.symm
  ·exact hn (pDrop,3,2) (by simp [formsL]) e.symm
theorem hp_eq (t:ByteArray):hpOK t=zEb t:=by
 rw [Bool.eq_iff_iff,zCe,zDQ,zNc]
 have hpos:=zKI t
 have e0:hform t=smGet formsL (zAE t 0):=by unfold hform; rw [hw_eq]
 have e1:(∀ i,i<(zBx t).length - 1→zFl (hw t (i+1))=true)↔∀ i,i<(zBx t).length - 1→zBl (zAE t (i+1))=true∧numRV (zAE t (i+1))≤99999 :=
  ⟨fun h i hi=>by have:=h i hi; rwa [hw_eq,zK9] at this,fun h i hi=>by rw [hw_eq,zK9]; exact h i hi⟩
 rw [e1,hw_eq,e0]
 by_cases hs:smHas formsL (zAE t 0)=true
 ·obtain ⟨p,hp,hk⟩:=zJX hs
  obtain ⟨_,q2,q3⟩:=zHa p hp
  rw [hk] at q2 q3
  rw [q2,q3]
  constructor
  ·rintro ⟨⟨h1,_,h2⟩,h3⟩
   exact ⟨h1,by omega,h3⟩
  ·rintro ⟨h1,h2,h3⟩
   exact ⟨⟨h1,hs,by omega⟩,h3⟩
 ·have q:=zQP hs
  constructor
  ·rintro ⟨⟨_,h,_⟩,_⟩
   exact absurd h hs
  ·rintro ⟨_,h,_⟩
   rw [q] at h
   omega
theorem zVF {t:ByteArray} (h:hpOK t=true):hargs t=zHL t:=by
 unfold hargs zHL zJ0 argsK
 rw [zNc]
 refine zAD fun i hi=>?_
 have:=(zCe.1 h).2 i (by rw [zNc]; exact hi)
 rw [hw_eq] at this ⊢
 exact zIT ((zK9 _).1 this).1
end Go.Proofs.YtekfodeknpnkbaaGreatDoor
namespace Go.Proofs.YtekfodeknpnkbaaGreatDoor
open Go.RowKit Go.VS
@[push_cast] def zYC:Con:=⟨[.dat (.sl .int),.dat .int,.dat .int,.dat .bool],fun (x:List Int×Int×Int×Bool×Unit)=>RchPre x.1 x.2.1 x.2.2.1,
 fun (x:List Int×Int×Int×Bool×Unit)=>{res:=[.val (.sl .int) (rchL x.1 x.2.1 x.2.2.1 x.2.2.2.1),.val .int (rchE x.1 x.2.1 x.2.2.1 x.2.2.2.1)]}⟩
set_option maxHeartbeats 4000000 in
theorem zUr:FnSpec Tryz.prog 109 zYC:=by
 refine FnSpec.of_tri' (E:=know [] [] [] [17]) (zAl all_nil all_nil all_nil) Tryz.func109 rfl rfl (by kernel_rfl) ?_
 intro C x hE hnl hfit hpre
 simp only [Tryz.ntmps109,Tryz.results109,maxLen,seval,push_cast] at hnl hfit hpre ⊢
 obtain ⟨(l:List Int),(i:Int),(n:Int),(g:Bool),_⟩:=x
 dsimp only at hfit hpre ⊢
 obtain ⟨hlen,hat,hi,hn⟩:=hpre
 by_cases h1:(l.length:Int)≤i
 ·have e1:rchE l i n g=4:=if_pos h1
  have e2:rchL l i n g=[]:=by rw [rchL,e1]; rfl
  replace hnl:=And.intro hnl (And.intro e1 e2)
  exact auB
 have hk:=hat i.toNat (by omega)
 by_cases h2:n=0
 ·have e1:rchE l i n g=1:=by rw [rchE,if_neg h1,if_pos h2]
  have e2:rchL l i n g=[]:=by rw [rchL,e1]; rfl
  replace hnl:=And.intro hnl (And.intro e1 e2)
  exact auB
 have hll:(l.set i.toNat (l.getD i.toNat 0+n)).getD i.toNat 0=l.getD i.toNat 0+n:=by
  rw [List.getD_eq_getElem?_getD,List.getElem?_set_self (by omega)]; rfl
 have hsl:(l.set i.toNat (l.getD i.toNat 0+n)).length=l.length:=List.length_set
 cases g with
 | true =>
  have e2:¬30<l.getD i.toNat 0+n→rchL l i n true=l.set i.toNat (l.getD i.toNat 0+n):=fun h3=>by rw [rchL,if_pos (by rw [rchE,if_neg h1,if_neg h2,if_pos rfl,if_neg h3]),if_pos rfl]
  by_cases h3:30<l.getD i.toNat 0+n
  ·have e1:rchE l i n true=3:=by rw [rchE,if_neg h1,if_neg h2,if_pos rfl,if_pos h3]
   have e2:rchL l i n true=[]:=by rw [rchL,e1]; rfl
   replace hnl:=And.intro hnl (And.intro e1 (And.intro e2 (And.intro hll hsl)))
   exact auB
  ·have e1:rchE l i n true=0:=by rw [rchE,if_neg h1,if_neg h2,if_pos rfl,if_neg h3]
   replace e2:=e2 h3
   replace hnl:=And.intro hnl (And.intro e1 (And.intro e2 (And.intro hll hsl)))
   repeat' (first|(refine zAo (t:=AS.of [(1,.one (.val .int i)),(10,.one (.val (.sl .int) (l.set i.toNat (l.getD i.toNat 0+n))))] [] []) ?_ (Stop.h ?_); · refine zAf ?_ ?_ ?_<;>simp only [push_cast,seval,reduceCtorEq,cI])|(first|(refine goK (by assumption) ?_; iterate 4 (try clear hK K))|(refine zAb fun K hK=>?_)|((first|refine zAa hE rfl ?_|refine zAi ?_|((first|refine zAc hE 1 rfl rfl (by kernel_rfl) ?_|refine zAc hE 2 rfl rfl (by kernel_rfl) ?_|refine zAc hE 3 rfl rfl (by kernel_rfl) ?_|refine zAc hE 4 rfl rfl (by kernel_rfl) ?_); simp only [List.length_cons,List.length_nil,Nat.reduceAdd,Nat.reduceSub,List.take_succ_cons,List.take_zero,List.drop_succ_cons,List.drop_zero])); simp +contextual only [hnl,↓kA,push_cast,seval,reduceCtorEq,cI])|refine zAd ?_|((first|refine zAg ?_|refine zAj ?_); simp only [thenQ,zAh,if_true,if_false,Nat.reduceEqDiff,reduceCtorEq])|(refine zAe (by rfl) (fun hb=>?_) (fun hb=>?_)<;>(try simp only [bq,reduceCtorEq] at hb)<;>(try omega))|refine zAr (by rfl) ?_ ?_|refine andS ?_|(refine ⟨fun hc=>?_,fun hc=>?_⟩)|(intro hc; try omega)))
   refine ⟨?_⟩
   exact auB
 | false =>
  by_cases h3:l.getD i.toNat 0<n
  ·have e1:rchE l i n false=9:=by rw [rchE,if_neg h1,if_neg h2,if_neg (by decide),if_pos h3]
   have e2:rchL l i n false=[]:=by rw [rchL,e1]; rfl
   replace hnl:=And.intro hnl (And.intro e1 e2)
   exact auB
  ·have e1:rchE l i n false=0:=by rw [rchE,if_neg h1,if_neg h2,if_neg (by decide),if_neg h3]
   have e2:rchL l i n false=l.set i.toNat (l.getD i.toNat 0 - n):=by rw [rchL,if_pos e1,if_neg (by decide)]
   replace hnl:=And.intro hnl (And.intro e1 e2)
   repeat' (first|(refine zAo (t:=AS.of [(10,.one (.val (.sl .int) (l.set i.toNat (l.getD i.toNat 0 - n))))] [] []) ?_ (Stop.h ?_); · refine zAf ?_ ?_ ?_<;>simp only [push_cast,seval,reduceCtorEq,cI])|(first|(refine goK (by assumption) ?_; iterate 4 (try clear hK K))|(refine zAb fun K hK=>?_)|((first|refine zAa hE rfl ?_|refine zAi ?_|((first|refine zAc hE 1 rfl rfl (by kernel_rfl) ?_|refine zAc hE 2 rfl rfl (by kernel_rfl) ?_|refine zAc hE 3 rfl rfl (by kernel_rfl) ?_|refine zAc hE 4 rfl rfl (by kernel_rfl) ?_); simp only [List.length_cons,List.length_nil,Nat.reduceAdd,Nat.reduceSub,List.take_succ_cons,List.take_zero,List.drop_succ_cons,List.drop_zero])); simp +contextual only [hnl,↓kA,push_cast,seval,reduceCtorEq,cI])|refine zAd ?_|((first|refine zAg ?_|refine zAj ?_); simp only [thenQ,zAh,if_true,if_false,Nat.reduceEqDiff,reduceCtorEq])|(refine zAe (by rfl) (fun hb=>?_) (fun hb=>?_)<;>(try simp only [bq,reduceCtorEq] at hb)<;>(try omega))|refine zAr (by rfl) ?_ ?_|refine andS ?_|(refine ⟨fun hc=>?_,fun hc=>?_⟩)|(intro hc; try omega)))
   refine ⟨?_⟩
   exact auB
theorem rch_t {l:List Int} {i n:Int} (hn:0≤n) (hat:∀ k,k<l.length→0≤l.getD k 0∧l.getD k 0≤30) (hi:0≤i):rchE l i n true=chgE l i n n∧(chgE l i n n=0→rchL l i n true=chgL l i n n):=by
 have e:rchE l i n true=chgE l i n n:=by
  unfold rchE chgE
  by_cases h1:(l.length:Int)≤i
  ·rw [if_pos h1,if_pos h1]
  ·have:=hat i.toNat (by omega)
   rw [if_neg h1,if_neg h1,if_pos rfl]
   by_cases h2:n=0
   ·rw [if_pos h2,if_pos h2]
   ·rw [if_neg h2,if_neg h2]
    by_cases h3:30<l.getD i.toNat 0+n
    ·rw [if_pos h3,if_pos h3]
    ·rw [if_neg h3,if_neg h3,if_neg (by omega)]
 refine ⟨e,fun h=>?_⟩
 rw [rchL,chgL,if_pos (by rw [e]; exact h),if_pos h,if_pos rfl]
theorem rch_f {l:List Int} {i n:Int} (hn:0≤n) (hat:∀ k,k<l.length→0≤l.getD k 0∧l.getD k 0≤30) (hi:0≤i):rchE l i n false=chgE l i n (-n)∧(chgE l i n (-n)=0→rchL l i n false=chgL l i n (-n)):=by
 have e:rchE l i n false=chgE l i n (-n):=by
  unfold rchE chgE
  by_cases h1:(l.length:Int)≤i
  ·rw [if_pos h1,if_pos h1]
  ·have:=hat i.toNat (by omega)
   rw [if_neg h1,if_neg h1]
   by_cases h2:n=0
   ·rw [if_pos h2,if_pos h2]
   ·rw [if_neg h2,if_neg h2,if_neg (show ¬(false=true) by decide),if_neg (show ¬30<l.getD i.toNat 0 + -n by omega)]
    by_cases h3:l.getD i.toNat 0<n
    ·rw [if_pos h3,if_pos (by omega)]
    ·rw [if_neg h3,if_neg (by omega)]
 refine ⟨e,fun h=>?_⟩
 rw [rchL,chgL,if_pos (by rw [e]; exact h),if_pos h,if_neg (by decide)]
 rfl
def kOf (n:ByteArray):Nat:=(smGet formsL n).1.toNat
structure ExP (x:RX) (n:ByteArray) (l:List Int):Prop where
 name:n=kName (kOf n)
 pre:DoPre (kOf n) l (rSt x)
 ls:rLs x=lst (rSt x)
def exeX (x:RX) (n:ByteArray) (l:List Int):RX:=mkR (doV (kOf n) l (rSt x)).2 (rLs x) (rLn x)
@[push_cast] def zZG:Con:=⟨[.obj rFs,.dat .str,.dat (.sl .int)],fun (x:RX×ByteArray×List Int×Unit)=>ExP x.1 x.2.1 x.2.2.1,
 fun (x:RX×ByteArray×List Int×Unit)=>{res:=[.val .int (doV (kOf x.2.1) x.2.2.1 (rSt x.1)).1],objs:=[(0,⟨rFs,exeX x.1 x.2.1 x.2.2.1⟩)]}⟩
theorem zXS {k:Nat} {l:List Int} {s:State} (hk:k≤6) (h:¬(doV k l s).1=0):(doV k l s).2=s:=by
 obtain ⟨c,a,b,w⟩:=s
 obtain rfl|rfl|rfl|rfl|rfl|rfl|rfl:k=0∨k=1∨k=2∨k=3∨k=4∨k=5∨k=6:=by omega
 ·show (c,chgL a (l.getD 0 0) (l.getD 1 0) (l.getD 1 0),b,w)=_
  rw [show chgL a (l.getD 0 0) (l.getD 1 0) (l.getD 1 0)=a from if_neg h]
 ·show (c,chgL a (l.getD 0 0) (l.getD 1 0) (-(l.getD 1 0)),b,w)=_
  rw [show chgL a (l.getD 0 0) (l.getD 1 0) (-(l.getD 1 0))=a from if_neg h]
 ·show (c,a,chgL b (l.getD 0 0) (l.getD 1 0) (l.getD 1 0),w)=_
  rw [show chgL b (l.getD 0 0) (l.getD 1 0) (l.getD 1 0)=b from if_neg h]
 ·show (c,a,chgL b (l.getD 0 0) (l.getD 1 0) (-(l.getD 1 0)),w)=_
  rw [show chgL b (l.getD 0 0) (l.getD 1 0) (-(l.getD 1 0))=b from if_neg h]
 ·rw [doV4] at h ⊢
  repeat' split
  all_goals first|rfl|(exfalso; apply h; simp only [*,if_true,if_false])
 ·rw [doV5] at h ⊢
  repeat' split
  all_goals first|rfl|(exfalso; apply h; simp only [*,if_true,if_false])
 ·rw [doV6]
  split<;>rfl
end Go.Proofs.YtekfodeknpnkbaaGreatDoor
namespace Go.Proofs.YtekfodeknpnkbaaGreatDoor
open Go.RowKit Go.VS
theorem yAi {k:Nat} (hk:k≤6):(kName k=pPut)=(k=0)∧(kName k=pTake)=(k=1)∧(kName k=pWant)=(k=2)∧(kName k=pDrop)=(k=3)∧(kName k=pCost)=(k=4)∧(kName k=zI0)=(k=5)∧(kName k=zIZ)=(k=6):=by
 have h:∀ k,k<7→((kName k=pPut)↔(k=0))∧((kName k=pTake)↔(k=1))∧((kName k=pWant)↔(k=2))∧((kName k=pDrop)↔(k=3))∧((kName k=pCost)↔(k=4))∧((kName k=zI0)↔(k=5))∧((kName k=zIZ)↔(k=6)):=by decide +kernel
 obtain ⟨q0,q1,q2,q3,q4,q5,q6⟩:=h k (by omega)
 exact ⟨propext q0,propext q1,propext q2,propext q3,propext q4,propext q5,propext q6⟩
set_option maxHeartbeats 8000000 in
theorem zVx:FnSpec Tryz.prog 59 zZG:=by
 refine FnSpec.of_tri' (E:=know _ [] [] []) (zAl (kc zUr (kc zRE all_nil)) all_nil all_nil) Tryz.func59 rfl rfl (by kernel_rfl) ?_
 intro C x hE hnl hfit hpre
 simp only [Tryz.ntmps59,Tryz.results59,maxLen,seval,push_cast] at hnl hfit hpre ⊢
 obtain ⟨⟨(c:List (List Int)),(a:List Int),(b:List Int),(w:Int),(ls:Int),(L:List Line),⟨⟩⟩,(nm:ByteArray),(l:List Int),_⟩:=x
 dsimp only at hfit hpre ⊢
 obtain ⟨hnm,hdp,hls⟩:=hpre
 have hls':ls=zA9 a b c w:=hls
 have hst:rSt (c,a,b,w,ls,L,())=(c,a,b,w):=rfl
 rw [hst] at hdp
 obtain ⟨hk,hl,hn,ht,hla,hlb,ha,hbb⟩:=hdp
 dsimp only at hla hlb ha hbb ht
 obtain ⟨p0,p1,p2,p3,p4,p5,p6⟩:=pEqs
 obtain ⟨n0,n1,n2,n3,n4,n5,n6⟩:=yAi hk
 rw [←hnm] at n0 n1 n2 n3 n4 n5 n6
 have hx:∀ k,kOf nm=k→exeX (c,a,b,w,ls,L,()) nm l=mkR (doV k l (c,a,b,w)).2 ls L:=fun k e=>by unfold exeX; rw [e]; rfl
 have hv:∀ k,kOf nm=k→(doV (kOf nm) l (rSt (c,a,b,w,ls,L,()))).1=(doV k l (c,a,b,w)).1:=fun k e=>by rw [e]; rfl
 have hn0:=hn 0
 have hn1:=hn 1
 have hrs:=ht.rows
 have hcs:=ht.cols
 have hnl0:=hnl
 replace hnl:=And.intro hnl (And.intro p0 (And.intro p1 (And.intro p2 (And.intro p3 (And.intro p4 (And.intro p5 (And.intro p6 (And.intro n0 (And.intro n1 (And.intro n2 (And.intro n3 (And.intro n4 (And.intro n5 n6)))))))))))))
 generalize hkk:kOf nm=k at hk hl n0 n1 n2 n3 n4 n5 n6 hnl hx hv ⊢
 obtain rfl|rfl|rfl|rfl|rfl|rfl|rfl:k=0∨k=1∨k=2∨k=3∨k=4∨k=5∨k=6:=by omega
 ·have hl':l.length=2:=hl
  have q0:=hn0 (by omega)
  have q1:=hn1 (by omega)
  obtain ⟨r1,r2⟩:=rch_t (l:=a) (i:=l.getD 0 0) (n:=l.getD 1 0) q1.1 ha q0.1
  have hp:RchPre a (l.getD 0 0) (l.getD 1 0):=⟨by omega,ha,by omega,by omega⟩
  have e:doV 0 l (c,a,b,w)=(chgE a (l.getD 0 0) (l.getD 1 0) (l.getD 1 0),c,chgL a (l.getD 0 0) (l.getD 1 0) (l.getD 1 0),b,w):=rfl
  rw [hx 0 rfl,e,mkR]
  dsimp only
  by_cases h0:chgE a (l.getD 0 0) (l.getD 1 0) (l.getD 1 0)=0
  ·replace r2:=r2 h0
   replace hnl:=And.intro hnl (And.intro (eq_true hp) (And.intro hl' (And.intro r1 (And.intro r2 (And.intro h0 (And.intro hst e))))))
   exact auB
  ·have r3:chgL a (l.getD 0 0) (l.getD 1 0) (l.getD 1 0)=a:=if_neg h0
   replace hnl:=And.intro hnl (And.intro (eq_true hp) (And.intro hl' (And.intro r1 (And.intro (eq_false h0) (And.intro r3 (And.intro hst e))))))
   exact auB
 ·have hl':l.length=2:=hl
  have q0:=hn0 (by omega)
  have q1:=hn1 (by omega)
  obtain ⟨r1,r2⟩:=rch_f (l:=a) (i:=l.getD 0 0) (n:=l.getD 1 0) q1.1 ha q0.1
  have hp:RchPre a (l.getD 0 0) (l.getD 1 0):=⟨by omega,ha,by omega,by omega⟩
  have e:doV 1 l (c,a,b,w)=(chgE a (l.getD 0 0) (l.getD 1 0) (-(l.getD 1 0)),c,chgL a (l.getD 0 0) (l.getD 1 0) (-(l.getD 1 0)),b,w):=rfl
  rw [hx 1 rfl,e,mkR]
  dsimp only
  by_cases h0:chgE a (l.getD 0 0) (l.getD 1 0) (-(l.getD 1 0))=0
  ·replace r2:=r2 h0
   replace hnl:=And.intro hnl (And.intro (eq_true hp) (And.intro hl' (And.intro r1 (And.intro r2 (And.intro h0 (And.intro hst e))))))
   exact auB
  ·have r3:chgL a (l.getD 0 0) (l.getD 1 0) (-(l.getD 1 0))=a:=if_neg h0
   replace hnl:=And.intro hnl (And.intro (eq_true hp) (And.intro hl' (And.intro r1 (And.intro (eq_false h0) (And.intro r3 (And.intro hst e))))))
   exact auB
 ·have hl':l.length=2:=hl
  have q0:=hn0 (by omega)
  have q1:=hn1 (by omega)
  obtain ⟨r1,r2⟩:=rch_t (l:=b) (i:=l.getD 0 0) (n:=l.getD 1 0) q1.1 hbb q0.1
  have hp:RchPre b (l.getD 0 0) (l.getD 1 0):=⟨by omega,hbb,by omega,by omega⟩
  have e:doV 2 l (c,a,b,w)=(chgE b (l.getD 0 0) (l.getD 1 0) (l.getD 1 0),c,a,chgL b (l.getD 0 0) (l.getD 1 0) (l.getD 1 0),w):=rfl
  rw [hx 2 rfl,e,mkR]
  dsimp only
  by_cases h0:chgE b (l.getD 0 0) (l.getD 1 0) (l.getD 1 0)=0
  ·replace r2:=r2 h0
   replace hnl:=And.intro hnl (And.intro (eq_true hp) (And.intro hl' (And.intro r1 (And.intro r2 (And.intro h0 (And.intro hst e))))))
   exact auB
  ·have r3:chgL b (l.getD 0 0) (l.getD 1 0) (l.getD 1 0)=b:=if_neg h0
   replace hnl:=And.intro hnl (And.intro (eq_true hp) (And.intro hl' (And.intro r1 (And.intro (eq_false h0) (And.intro r3 (And.intro hst e))))))
   exact auB
 ·have hl':l.length=2:=hl
  have q0:=hn0 (by omega)
  have q1:=hn1 (by omega)
  obtain ⟨r1,r2⟩:=rch_f (l:=b) (i:=l.getD 0 0) (n:=l.getD 1 0) q1.1 hbb q0.1
  have hp:RchPre b (l.getD 0 0) (l.getD 1 0):=⟨by omega,hbb,by omega,by omega⟩
  have e:doV 3 l (c,a,b,w)=(chgE b (l.getD 0 0) (l.getD 1 0) (-(l.getD 1 0)),c,a,chgL b (l.getD 0 0) (l.getD 1 0) (-(l.getD 1 0)),w):=rfl
  rw [hx 3 rfl,e,mkR]
  dsimp only
  by_cases h0:chgE b (l.getD 0 0) (l.getD 1 0) (-(l.getD 1 0))=0
  ·replace r2:=r2 h0
   replace hnl:=And.intro hnl (And.intro (eq_true hp) (And.intro hl' (And.intro r1 (And.intro r2 (And.intro h0 (And.intro hst e))))))
   exact auB
  ·have r3:chgL b (l.getD 0 0) (l.getD 1 0) (-(l.getD 1 0))=b:=if_neg h0
   replace hnl:=And.intro hnl (And.intro (eq_true hp) (And.intro hl' (And.intro r1 (And.intro (eq_false h0) (And.intro r3 (And.intro hst e))))))
   exact auB
 ·have hl':l.length=3:=hl
  have q0:=hn0 (by omega)
  have q1:=hn1 (by omega)
  have q2:=hn 2 (by omega)
  have hsm:Small c:=⟨by omega,fun r hr'=>by
   obtain ⟨i,hi,rfl⟩:=List.getElem_of_mem hr'
   have h:=ht.len hi
   have e:c.getD i []=c[i]:=by rw [List.getD_eq_getElem?_getD,List.getElem?_eq_getElem hi]; rfl
   rw [e] at h
   have h2:wid c≤5:=hcs.2
   omega⟩
  by_cases h1:(a.length:Int)≤l.getD 0 0∨(b.length:Int)≤l.getD 1 0
  ·have e:doV 4 l (c,a,b,w)=(4,(c,a,b,w)):=by rw [doV4,if_pos h1]
   rw [hx 4 rfl,e,mkR]
   dsimp only
   replace hnl:=And.intro hnl (And.intro hl' (And.intro hst e))
   exact auB
  by_cases h2:99<l.getD 2 0
  ·have e:doV 4 l (c,a,b,w)=(1,(c,a,b,w)):=by rw [doV4,if_neg h1,if_pos h2]
   rw [hx 4 rfl,e,mkR]
   dsimp only
   replace hnl:=And.intro hnl (And.intro hl' (And.intro hst e))
   exact auB
  have e:doV 4 l (c,a,b,w)=(0,(c.set (l.getD 0 0).toNat ((c.getD (l.getD 0 0).toNat []).set (l.getD 1 0).toNat (l.getD 2 0)),a,b,w)):=by rw [doV4,if_neg h1,if_neg h2]
  rw [hx 4 rfl,e,mkR]
  dsimp only
  have hrl:=ht.len (show (l.getD 0 0).toNat<c.length by omega)
  replace hnl:=And.intro hnl (And.intro hl' (And.intro hrl (And.intro (eq_true hsm) (And.intro hst e))))
  repeat' (first|(refine zAo (t:=AS.of [] [] [(0,.rcd [.val (.sl (.sl .int)) (c.set (l.getD 0 0).toNat ((c.getD (l.getD 0 0).toNat []).set (l.getD 1 0).toNat (l.getD 2 0))),.val (.sl .int) a,.val (.sl .int) b,.val .int w,.val .int ls,.val (.sl (.prod .str .int)) L])]) ?_ (Stop.h ?_); · refine zAf ?_ ?_ ?_<;>simp only [push_cast,seval,reduceCtorEq,cI])|(first|(refine goK (by assumption) ?_; iterate 4 (try clear hK K))|(refine zAb fun K hK=>?_)|((first|refine zAa hE rfl ?_|refine zAi ?_|((first|refine zAc hE 1 rfl rfl (by kernel_rfl) ?_|refine zAc hE 2 rfl rfl (by kernel_rfl) ?_|refine zAc hE 3 rfl rfl (by kernel_rfl) ?_|refine zAc hE 4 rfl rfl (by kernel_rfl) ?_); simp only [List.length_cons,List.length_nil,Nat.reduceAdd,Nat.reduceSub,List.take_succ_cons,List.take_zero,List.drop_succ_cons,List.drop_zero])); simp +contextual only [hnl,↓kA,push_cast,seval,reduceCtorEq,cI])|refine zAd ?_|((first|refine zAg ?_|refine zAj ?_); simp only [thenQ,zAh,if_true,if_false,Nat.reduceEqDiff,reduceCtorEq])|(refine zAe (by rfl) (fun hb=>?_) (fun hb=>?_)<;>(try simp only [bq,reduceCtorEq] at hb)<;>(try omega))|refine zAr (by rfl) ?_ ?_|refine andS ?_|(refine ⟨fun hc=>?_,fun hc=>?_⟩)|(intro hc; try omega)))
  refine ⟨?_⟩
  exact auB
 ·have hl':l.length=1:=hl
  have q0:=hn0 (by omega)
  by_cases h1:99<l.getD 0 0
  ·have e:doV 5 l (c,a,b,w)=(1,(c,a,b,w)):=by rw [doV5,if_pos h1]
   rw [hx 5 rfl,e,mkR]
   dsimp only
   replace hnl:=And.intro hnl (And.intro hl' (And.intro hst e))
   exact auB
  ·have e:doV 5 l (c,a,b,w)=(0,(c,a,b,l.getD 0 0)):=by rw [doV5,if_neg h1]
   rw [hx 5 rfl,e,mkR]
   dsimp only
   replace hnl:=And.intro hnl (And.intro hl' (And.intro hst e))
   exact auB
 ·have hl':l.length=1:=hl
  have q0:=hn0 (by omega)
  subst hls'
  by_cases h1:zA9 a b c w=l.getD 0 0
  ·have e:doV 6 l (c,a,b,w)=(0,(c,a,b,w)):=by rw [doV6,if_pos h1]
   rw [hx 6 rfl,e,mkR]
   dsimp only
   replace hnl:=And.intro hnl (And.intro hl' (And.intro hst (And.intro h1 e)))
   repeat' (first|(refine goK (by assumption) ?_; iterate 4 (try clear hK K))|(refine zAb fun K hK=>?_)|((first|refine zAa hE rfl ?_|refine zAi ?_|((first|refine zAc hE 1 rfl rfl (by kernel_rfl) ?_|refine zAc hE 2 rfl rfl (by kernel_rfl) ?_|refine zAc hE 3 rfl rfl (by kernel_rfl) ?_|refine zAc hE 4 rfl rfl (by kernel_rfl) ?_); simp only [List.length_cons,List.length_nil,Nat.reduceAdd,Nat.reduceSub,List.take_succ_cons,List.take_zero,List.drop_succ_cons,List.drop_zero])); simp +contextual only [hnl,↓kA,push_cast,seval,reduceCtorEq,cI])|refine zAd ?_|(refine zAg ?_; simp only [thenQ,zAh,if_true,if_false,Nat.reduceEqDiff,reduceCtorEq])|(refine zAe (by rfl) (fun hb=>?_) (fun hb=>?_)<;>(try simp only [bq,reduceCtorEq] at hb)<;>(try omega))|fail)
   all_goals first|omega|rfl|(show _=(doV 6 l (c,a,b,w)).1; rw [e])
  ·have e:doV 6 l (c,a,b,w)=(7,(c,a,b,w)):=by rw [doV6,if_neg h1]
   rw [hx 6 rfl,e,mkR]
   dsimp only
   have h2:¬l.getD 0 0=zA9 a b c w:=fun h=>h1 h.symm
   replace hnl:=And.intro hnl (And.intro hl' (And.intro hst (And.intro (eq_false h1) (And.intro (eq_false h2) e))))
   exact auB
end Go.Proofs.YtekfodeknpnkbaaGreatDoor
namespace Go.Proofs.YtekfodeknpnkbaaGreatDoor
open Go.RowKit Go.VS
@[push_cast] def yAs:Con:=⟨[.obj rFs,.dat .str],fun (x:RX×ByteArray×Unit)=>RInv x.1∧x.2.1.size≤100000,fun (x:RX×ByteArray×Unit)=>{res:=[.val .int (rdoE x.1 x.2.1)],objs:=[(0,⟨rFs,rdoX x.1 x.2.1⟩)]}⟩
set_option maxHeartbeats 8000000 in
theorem zLu:FnSpec Tryz.prog 19 yAs:=by
 refine FnSpec.of_tri' (E:=know _ [] [] [54]) (zAl (kc zOK (kc zVx (kc zMS all_nil))) all_nil all_nil) Tryz.func19 rfl rfl (by kernel_rfl) ?_
 intro C x hE hnl hfit hpre
 simp only [Tryz.ntmps19,Tryz.results19,maxLen,seval,push_cast] at hnl hfit hpre ⊢
 obtain ⟨⟨(c:List (List Int)),(a:List Int),(b:List Int),(w:Int),(ls:Int),(L:List Line),⟨⟩⟩,(t:ByteArray),_⟩:=x
 dsimp only at hfit hpre ⊢
 obtain ⟨hri,hsz⟩:=hpre
 obtain ⟨hst,hls,hlen,hln⟩:=hri
 have hlen':L.length≤60:=hlen
 have hsz':t.size≤100000:=hsz
 have hem:({data:=#[]}:ByteArray)=ByteArray.empty:=rfl
 have hpq:=hp_eq t
 have hs0:rSt (c,a,b,w,ls,L,())=(c,a,b,w):=rfl
 by_cases hok:hpOK t=true
 rotate_left
 ·have eE:rdoE (c,a,b,w,ls,L,()) t=2:=if_neg hok
  have eX:rdoX (c,a,b,w,ls,L,()) t=(c,a,b,w,ls,L,()):=by rw [rdoX,eE]; rfl
  rw [Bool.not_eq_true] at hok
  rw [hok] at hpq
  rw [eE,eX]
  replace hnl:=And.intro hnl (And.intro hpq.symm hem)
  exact auA
 have hdp:=zL6 hok hst
 obtain ⟨k6,kn⟩:=kname hok
 have hko:kOf (zAE t 0)=hkind t:=by
  rw [kn]
  have:∀ k,k<7→kOf (kName k)=k:=by decide +kernel
  exact this _ (by omega)
 have ha:=zVF hok
 rw [hok] at hpq
 have hex:ExP (c,a,b,w,ls,L,()) (zAE t 0) (zHL t):=⟨by rw [hko]; exact kn,by rw [hko,←ha]; exact hdp,hls⟩
 by_cases h60:L.length=60
 ·have eE:rdoE (c,a,b,w,ls,L,()) t=3:=by unfold rdoE; rw [if_pos hok]; exact if_pos h60
  have eX:rdoX (c,a,b,w,ls,L,()) t=(c,a,b,w,ls,L,()):=by rw [rdoX,eE]; rfl
  rw [eE,eX]
  replace hnl:=And.intro hnl (And.intro hpq.symm (And.intro hem h60))
  exact auA
 have eE:rdoE (c,a,b,w,ls,L,()) t=(doV (hkind t) (hargs t) (c,a,b,w)).1:=by unfold rdoE; rw [if_pos hok]; exact if_neg h60
 have eE2:(doV (kOf (zAE t 0)) (zHL t) (rSt (c,a,b,w,ls,L,()))).1=(doV (hkind t) (hargs t) (c,a,b,w)).1:=by rw [hko,←ha]; rfl
 by_cases h0:(doV (hkind t) (hargs t) (c,a,b,w)).1=0
 rotate_left
 ·have eX:rdoX (c,a,b,w,ls,L,()) t=(c,a,b,w,ls,L,()):=by unfold rdoX; rw [eE,if_neg h0]
  have eX2:exeX (c,a,b,w,ls,L,()) (zAE t 0) (zHL t)=(c,a,b,w,ls,L,()):=by
   unfold exeX
   rw [hko,←ha,hs0,zXS k6 h0]
   rfl
  rw [eE,eX]
  replace hnl:=And.intro hnl (And.intro hpq.symm (And.intro hem (And.intro eE2 (And.intro eX2 (And.intro (eq_true hex) (eq_false h0))))))
  exact auA
 rw [h0] at eE2
 have eE3:rdoE (c,a,b,w,ls,L,()) t=0:=by rw [eE]; exact h0
 have eX:rdoX (c,a,b,w,ls,L,()) t=mkR (rdoS (c,a,b,w,ls,L,()) t) (lst (rdoS (c,a,b,w,ls,L,()) t)) (L++[(t,lst (rdoS (c,a,b,w,ls,L,()) t))]):=by unfold rdoX; rw [if_pos eE3]; rfl
 have eX2:exeX (c,a,b,w,ls,L,()) (zAE t 0) (zHL t)=mkR (rdoS (c,a,b,w,ls,L,()) t) ls L:=by
  unfold exeX rdoS
  rw [hko,←ha]
  rfl
 rw [eE3,eX]
 generalize rdoS (c,a,b,w,ls,L,()) t=S at eX eX2 ⊢
 obtain ⟨c2,a2,b2,w2⟩:=S
 have eX3:exeX (c,a,b,w,ls,L,()) (zAE t 0) (zHL t)=(c2,a2,b2,w2,ls,L,()):=eX2
 have eL:lst (c2,a2,b2,w2)=zA9 a2 b2 c2 w2:=rfl
 have eM:mkR (c2,a2,b2,w2) (lst (c2,a2,b2,w2)) (L++[(t,lst (c2,a2,b2,w2))])=(c2,a2,b2,w2,zA9 a2 b2 c2 w2,L++[(t,zA9 a2 b2 c2 w2)],()):=rfl
 rw [eM]
 have hnl0:=hnl
 replace hnl:=And.intro hnl (And.intro hpq.symm (And.intro hem (And.intro eE2 (And.intro eX3 (eq_true hex)))))
 repeat' (first|(refine goK (by assumption) ?_; iterate 4 (try clear hK K))|(refine zAb fun K hK=>?_)|(refine zAa hE rfl ?_; simp +contextual only [hnl,↓kA,push_cast,seval,reduceCtorEq,cI])|(refine zAg ?_; simp only [thenQ,zAh,if_true,if_false,Nat.reduceEqDiff,reduceCtorEq])|(refine zAe (by rfl) (fun hb=>?_) (fun hb=>?_)<;>(try simp only [bq,reduceCtorEq] at hb)<;>(try omega))|refine andS ?_|fail)
 refine zAo (t:=AS.of [(0,.one (.box 0)),(1,.one (.val .str t))] [] [(0,.rcd [.val (.sl (.sl .int)) c2,.val (.sl .int) a2,.val (.sl .int) b2,.val .int w2,.val .int ls,.val (.sl (.prod .str .int)) L])]) ?_ ?_
 ·refine zAf ?_ ?_ ?_<;>simp only [push_cast,seval,reduceCtorEq,cI]
  all_goals first|rfl|exact ⟨rfl,rfl⟩|trace_state
 replace hnl:=hnl0
 replace hpq:=hpq.symm
 refine zBL hE (fun D s=>s.env 0=.one (.box 0) ∧
  s.env 1=.one (.val .str t) ∧
  s.boxes 0=some (.rcd [.val (.sl (.sl .int)) c2,.val (.sl .int) a2,.val (.sl .int) b2,.val .int w2,.val .int (bif D 23 then zA9 a2 b2 c2 w2 else ls),.val (.sl (.prod .str .int)) L]) ∧
  (D 0=true→s.env 31=.one (.box 0)) ∧
  (D 1=true→s.env 32=.one (.box 0)) ∧
  (D 2=true→s.env 33=.one (.box 0)) ∧
  (D 3=true→s.env 34=.one (.boxf 0 6 1 1)) ∧
  (D 4=true→s.env 35=.one (.val (.sl .int) a2)) ∧
  (D 5=true→s.env 36=.one (.box 0)) ∧
  (D 6=true→s.env 37=.one (.box 0)) ∧
  (D 7=true→s.env 38=.one (.boxf 0 6 2 2)) ∧
  (D 8=true→s.env 39=.one (.val (.sl .int) b2)) ∧
  (D 9=true→s.env 40=.one (.box 0)) ∧
  (D 10=true→s.env 41=.one (.box 0)) ∧
  (D 11=true→s.env 42=.one (.boxf 0 6 0 0)) ∧
  (D 12=true→s.env 43=.one (.val (.sl (.sl .int)) c2)) ∧
  (D 13=true→s.env 44=.one (.box 0)) ∧
  (D 14=true→s.env 45=.one (.box 0)) ∧
  (D 15=true→s.env 46=.one (.boxf 0 6 3 3)) ∧
  (D 16=true→s.env 47=.one (.val .int w2)) ∧
  (D 17=true→s.env 48=.tup [.val .int (zA9 a2 b2 c2 w2),.val .int (errWd a2 b2 c2 w2)]) ∧
  (D 18=true→s.env 30=.tup [.val .int (zA9 a2 b2 c2 w2),.val .int (errWd a2 b2 c2 w2)]) ∧
  (D 19=true→s.env 49=.one (.val .int (zA9 a2 b2 c2 w2))) ∧
  (D 20=true→s.env 50=.one (.val .int (errWd a2 b2 c2 w2))) ∧
  (D 21=true→s.env 51=.one (.box 0)) ∧
  (D 22=true→s.env 52=.one (.boxf 0 6 4 4))) rfl (by kernel_rfl) ?_ ?_ ?_
 ·dsimp only
  simp only [cond_true,cond_false,push_cast,seval,reduceCtorEq,cI]
 ·refine ⟨fun D s h0 hp hI=>?_,fun D s h0 hp hI=>?_,fun D s h0 hp hI=>?_,fun D s h0 hp hI=>?_,fun D s h0 hp hI=>?_,fun D s h0 hp hI=>?_,fun D s h0 hp hI=>?_,fun D s h0 hp hI=>?_,fun D s h0 hp hI=>?_,fun D s h0 hp hI=>?_,fun D s h0 hp hI=>?_,fun D s h0 hp hI=>?_,fun D s h0 hp hI=>?_,fun D s h0 hp hI=>?_,fun D s h0 hp hI=>?_,fun D s h0 hp hI=>?_,fun D s h0 hp hI=>?_,fun D s h0 hp hI=>?_,fun D s h0 hp hI=>?_,fun D s h0 hp hI=>?_,fun D s h0 hp hI=>?_,fun D s h0 hp hI=>?_,fun D s h0 hp hI=>?_,fun D s h0 hp hI=>?_,trivial⟩
  all_goals obtain ⟨e0,e1,b0,f0,f1,f2,f3,f4,f5,f6,f7,f8,f9,f10,f11,f12,f13,f14,f15,f16,f17,f18,f19,f20,f21,f22⟩:=hI
  all_goals (try simp [preds,Region.binds] at hp)
  all_goals (simp +contextual only [*,setD,cond_true,cond_false,Bool.or_true,Bool.or_false,↓kN,↓kP,↓kG,push_cast,seval,reduceCtorEq,cI])
  all_goals first|omega|(refine And.intro ?_ ?_<;>omega)|rfl|skip
 intro D s hD hI
 obtain ⟨e0,e1,b0,f0,f1,f2,f3,f4,f5,f6,f7,f8,f9,f10,f11,f12,f13,f14,f15,f16,f17,f18,f19,f20,f21,f22⟩:=hI
 refine hK _ ?_
 refine zAo (t:=AS.of [(0,.one (.box 0)),(1,.one (.val .str t))] [] [(0,.rcd [.val (.sl (.sl .int)) c2,.val (.sl .int) a2,.val (.sl .int) b2,.val .int w2,.val .int (zA9 a2 b2 c2 w2),.val (.sl (.prod .str .int)) L])]) ?_ ?_
 ·rw [hD 23 (by decide)] at b0
  refine zAf ?_ ?_ ?_<;>simp only [e0,e1,b0,cond_true,push_cast,seval,reduceCtorEq,cI]
  all_goals first|exact ⟨_,rfl⟩|skip
 clear hK hD e0 e1 b0 f0 f1 f2 f3 f4 f5 f6 f7 f8 f9 f10 f11 f12 f13 f14 f15 f16 f17 f18 f19 f20 f21 f22 s D
 generalize zA9 a2 b2 c2 w2=n2
 repeat' (first|(refine zAb fun K hK=>?_)|fail)
 refine zBL hE (fun D s=>(D 6=true→D 1=true) ∧
  (D 14=true→D 6=true) ∧
  (D 17=true→D 14=true) ∧
  (D 14=true→D 1=true) ∧
  (D 17=true→D 1=true) ∧
  (D 17=true→D 6=true) ∧
  (D 17=true→D 5=true) ∧
  (D 17=true→D 11=true) ∧
  s.env 0=.one (.box 0) ∧
  s.env 1=.one (.val .str t) ∧
  (D 17=false→s.boxes 0=some (.rcd [.val (.sl (.sl .int)) c2,.val (.sl .int) a2,.val (.sl .int) b2,.val .int w2,.val .int n2,.val (.sl (.prod .str .int)) L])) ∧
  (D 17=true→s.boxes 0=some (.rcd [.val (.sl (.sl .int)) c2,.val (.sl .int) a2,.val (.sl .int) b2,.val .int w2,.val .int n2,.ref 54])) ∧
  (D 1=true→D 6=false→s.env 54=.one (.ref 54)) ∧
  (D 6=true→D 14=false→s.env 59=.one (.ref 54)) ∧
  (D 14=true→s.env 67=.one (.ref 54)) ∧
  (D 1=true→s.roots 54=some (.flat 61 (.prod .str .int) (bif D 14 then L++[(t,n2)] else bif D 6 then L else []))) ∧
  (D 0=true→s.env 53=.one (.box 0)) ∧
  (D 2=true→s.env 55=.one (.box 0)) ∧
  (D 3=true→s.env 56=.one (.box 0)) ∧
  (D 4=true→s.env 57=.one (.boxf 0 6 5 5)) ∧
  (D 5=true→s.env 58=.one (.val (.sl (.prod .str .int)) L)) ∧
  (D 7=true→s.env 60=.one (.val .str t)) ∧
  (D 8=true→s.env 61=.one (.box 0)) ∧
  (D 9=true→s.env 62=.one (.box 0)) ∧
  (D 10=true→s.env 63=.one (.boxf 0 6 4 4)) ∧
  (D 11=true→s.env 64=.one (.val .int n2)) ∧
  (D 12=true→s.env 65=.one (.val (.prod .str .int) (t,n2))) ∧
  (D 13=true→s.env 66=.one (.val (.sl (.prod .str .int)) [(t,n2)])) ∧
  (D 15=true→s.env 68=.one (.box 0)) ∧
  (D 16=true→s.env 69=.one (.boxf 0 6 5 5))) rfl (by kernel_rfl) ?_ ?_ ?_
 ·dsimp only
  simp only [cond_true,cond_false,push_cast,seval,reduceCtorEq,cI]
 ·refine ⟨fun D s h0 hp hI=>?_,fun D s h0 hp hI=>?_,fun D s h0 hp hI=>?_,fun D s h0 hp hI=>?_,fun D s h0 hp hI=>?_,fun D s h0 hp hI=>?_,fun D s h0 hp hI=>?_,fun D s h0 hp hI=>?_,fun D s h0 hp hI=>?_,fun D s h0 hp hI=>?_,fun D s h0 hp hI=>?_,fun D s h0 hp hI=>?_,fun D s h0 hp hI=>?_,fun D s h0 hp hI=>?_,fun D s h0 hp hI=>?_,fun D s h0 hp hI=>?_,fun D s h0 hp hI=>?_,fun D s h0 hp hI=>?_,trivial⟩
  all_goals obtain ⟨o0,o1,o2,o3,o4,o5,o6,o7,e0,e1,b0,b1,h1,h6,h14,r1,f0,f2,f3,f4,f5,f7,f8,f9,f10,f11,f12,f13,f15,f16⟩:=hI
  all_goals (try simp [preds,Region.binds] at hp)
  all_goals (try have n0:=zAV o0 h0)
  all_goals (try have n1:=zAV o1 h0)
  all_goals (try have n2:=zAV o2 h0)
  all_goals (try have n3:=zAV o3 h0)
  all_goals (try have n4:=zAV o4 h0)
  all_goals (try have n5:=zAV o5 h0)
  all_goals (try have n6:=zAV o6 h0)
  all_goals (try have n7:=zAV o7 h0)
  all_goals (simp +contextual only [*,setD,List.range_zero,List.nil_append,true_and,cond_true,cond_false,Bool.or_true,Bool.or_false,↓kN,↓kP,↓kG,push_cast,seval,reduceCtorEq,cI])
  all_goals first|omega|(refine And.intro ?_ ?_<;>omega)|rfl|skip
 intro D s hD hI
 obtain ⟨o0,o1,o2,o3,o4,o5,o6,o7,e0,e1,b0,b1,h1,h6,h14,r1,f0,f2,f3,f4,f5,f7,f8,f9,f10,f11,f12,f13,f15,f16⟩:=hI
 refine hK _ ?_
 refine zAo (t:=AS.of [] [] [(0,.rcd [.val (.sl (.sl .int)) c2,.val (.sl .int) a2,.val (.sl .int) b2,.val .int w2,.val .int n2,.val (.sl (.prod .str .int)) (L++[(t,n2)])])]) ?_ ?_
 ·have b2:=b1 (hD 17 (by decide))
  have r2:=r1 (hD 1 (by decide))
  rw [hD 14 (by decide)] at r2
  refine zAf ?_ ?_ ?_<;>simp only [b2,r2,cond_true,push_cast,seval,reduceCtorEq,cI]
  all_goals first|exact ⟨_,rfl⟩|skip
 clear hK
 exact auA
end Go.Proofs.YtekfodeknpnkbaaGreatDoor
