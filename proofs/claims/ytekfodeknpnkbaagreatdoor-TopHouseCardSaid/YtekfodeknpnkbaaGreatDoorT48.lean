import Derived.Test.YtekfodeknpnkbaaGreatDoorT45
import Derived.Test.YtekfodeknpnkbaaGreatDoorT47
set_option linter.unusedSimpArgs false
set_option linter.unusedVariables false
namespace Go.Proofs.YtekfodeknpnkbaaGreatDoor
open Go.RowKit Go.VS
def fdiff:List Line→List Line→Nat
 | x::l,y::m=>if x=y then fdiff l m+1 else 0
 | _,_=>0
theorem zPI:∀ (l m:List Line),fdiff l m≤l.length∧fdiff l m≤m.length
 | [],m=>⟨Nat.zero_le _,Nat.zero_le _⟩
 | x::l,[]=>⟨Nat.zero_le _,Nat.zero_le _⟩
 | x::l,y::m=>by
  have:=zPI l m
  simp only [fdiff,List.length_cons]
  split<;>omega
theorem zPH (d:Line):∀ (l m:List Line) (i:Nat),i<fdiff l m→l.getD i d=m.getD i d
 | [],m,i,h=>by simp [fdiff] at h
 | x::l,[],i,h=>by simp [fdiff] at h
 | x::l,y::m,i,h=>by
  simp only [fdiff] at h
  split at h
  ·rename_i e
   cases i with
   | zero=>exact e
   | succ i=>exact zPH d l m i (by omega)
  ·omega
theorem zPJ (d:Line):∀ (l m:List Line),fdiff l m<l.length→fdiff l m<m.length→l.getD (fdiff l m) d≠m.getD (fdiff l m) d
 | [],m,h,_=>by simp at h
 | x::l,[],_,h=>by simp at h
 | x::l,y::m,h1,h2=>by
  by_cases e:x=y
  ·have e2:fdiff (x::l) (y::m)=fdiff l m+1:=if_pos e
   rw [e2] at h1 h2 ⊢
   exact zPJ d l m (by simpa using h1) (by simpa using h2)
  ·have e2:fdiff (x::l) (y::m)=0:=if_neg e
   rw [e2]
   exact e
def mrgV (a b:ByteArray) (p q:List Line×ByteArray):ByteArray×Int×Int :=
 if p.2=ByteArray.empty∧q.2=ByteArray.empty then
  if fdiff p.1 q.1<p.1.length∧fdiff p.1 q.1<q.1.length then (ByteArray.empty,(fdiff p.1 q.1:Nat),7)
  else if p.1.length<q.1.length then (b,(q.1.length:Nat),0) else (a,(p.1.length:Nat),0)
 else (ByteArray.empty,0,11)
theorem yAd {a b r o:ByteArray} {l m:List Line} (h:¬(r=ByteArray.empty∧o=ByteArray.empty)):mrgV a b (l,r) (m,o)=(ByteArray.empty,0,11):=if_neg h
theorem yAe {a b r o:ByteArray} {l m:List Line} (h:r=ByteArray.empty∧o=ByteArray.empty) (h2:fdiff l m<l.length∧fdiff l m<m.length):mrgV a b (l,r) (m,o)=(ByteArray.empty,((fdiff l m:Nat):Int),7):=by
 unfold mrgV; rw [if_pos h,if_pos h2]
theorem zXk {a b r o:ByteArray} {l m:List Line} (h:r=ByteArray.empty∧o=ByteArray.empty) (h2:¬(fdiff l m<l.length∧fdiff l m<m.length)) (h3:l.length<m.length):mrgV a b (l,r) (m,o)=(b,((m.length:Nat):Int),0):=by
 unfold mrgV; rw [if_pos h,if_neg h2,if_pos h3]
theorem zXl {a b r o:ByteArray} {l m:List Line} (h:r=ByteArray.empty∧o=ByteArray.empty) (h2:¬(fdiff l m<l.length∧fdiff l m<m.length)) (h3:¬l.length<m.length):mrgV a b (l,r) (m,o)=(a,((l.length:Nat):Int),0):=by
 unfold mrgV; rw [if_pos h,if_neg h2,if_neg h3]
@[push_cast] def zWe:Con:=⟨[.dat .str,.dat .str],fun (x:ByteArray×ByteArray×Unit)=>x.1.size≤1000000∧x.2.1.size≤1000000,fun (x:ByteArray×ByteArray×Unit) =>
 {res:=[.val .str (mrgV x.1 x.2.1 (zAL 60 x.1 0) (zAL 60 x.2.1 0)).1,.val .int (mrgV x.1 x.2.1 (zAL 60 x.1 0) (zAL 60 x.2.1 0)).2.1,.val .int (mrgV x.1 x.2.1 (zAL 60 x.1 0) (zAL 60 x.2.1 0)).2.2]}⟩
end Go.Proofs.YtekfodeknpnkbaaGreatDoor
namespace Go.Proofs.YtekfodeknpnkbaaGreatDoor
open Go.RowKit Go.VS
set_option maxHeartbeats 4000000 in
theorem zKd:FnSpec Tryz.prog 35 zWe:=by
 refine FnSpec.of_tri' (E:=know _ [] [] []) (zAl (kc zGQ all_nil) all_nil all_nil) Tryz.func35 rfl rfl (by kernel_rfl) ?_
 intro C x hE hnl hfit hpre
 simp only [Tryz.ntmps35,Tryz.results35,maxLen,seval,push_cast] at hnl hfit hpre ⊢
 obtain ⟨(a:ByteArray),(b:ByteArray),_⟩:=x
 dsimp only at hfit hpre ⊢
 have hem:({data:=#[]}:ByteArray)=ByteArray.empty:=rfl
 have hl1:=zEm 60 a 0
 have hl2:=zEm 60 b 0
 obtain ⟨⟨l,r⟩,h1⟩:∃ p,zAL 60 a 0=p:=⟨_,rfl⟩
 obtain ⟨⟨m,o⟩,h2⟩:∃ p,zAL 60 b 0=p:=⟨_,rfl⟩
 rw [h1] at hl1
 rw [h2] at hl2
 dsimp only at hl1 hl2
 have z1:(l.map Prod.fst).length=l.length:=List.length_map ..
 have z2:(l.map Prod.snd).length=l.length:=List.length_map ..
 have z3:(m.map Prod.fst).length=m.length:=List.length_map ..
 have z4:(m.map Prod.snd).length=m.length:=List.length_map ..
 replace hnl:=And.intro hnl (And.intro z1 (And.intro z2 (And.intro z3 z4)))
 by_cases hro:r=ByteArray.empty∧o=ByteArray.empty
 rotate_left
 ·have hv:=yAd (a:=a) (b:=b) (l:=l) (m:=m) hro
  by_cases hr:r=ByteArray.empty
  ·have ho:¬o=ByteArray.empty:=fun h=>hro ⟨hr,h⟩
   subst hr
   replace hnl:=And.intro hnl (And.intro hem (And.intro h1 (And.intro h2 (And.intro (eq_false ho) hv))))
   exact auB
  ·replace hnl:=And.intro hnl (And.intro hem (And.intro h1 (And.intro h2 (And.intro (eq_false hr) hv))))
   exact auB
 obtain ⟨rfl,rfl⟩:=hro
 have hnl0:=hnl
 replace hnl:=And.intro hnl (And.intro hem (And.intro h1 h2))
 repeat' (first|(refine goK (by assumption) ?_; iterate 4 (try clear hK K))|(refine zAb fun K hK=>?_)|(refine zAa hE rfl ?_; simp +contextual only [hnl,↓kA,push_cast,seval,reduceCtorEq,cI])|refine zAd ?_|(refine zAg ?_; simp only [thenQ,zAh,if_true,if_false,Nat.reduceEqDiff,reduceCtorEq])|(refine zAe (by rfl) (fun hb=>?_) (fun hb=>?_)<;>(try simp only [bq,reduceCtorEq] at hb)<;>(try omega))|refine andS ?_|fail)
 refine zAo (t:=AS.of [(0,.one (.val .str a)),(1,.one (.val .str b)),(7,.one (.val (.sl .str) (l.map Prod.fst))),(8,.one (.val (.sl .int) (l.map Prod.snd))),(10,.one (.val (.sl .str) (m.map Prod.fst))),(11,.one (.val (.sl .int) (m.map Prod.snd))),(36,.I (min (l.length:Int) m.length)),(37,.I 0)] [] []) ?_ ?_
 ·refine zAf ?_ ?_ ?_<;>simp only [push_cast,seval,reduceCtorEq,cI]
 refine zAk (fun i:Nat=>AS.of [(0,.one (.val .str a)),(1,.one (.val .str b)),(7,.one (.val (.sl .str) (l.map Prod.fst))),(8,.one (.val (.sl .int) (l.map Prod.snd))),(10,.one (.val (.sl .str) (m.map Prod.fst))),(11,.one (.val (.sl .int) (m.map Prod.snd))),(36,.I (min (l.length:Int) m.length)),(37,.I i)] [] []) (fun i=>i≤fdiff l m) (fun i=>fdiff l m - i) 0 (Nat.zero_le _) ?_ ?_
 ·refine zAf ?_ ?_ ?_<;>simp only [push_cast,seval,reduceCtorEq,cI]
 intro i hi K' hL
 have hfl:=zPI l m
 have q1:=zGo Prod.fst l i (ByteArray.empty,(0:Int))
 have q2:=zGo Prod.snd l i (ByteArray.empty,(0:Int))
 have q3:=zGo Prod.fst m i (ByteArray.empty,(0:Int))
 have q4:=zGo Prod.snd m i (ByteArray.empty,(0:Int))
 dsimp only at q1 q2 q3 q4
 rcases Nat.lt_or_ge i (fdiff l m) with hi2|hi2
 ·have he:=zPH (ByteArray.empty,0) l m i hi2
  have c1:i<l.length:=by omega
  have c2:i<m.length:=by omega
  replace hnl:=And.intro hnl0 (And.intro hem (And.intro q1 (And.intro q2 (And.intro q3 (And.intro q4 he)))))
  repeat' (first|(refine goK (by assumption) ?_; iterate 4 (try clear hK K))|(refine zAb fun K hK=>?_)|((first|refine zAa hE rfl ?_|((first|refine zAc hE 1 rfl rfl (by kernel_rfl) ?_|refine zAc hE 2 rfl rfl (by kernel_rfl) ?_|refine zAc hE 3 rfl rfl (by kernel_rfl) ?_|refine zAc hE 4 rfl rfl (by kernel_rfl) ?_); simp only [List.length_cons,List.length_nil,Nat.reduceAdd,Nat.reduceSub,List.take_succ_cons,List.take_zero,List.drop_succ_cons,List.drop_zero])); simp +contextual only [hnl,↓kA,push_cast,seval,reduceCtorEq,cI])|refine zAd ?_|(refine zAg ?_; simp only [thenQ,zAh,if_true,if_false,Nat.reduceEqDiff,reduceCtorEq])|(refine zAe (by rfl) (fun hb=>?_) (fun hb=>?_)<;>(try simp only [bq,reduceCtorEq] at hb)<;>(try omega))|refine andS ?_|fail)
  refine hL _ (i+1) hi2 (by omega) ?_
  refine zAf ?_ ?_ ?_<;>simp only [push_cast,seval,reduceCtorEq,cI]
 ·obtain rfl:i=fdiff l m:=by omega
  by_cases hd:fdiff l m<l.length∧fdiff l m<m.length
  ·have he:=zPJ (ByteArray.empty,0) l m hd.1 hd.2
   have hv:=yAe (a:=a) (b:=b) (r:=ByteArray.empty) (o:=ByteArray.empty) ⟨rfl,rfl⟩ hd
   have hd1:=hd.1
   have hd2:=hd.2
   by_cases hf:(l.getD (fdiff l m) (ByteArray.empty,0)).1=(m.getD (fdiff l m) (ByteArray.empty,0)).1
   ·have hs:¬(l.getD (fdiff l m) (ByteArray.empty,0)).2=(m.getD (fdiff l m) (ByteArray.empty,0)).2:=fun h=>he (Prod.ext hf h)
    replace hnl:=And.intro hnl0 (And.intro hem (And.intro q1 (And.intro q2 (And.intro q3 (And.intro q4 (And.intro (eq_true hf) (And.intro (eq_false hs) (And.intro h1 (And.intro h2 hv)))))))))
    exact auB
   ·replace hnl:=And.intro hnl0 (And.intro hem (And.intro q1 (And.intro q2 (And.intro q3 (And.intro q4 (And.intro (eq_false hf) (And.intro h1 (And.intro h2 hv))))))))
    exact auB
  ·by_cases h3:l.length<m.length
   ·have hv:=zXk (a:=a) (b:=b) (r:=ByteArray.empty) (o:=ByteArray.empty) ⟨rfl,rfl⟩ hd h3
    replace hnl:=And.intro hnl0 (And.intro hem (And.intro h1 (And.intro h2 hv)))
    exact auB
   ·have hv:=zXl (a:=a) (b:=b) (r:=ByteArray.empty) (o:=ByteArray.empty) ⟨rfl,rfl⟩ hd h3
    replace hnl:=And.intro hnl0 (And.intro hem (And.intro h1 (And.intro h2 hv)))
    exact auB
end Go.Proofs.YtekfodeknpnkbaaGreatDoor
namespace Go.Proofs.YtekfodeknpnkbaaGreatDoor
open Go.RowKit Go.VS Go.OT
theorem zJS:∀ (L:List Line) (n:Nat),n≤L.length→fdiff (L.take n) L=n
 | _,0,_=>rfl
 | [],n+1,h=>by simp at h
 | x::L,n+1,h=>by
  show (if x=x then fdiff (L.take n) L+1 else 0)=n+1
  rw [if_pos rfl,zJS L n (by simpa using h)]
theorem zKc {c:List (List Int)} (hc:InTab 0 99 c) {h:HX} {L:List Line} (q:Hist c h L) {n:Nat} (hn:n≤L.length):mrgV (bkF 0 (L.take n)) (hBk h) (zAL 60 (bkF 0 (L.take n)) 0) (zAL 60 (hBk h) 0)=(hBk h,((L.length:Nat):Int),0):=by
 have h1:=(q.hl hc).read
 have h2:=(q.part hc hn).2.1
 have hb:=(q.hl hc).bk
 have ht:(L.take n).length=n:=by rw [List.length_take]; omega
 rw [h1,h2]
 have hd:=zJS L n hn
 by_cases h3:n<L.length
 ·exact zXk ⟨rfl,rfl⟩ (by rw [hd,ht]; omega) (by rw [ht]; exact h3)
 ·have e:n=L.length:=by omega
  have e2:=zXl (a:=bkF 0 (L.take n)) (b:=hBk h) (r:=ByteArray.empty) (o:=ByteArray.empty) (l:=L.take n) (m:=L) ⟨rfl,rfl⟩ (by rw [hd,ht]; omega) (by rw [ht]; omega)
  rw [e2,ht,e,List.take_length,hb]
theorem zSA {L:List Line} (h:∀ x∈L,LineOK x) (hl:L.length≤60):(bkF 0 L).size≤66000:=by
 have hp:WritePre L:=⟨by omega,fun y hy=>(h y hy).pre⟩
 have:=zLL hp L.length (Nat.le_refl _)
 rw [wr_bk] at this
 omega
end Go.Proofs.YtekfodeknpnkbaaGreatDoor
