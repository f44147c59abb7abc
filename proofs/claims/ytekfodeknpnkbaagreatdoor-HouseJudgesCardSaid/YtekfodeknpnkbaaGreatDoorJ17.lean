import Derived.Test.YtekfodeknpnkbaaGreatDoorJ14
import Derived.Test.YtekfodeknpnkbaaGreatDoorJ16
set_option linter.unusedSimpArgs false
set_option linter.unusedVariables false
namespace Go.Proofs.YtekfodeknpnkbaaGreatDoor
open Go.RowKit Go.VS Go.OT
theorem zK9 {l:List Int} (h1:1<=l.length/\l.length<=5) (h2:∀ i,i<l.length->0<=l.getD i 0/\l.getD i 0<=30):zBL l=true:=by
 rw [zBL,av,au,ay]
 refine ⟨h1,fun x hx=>?_⟩
 obtain ⟨i,hi,rfl⟩:=aN hx
 have:=h2 i hi
 rw [ab,aj hi] at this
 exact aD this
structure WOK (s:State):Prop where
 st:HOK s
 w:0<=s.2.2.2/\s.2.2.2<=99
theorem WOK.wd {s:State} (h:WOK s):errWd s.2.1 s.2.2.1 s.1 s.2.2.2=0:=by
 obtain ⟨⟨h1,h2,h3,h4,h5⟩,hw⟩:=h
 have hr:=h1.rows
 have hc:=h1.cols
 have hf:ForOK s.2.1 s.2.2.1 s.1:=⟨zK9 (by omega) h4,zK9 (by omega) h5,h1,h2.symm,h3.symm⟩
 rw [errWd,ah (zJM hf),errW,ah hw]
theorem zOf {c:List (List Int)} (h:InTab 0 99 c):WOK (newS c):=⟨zJ0 h,by show (0:Int)<=0/\(0:Int)<=99; omega⟩
theorem zRA {c:List (List Int)} (h:InTab 0 99 c):lst (newS c)=0:=by
 have hwd:=(zOf h).wd
 have hin:=zFO (newS c).2.1 (newS c).2.2.1 (newS c).1 (newS c).2.2.2
 have hm:=(zCn hwd).1
 have e:lst (newS c)=zB0 (newS c).2.1 (newS c).2.2.1 (newS c).1 (newS c).2.2.2:=ah hwd
 have z:=zIW hm.mc (newS c).2.2.2
 have e0:(newS c).2.2.2=0:=rfl
 rw [e0] at z e
 have e1:lst (newS c)=zBq (newS c).2.1 (newS c).2.2.1 (newS c).1 (newS c).2.2.2:=rfl
 rw [Int.zero_mul] at z
 omega
theorem dov_w {k:Nat} {l:List Int} {s:State} (h:DoPre k l s) (hw:0<=s.2.2.2/\s.2.2.2<=99):0<=(doV k l s).2.2.2.2/\(doV k l s).2.2.2.2<=99:=by
 have hl:=h.len
 have hn:=h.num 0
 have hk:=h.kind
 obtain rfl|rfl|rfl|rfl|rfl|rfl|rfl:k=0\/k=1\/k=2\/k=3\/k=4\/k=5\/k=6:=by omega
 ·exact hw
 ·exact hw
 ·exact hw
 ·exact hw
 ·obtain ⟨c,a,b,w⟩:=s
  rw [doV4]
  repeat' split
  all_goals exact hw
 ·obtain ⟨c,a,b,w⟩:=s
  have hl':l.length=1:=hl
  rw [doV5]
  split
  ·exact hw
  ·have:=hn (by omega)
   show 0<=l.getD 0 0/\l.getD 0 0<=99
   omega
 ·obtain ⟨c,a,b,w⟩:=s
  rw [doV6]
  split
  all_goals exact hw
structure HL (h:HX) (L:List Line):Prop where
 inv:HInv h
 w:0<=(hSt h).2.2.2/\(hSt h).2.2.2<=99
 ord:hOrd h=L.map Prod.fst
 bk:hBk h=bkF 0 L
 ln:∀ y∈L,LineOK y
theorem HL.wok {h:HX} {L:List Line} (q:HL h L):WOK (hSt h):=⟨q.inv.st,q.w⟩
theorem HL.len {h:HX} {L:List Line} (q:HL h L):(hOrd h).length=L.length/\L.length<=60:=by
 have:=q.inv.ord
 rw [q.ord,bp] at *
 exact ⟨rfl,this⟩
theorem HL.new {c:List (List Int)} (h:InTab 0 99 c):HL (newH c) []:=⟨zOe h,(zOf h).w,rfl,rfl,fun y hy=>by cases hy⟩
theorem zWZ {h:HX} {t:ByteArray} (e:¬doE h t=0):doX h t=h:=ae e
theorem zMn {h:HX} {t:ByteArray} (e:doE h t=0):doX h t=mkH (zQ9 h) (doS h t) (hOrd h++[t]) (zCs (hBk h) (lst (doS h t)) t):=ah e
theorem doE_0 {h:HX} {t:ByteArray} (e:doE h t=0):hpOK t=true/\¬(hOrd h).length=60/\(doV (hkind t) (hargs t) (hSt h)).1=0:=by
 unfold doE at e
 split at e
 ·split at e
  ·omega
  ·exact ⟨by assumption,by assumption,e⟩
 ·omega
theorem HL.line {h:HX} {L:List Line} (q:HL h L) {t:ByteArray} (e:doE h t=0):LineOK (t,lst (hSt (doX h t))):=by
 obtain ⟨h1,_,_⟩:=doE_0 e
 have:=(zBW.1 h1).1.1
 exact ⟨this,zR1 h1,zFO _ _ _ _⟩
theorem HL.step {h:HX} {L:List Line} (q:HL h L) {t:ByteArray} (e:doE h t=0):HL (doX h t) (L++[(t,lst (hSt (doX h t)))]):=by
 have hi:=zQS q.inv t
 have hl:=q.line e
 have hx:=zMn e
 have es:hSt (doX h t)=doS h t:=by rw [hx]; rfl
 refine ⟨hi,?_,?_,?_,fun y hy=>?_⟩
 ·rw [es]
  exact dov_w (zNN (doE_0 e).1 q.inv.st) q.w
 ·rw [hx]
  show hOrd h++[t]=_
  rw [q.ord,bF]
  rfl
 ·rw [<-zP8 q.ln,<-q.bk,es,hx]
  rfl
 ·rcases aV.1 hy with hy|hy
  ·exact q.ln y hy
  ·rw [aX] at hy; rw [hy]; exact hl
def rSt (x:RX):State:=(x.1,x.2.1,x.2.2.1,x.2.2.2.1)
def rLs (x:RX):Int:=x.2.2.2.2.1
structure HR (h:HX) (x:RX):Prop where
 hl:HL h (rLn x)
 st:rSt x=hSt h
 ls:rLs x=lst (hSt h)
def rdoE (x:RX) (t:ByteArray):Int:=if hpOK t=true then (if (rLn x).length=60 then 3 else (doV (hkind t) (hargs t) (rSt x)).1) else 2
def rdoS (x:RX) (t:ByteArray):State:=(doV (hkind t) (hargs t) (rSt x)).2
def rdoX (x:RX) (t:ByteArray):RX:=if rdoE x t=0 then mkR (rdoS x t) (lst (rdoS x t)) (rLn x++[(t,lst (rdoS x t))]) else x
structure RInv (x:RX):Prop where
 st:HOK (rSt x)
 ls:rLs x=lst (rSt x)
 len:(rLn x).length<=60
 ln:∀ y∈rLn x,LineOK y
theorem HR.rinv {h:HX} {x:RX} (q:HR h x):RInv x:=⟨by rw [q.st]; exact q.hl.inv.st,by rw [q.st]; exact q.ls,q.hl.len.2,q.hl.ln⟩
theorem RInv.wr {x:RX} (q:RInv x):WritePre (rLn x):=⟨by have:=q.len; omega,fun y hy=>(q.ln y hy).pre⟩
theorem HR.new {c:List (List Int)} (h:InTab 0 99 c):HR (newH c) (newR c):=⟨HL.new h,rfl,(zRA h).symm⟩
theorem HR.doE {h:HX} {x:RX} (q:HR h x) (t:ByteArray):rdoE x t=doE h t:=by
 unfold rdoE Go.Proofs.YtekfodeknpnkbaaGreatDoor.doE
 rw [q.st,q.hl.len.1]
theorem HR.doX {h:HX} {x:RX} (q:HR h x) (t:ByteArray):HR (doX h t) (rdoX x t):=by
 by_cases e:Go.Proofs.YtekfodeknpnkbaaGreatDoor.doE h t=0
 ·have e2:rdoE x t=0:=by rw [q.doE]; exact e
  have hs:=q.hl.step e
  have hx:=zMn e
  have es:hSt (Go.Proofs.YtekfodeknpnkbaaGreatDoor.doX h t)=doS h t:=by rw [hx]; rfl
  have er:rdoS x t=doS h t:=by unfold rdoS doS; rw [q.st]
  have hr:rdoX x t=mkR (rdoS x t) (lst (rdoS x t)) (rLn x++[(t,lst (rdoS x t))]):=ah e2
  rw [es] at hs
  rw [hr,er]
  exact ⟨hs,es.symm,by rw [es]; rfl⟩
 ·have e2:¬rdoE x t=0:=by rw [q.doE]; exact e
  have hr:rdoX x t=x:=ae e2
  rw [hr,zWZ e]
  exact q
theorem HR.book {h:HX} {x:RX} (q:HR h x):hBk h=(wrK (rLn x) (rLn x).length).1:=by rw [wr_bk]; exact q.hl.bk
inductive Hist (c:List (List Int)):HX->List Line->Prop
 | new:Hist c (newH c) []
 | step {h:HX} {L:List Line} {t:ByteArray}:Hist c h L->doE h t=0->Hist c (doX h t) (L++[(t,lst (hSt (doX h t)))])
theorem Hist.hl {c:List (List Int)} (hc:InTab 0 99 c) {h:HX} {L:List Line} (q:Hist c h L):HL h L:=by
 induction q with
 | new=>exact HL.new hc
 | step _ e ih=>exact ih.step e
theorem Hist.first {c:List (List Int)} {h:HX} {L:List Line} (q:Hist c h L):zQ9 h=c:=by
 induction q with
 | new=>rfl
 | step _ e ih=>rw [zMn e]; exact ih
def repV (h:HX):List Line->Nat->HX×Nat×Int
 | [],i=>(h,i,0)
 | y::L,i=>if doE h y.1=0 then (if lst (hSt (doX h y.1))=y.2 then repV (doX h y.1) L (i+1) else (h,i,7)) else (h,i,doE h y.1)
theorem Hist.rep {c:List (List Int)} {h:HX} {L:List Line} (q:Hist c h L):∀ M,repV (newH c) (L++M) 0=repV h M L.length:=by
 induction q with
 | new=>intro M; rfl
 | step _ e ih =>
  intro M
  rw [cm,ih]
  show repV _ (_::M) _=_
  unfold repV
  rw [ah e,ah rfl,aL]
  cases M<;>rfl
theorem Hist.all {c:List (List Int)} {h:HX} {L:List Line} (q:Hist c h L):repV (newH c) L 0=(h,L.length,0):=by
 have:=q.rep []
 rw [List.append_nil] at this
 exact this
def hAt (c:List (List Int)) (L:List Line) (i:Nat):HX:=(L.take i).foldl (fun h y=>doX h y.1) (newH c)
theorem Hist.at {c:List (List Int)} {h:HX} {L:List Line} (q:Hist c h L):hAt c L L.length=h/\(∀ i,i<=L.length->Hist c (hAt c L i) (L.take i))/\∀ i,i<L.length->doE (hAt c L i) (L.getD i (ByteArray.empty,0)).1=0/\hAt c L (i+1)=doX (hAt c L i) (L.getD i (ByteArray.empty,0)).1:=by
 induction q with
 | new =>
  refine ⟨rfl,fun i hi=>?_,fun i hi=>by simp at hi⟩
  obtain rfl:i=0:=by simpa using hi
  exact .new
 | @step h L t q e ih =>
  obtain ⟨h1,h2,h3⟩:=ih
  have hl:(L++[(t,lst (hSt (doX h t)))]).length=L.length+1:=by rw [aL]; rfl
  have ha:∀ i,i<=L.length->hAt c (L++[(t,lst (hSt (doX h t)))]) i=hAt c L i:=fun i hi=>by unfold hAt; rw [List.take_append_of_le_length hi]
  have hend:hAt c (L++[(t,lst (hSt (doX h t)))]) (L.length+1)=doX h t:=by
   have e1:(L++[(t,lst (hSt (doX h t)))]).take (L.length+1)=L++[(t,lst (hSt (doX h t)))]:=aS (by omega)
   have e2:L.foldl (fun h y=>doX h y.1) (newH c)=h:=by have:=h1; unfold hAt at this; rwa [bS] at this
   unfold hAt
   rw [e1,cq,e2]
   rfl
  refine ⟨by rw [hl]; exact hend,fun i hi=>?_,fun i hi=>?_⟩
  ·rw [hl] at hi
   rcases ai i (L.length+1) with h5|h5
   ·rw [ha i (by omega),List.take_append_of_le_length (by omega)]
    exact h2 i (by omega)
   ·obtain rfl:i=L.length+1:=by omega
    rw [hend,aS (by omega)]
    exact .step q e
  ·rw [hl] at hi
   rcases ai i L.length with h5|h5
   ·rw [ha i (by omega),ha (i+1) (by omega),ab,bd h5,<-ab]
    exact h3 i h5
   ·obtain rfl:i=L.length:=by omega
    have e3:(L++[(t,lst (hSt (doX h t)))]).getD L.length (ByteArray.empty,0)=(t,lst (hSt (doX h t))):=by
     rw [ab,a8 (ap _),Nat.sub_self]; rfl
    rw [ha _ (ap _),h1,hend,e3]
    exact ⟨e,rfl⟩
def doAll (h:HX) (l:List ByteArray):HX:=l.foldl doX h
def zHU (x:RX) (l:List ByteArray):RX:=l.foldl rdoX x
theorem zOS (h:HX) (l:List ByteArray) {i:Nat} (hi:i<l.length):doAll h (l.take (i+1))=doX (doAll h (l.take i)) (l.getD i ByteArray.empty):=by
 have e:l.getD i ByteArray.empty=l[i]:=by rw [ab,aj hi]; rfl
 unfold doAll
 rw [bb hi,cq,e]
 rfl
theorem zM0 (x:RX) (l:List ByteArray) {i:Nat} (hi:i<l.length):zHU x (l.take (i+1))=rdoX (zHU x (l.take i)) (l.getD i ByteArray.empty):=by
 have e:l.getD i ByteArray.empty=l[i]:=by rw [ab,aj hi]; rfl
 unfold zHU
 rw [bb hi,cq,e]
 rfl
theorem HR.all {h:HX} {x:RX} (q:HR h x):∀ l,HR (doAll h l) (zHU x l):=by
 intro l
 induction l generalizing h x with
 | nil=>exact q
 | cons t l ih=>exact ih (q.doX t)
theorem HL.read {h:HX} {L:List Line} (q:HL h L):zFN 60 (hBk h) 0=(L,ByteArray.empty):=by
 rw [q.bk]
 exact zSn L 0 60 q.len.2 q.ln
theorem Hist.last {c:List (List Int)} (hc:InTab 0 99 c) {h:HX} {L:List Line} (q:Hist c h L):(L=[]/\lst (hSt h)=0)\/(1<=L.length/\(L.map Prod.snd).getD (L.length - 1) 0=lst (hSt h)):=by
 cases q with
 | new=>exact .inl ⟨rfl,zRA hc⟩
 | @step h' L' t q e =>
  refine .inr ⟨by rw [aL]; simp,?_⟩
  rw [bF,aL,ab,a8 (by simp)]
  simp
theorem Hist.part {c:List (List Int)} (hc:InTab 0 99 c) {h:HX} {L:List Line} (q:Hist c h L) {n:Nat} (hn:n<=L.length):Hist c (hAt c L n) (L.take n)/\zFN 60 (bkF 0 (L.take n)) 0=(L.take n,ByteArray.empty)/\repV (newH c) (L.take n) 0=(hAt c L n,n,0)/\hBk (hAt c L n)=bkF 0 (L.take n):=by
 have h1:=q.at.2.1 n hn
 have h2:=h1.hl hc
 have h3:=h2.read
 have h4:=h1.all
 rw [h2.bk] at h3
 rw [aU,Nat.min_eq_left hn] at h4
 exact ⟨h1,h3,h4,h2.bk⟩
end Go.Proofs.YtekfodeknpnkbaaGreatDoor
namespace Go.Proofs.YtekfodeknpnkbaaGreatDoor
open Go.RowKit Go.VS
def planX (h:HX):List (List Int):=zHo (hSt h).2.1 (hSt h).2.2.1 (hSt h).1 (hSt h).2.2.2
@[push_cast] def zT6:Con:=⟨[.obj hFs],fun (x:HX×Unit)=>StateSz (hSt x.1),fun (x:HX×Unit)=>{res:=[.val (.sl (.sl .int)) (planX x.1)],objs:=[(0,⟨hFs,x.1⟩)]}⟩
theorem zPs:FnSpec Tryz.prog 33 zT6:=by
 refine FnSpec.of_tri' (E:=know _ [] [] []) (zAl (kc zES (kc zME all_nil)) all_nil all_nil) Tryz.func33 rfl rfl kr ?_
 intro C x hE hnl hfit hpre
 simp only [Tryz.ntmps33,Tryz.results33,maxLen,seval,push_cast] at hnl hfit hpre ⊢
 obtain ⟨⟨⟨⟩,⟨⟩,(f:List (List Int)),(c:List (List Int)),(a:List Int),(b:List Int),(w:Int),(ord:List ByteArray),(bk:ByteArray),⟨⟩⟩,_⟩:=x
 dsimp only at hfit hpre ⊢
 have hsz:StateSz (c,a,b,w):=hpre
 replace hnl:=aa hnl (aG hsz)
 simp only [hSt,hBk,lst,planX,push_cast] at hnl ⊢
 repeat' (first|(refine goK (by assumption) ?_; iterate 4 (try clear hK K))|(refine zAb fun K hK=>?_)|((first|refine zAa hE rfl ?_|refine zAi ?_); simp +contextual only [hnl,↓kA,push_cast,seval,reduceCtorEq,cI])|(refine zAg ?_; simp only [thenQ,zAh,if_true,if_false,Nat.reduceEqDiff,reduceCtorEq])|(refine zAe (by rfl) (fun hb=>?_) (fun hb=>?_)<;>(try simp only [bq,reduceCtorEq] at hb)<;>(try omega))|refine andS ?_|fail)
 all_goals rfl
end Go.Proofs.YtekfodeknpnkbaaGreatDoor
namespace Go.Proofs.YtekfodeknpnkbaaGreatDoor
open Go.RowKit Go.VS
@[push_cast] def zWf:Con:=⟨[.dat (.sl .int),.dat .int,.dat .int,.dat .bool],fun (x:List Int×Int×Int×Bool×Unit)=>RchPre x.1 x.2.1 x.2.2.1,
 fun (x:List Int×Int×Int×Bool×Unit)=>{res:=[.val (.sl .int) (rchL x.1 x.2.1 x.2.2.1 x.2.2.2.1),.val .int (rchE x.1 x.2.1 x.2.2.1 x.2.2.2.1)]}⟩
set_option maxHeartbeats 4000000 in
theorem zSm:FnSpec Tryz.prog 109 zWf:=by
 refine FnSpec.of_tri' (E:=know [] [] [] [17]) (zAl all_nil all_nil all_nil) Tryz.func109 rfl rfl kr ?_
 intro C x hE hnl hfit hpre
 simp only [Tryz.ntmps109,Tryz.results109,maxLen,seval,push_cast] at hnl hfit hpre ⊢
 obtain ⟨(l:List Int),(i:Int),(n:Int),(g:Bool),_⟩:=x
 dsimp only at hfit hpre ⊢
 obtain ⟨hlen,hat,hi,hn⟩:=hpre
 by_cases h1:(l.length:Int)<=i
 ·have e1:rchE l i n g=4:=ah h1
  have e2:rchL l i n g=[]:=by rw [rchL,e1]; rfl
  replace hnl:=aa hnl (aa e1 e2)
  exact auB
 have hk:=hat i.toNat (by omega)
 by_cases h2:n=0
 ·have e1:rchE l i n g=1:=by rw [rchE,ae h1,ah h2]
  have e2:rchL l i n g=[]:=by rw [rchL,e1]; rfl
  replace hnl:=aa hnl (aa e1 e2)
  exact auB
 have hll:(l.set i.toNat (l.getD i.toNat 0+n)).getD i.toNat 0=l.getD i.toNat 0+n:=by
  rw [ab,List.getElem?_set_self (by omega)]; rfl
 have hsl:(l.set i.toNat (l.getD i.toNat 0+n)).length=l.length:=be
 cases g with
 | true =>
  have e2:¬30<l.getD i.toNat 0+n->rchL l i n true=l.set i.toNat (l.getD i.toNat 0+n):=fun h3=>by rw [rchL,ah (by rw [rchE,ae h1,ae h2,ah rfl,ae h3]),ah rfl]
  by_cases h3:30<l.getD i.toNat 0+n
  ·have e1:rchE l i n true=3:=by rw [rchE,ae h1,ae h2,ah rfl,ah h3]
   have e2:rchL l i n true=[]:=by rw [rchL,e1]; rfl
   replace hnl:=aa hnl (aa e1 (aa e2 (aa hll hsl)))
   exact auB
  ·have e1:rchE l i n true=0:=by rw [rchE,ae h1,ae h2,ah rfl,ae h3]
   replace e2:=e2 h3
   replace hnl:=aa hnl (aa e1 (aa e2 (aa hll hsl)))
   repeat' (first|(refine zAr (t:=AS.of [(1,.one (.val .int i)),(10,.one (.val (.sl .int) (l.set i.toNat (l.getD i.toNat 0+n))))] [] []) ?_ (Stop.h ?_); · refine zAf ?_ ?_ ?_<;>simp only [push_cast,seval,reduceCtorEq,cI])|(first|(refine goK (by assumption) ?_; iterate 4 (try clear hK K))|(refine zAb fun K hK=>?_)|((first|refine zAa hE rfl ?_|refine zAi ?_|((first|refine zAd hE 1 rfl rfl kr ?_|refine zAd hE 2 rfl rfl kr ?_|refine zAd hE 3 rfl rfl kr ?_|refine zAd hE 4 rfl rfl kr ?_); simp only [ao,List.length_nil,Nat.reduceAdd,Nat.reduceSub,ak,List.take_zero,al,ar])); simp +contextual only [hnl,↓kA,push_cast,seval,reduceCtorEq,cI])|refine zAc ?_|((first|refine zAg ?_|refine zAj ?_); simp only [thenQ,zAh,if_true,if_false,Nat.reduceEqDiff,reduceCtorEq])|(refine zAe (by rfl) (fun hb=>?_) (fun hb=>?_)<;>(try simp only [bq,reduceCtorEq] at hb)<;>(try omega))|refine zAF (by rfl) ?_ ?_|refine andS ?_|(refine ⟨fun hc=>?_,fun hc=>?_⟩)|(intro hc; try omega)))
   refine ⟨?_⟩
   exact auB
 | false =>
  by_cases h3:l.getD i.toNat 0<n
  ·have e1:rchE l i n false=9:=by rw [rchE,ae h1,ae h2,ae (by decide),ah h3]
   have e2:rchL l i n false=[]:=by rw [rchL,e1]; rfl
   replace hnl:=aa hnl (aa e1 e2)
   exact auB
  ·have e1:rchE l i n false=0:=by rw [rchE,ae h1,ae h2,ae (by decide),ae h3]
   have e2:rchL l i n false=l.set i.toNat (l.getD i.toNat 0 - n):=by rw [rchL,ah e1,ae (by decide)]
   replace hnl:=aa hnl (aa e1 e2)
   repeat' (first|(refine zAr (t:=AS.of [(10,.one (.val (.sl .int) (l.set i.toNat (l.getD i.toNat 0 - n))))] [] []) ?_ (Stop.h ?_); · refine zAf ?_ ?_ ?_<;>simp only [push_cast,seval,reduceCtorEq,cI])|(first|(refine goK (by assumption) ?_; iterate 4 (try clear hK K))|(refine zAb fun K hK=>?_)|((first|refine zAa hE rfl ?_|refine zAi ?_|((first|refine zAd hE 1 rfl rfl kr ?_|refine zAd hE 2 rfl rfl kr ?_|refine zAd hE 3 rfl rfl kr ?_|refine zAd hE 4 rfl rfl kr ?_); simp only [ao,List.length_nil,Nat.reduceAdd,Nat.reduceSub,ak,List.take_zero,al,ar])); simp +contextual only [hnl,↓kA,push_cast,seval,reduceCtorEq,cI])|refine zAc ?_|((first|refine zAg ?_|refine zAj ?_); simp only [thenQ,zAh,if_true,if_false,Nat.reduceEqDiff,reduceCtorEq])|(refine zAe (by rfl) (fun hb=>?_) (fun hb=>?_)<;>(try simp only [bq,reduceCtorEq] at hb)<;>(try omega))|refine zAF (by rfl) ?_ ?_|refine andS ?_|(refine ⟨fun hc=>?_,fun hc=>?_⟩)|(intro hc; try omega)))
   refine ⟨?_⟩
   exact auB
theorem rch_t {l:List Int} {i n:Int} (hn:0<=n) (hat:∀ k,k<l.length->0<=l.getD k 0/\l.getD k 0<=30) (hi:0<=i):rchE l i n true=chgE l i n n/\(chgE l i n n=0->rchL l i n true=chgL l i n n):=by
 have e:rchE l i n true=chgE l i n n:=by
  unfold rchE chgE
  by_cases h1:(l.length:Int)<=i
  ·rw [ah h1,ah h1]
  ·have:=hat i.toNat (by omega)
   rw [ae h1,ae h1,ah rfl]
   by_cases h2:n=0
   ·rw [ah h2,ah h2]
   ·rw [ae h2,ae h2]
    by_cases h3:30<l.getD i.toNat 0+n
    ·rw [ah h3,ah h3]
    ·rw [ae h3,ae h3,ae (by omega)]
 refine ⟨e,fun h=>?_⟩
 rw [rchL,chgL,ah (by rw [e]; exact h),ah h,ah rfl]
theorem rch_f {l:List Int} {i n:Int} (hn:0<=n) (hat:∀ k,k<l.length->0<=l.getD k 0/\l.getD k 0<=30) (hi:0<=i):rchE l i n false=chgE l i n (-n)/\(chgE l i n (-n)=0->rchL l i n false=chgL l i n (-n)):=by
 have e:rchE l i n false=chgE l i n (-n):=by
  unfold rchE chgE
  by_cases h1:(l.length:Int)<=i
  ·rw [ah h1,ah h1]
  ·have:=hat i.toNat (by omega)
   rw [ae h1,ae h1]
   by_cases h2:n=0
   ·rw [ah h2,ah h2]
   ·rw [ae h2,ae h2,ae (show ¬(false=true) by decide),ae (show ¬30<l.getD i.toNat 0 + -n by omega)]
    by_cases h3:l.getD i.toNat 0<n
    ·rw [ah h3,ah (by omega)]
    ·rw [ae h3,ae (by omega)]
 refine ⟨e,fun h=>?_⟩
 rw [rchL,chgL,ah (by rw [e]; exact h),ah h,ae (by decide)]
 rfl
def kOf (n:ByteArray):Nat:=(smGet formsL n).1.toNat
structure ExP (x:RX) (n:ByteArray) (l:List Int):Prop where
 name:n=kName (kOf n)
 pre:DoPre (kOf n) l (rSt x)
 ls:rLs x=lst (rSt x)
def exeX (x:RX) (n:ByteArray) (l:List Int):RX:=mkR (doV (kOf n) l (rSt x)).2 (rLs x) (rLn x)
@[push_cast] def zXa:Con:=⟨[.obj rFs,.dat .str,.dat (.sl .int)],fun (x:RX×ByteArray×List Int×Unit)=>ExP x.1 x.2.1 x.2.2.1,
 fun (x:RX×ByteArray×List Int×Unit)=>{res:=[.val .int (doV (kOf x.2.1) x.2.2.1 (rSt x.1)).1],objs:=[(0,⟨rFs,exeX x.1 x.2.1 x.2.2.1⟩)]}⟩
theorem zVo {k:Nat} {l:List Int} {s:State} (hk:k<=6) (h:¬(doV k l s).1=0):(doV k l s).2=s:=by
 obtain ⟨c,a,b,w⟩:=s
 obtain rfl|rfl|rfl|rfl|rfl|rfl|rfl:k=0\/k=1\/k=2\/k=3\/k=4\/k=5\/k=6:=by omega
 ·show (c,chgL a (l.getD 0 0) (l.getD 1 0) (l.getD 1 0),b,w)=_
  rw [show chgL a (l.getD 0 0) (l.getD 1 0) (l.getD 1 0)=a from ae h]
 ·show (c,chgL a (l.getD 0 0) (l.getD 1 0) (-(l.getD 1 0)),b,w)=_
  rw [show chgL a (l.getD 0 0) (l.getD 1 0) (-(l.getD 1 0))=a from ae h]
 ·show (c,a,chgL b (l.getD 0 0) (l.getD 1 0) (l.getD 1 0),w)=_
  rw [show chgL b (l.getD 0 0) (l.getD 1 0) (l.getD 1 0)=b from ae h]
 ·show (c,a,chgL b (l.getD 0 0) (l.getD 1 0) (-(l.getD 1 0)),w)=_
  rw [show chgL b (l.getD 0 0) (l.getD 1 0) (-(l.getD 1 0))=b from ae h]
 ·rw [doV4] at h ⊢
  repeat' split
  all_goals first|rfl|(exfalso; apply h; simp only [*,if_true,if_false])
 ·rw [doV5] at h ⊢
  repeat' split
  all_goals first|rfl|(exfalso; apply h; simp only [*,if_true,if_false])
 ·rw [doV6]
  split<;>rfl
end Go.Proofs.YtekfodeknpnkbaaGreatDoor
namespace Go.Proofs.YtekfodeknpnkbaaGreatDoor
open Go.RowKit Go.VS
theorem zXN {k:Nat} (hk:k<=6):(kName k=pPut)=(k=0)/\(kName k=pTake)=(k=1)/\(kName k=pWant)=(k=2)/\(kName k=pDrop)=(k=3)/\(kName k=pCost)=(k=4)/\(kName k=zHP)=(k=5)/\(kName k=zHO)=(k=6):=by
 have h:∀ k,k<7->((kName k=pPut)↔(k=0))/\((kName k=pTake)↔(k=1))/\((kName k=pWant)↔(k=2))/\((kName k=pDrop)↔(k=3))/\((kName k=pCost)↔(k=4))/\((kName k=zHP)↔(k=5))/\((kName k=zHO)↔(k=6)):=by decide +kernel
 obtain ⟨q0,q1,q2,q3,q4,q5,q6⟩:=h k (by omega)
 exact ⟨propext q0,propext q1,propext q2,propext q3,propext q4,propext q5,propext q6⟩
set_option maxHeartbeats 8000000 in
theorem zTi:FnSpec Tryz.prog 59 zXa:=by
 refine FnSpec.of_tri' (E:=know _ [] [] []) (zAl (kc zSm (kc zPB all_nil)) all_nil all_nil) Tryz.func59 rfl rfl kr ?_
 intro C x hE hnl hfit hpre
 simp only [Tryz.ntmps59,Tryz.results59,maxLen,seval,push_cast] at hnl hfit hpre ⊢
 obtain ⟨⟨(c:List (List Int)),(a:List Int),(b:List Int),(w:Int),(ls:Int),(L:List Line),⟨⟩⟩,(nm:ByteArray),(l:List Int),_⟩:=x
 dsimp only at hfit hpre ⊢
 obtain ⟨hnm,hdp,hls⟩:=hpre
 have hls':ls=zBq a b c w:=hls
 have hst:rSt (c,a,b,w,ls,L,())=(c,a,b,w):=rfl
 rw [hst] at hdp
 obtain ⟨hk,hl,hn,ht,hla,hlb,ha,hbb⟩:=hdp
 dsimp only at hla hlb ha hbb ht
 obtain ⟨p0,p1,p2,p3,p4,p5,p6⟩:=pEqs
 obtain ⟨n0,n1,n2,n3,n4,n5,n6⟩:=zXN hk
 rw [<-hnm] at n0 n1 n2 n3 n4 n5 n6
 have hx:∀ k,kOf nm=k->exeX (c,a,b,w,ls,L,()) nm l=mkR (doV k l (c,a,b,w)).2 ls L:=fun k e=>by unfold exeX; rw [e]; rfl
 have hv:∀ k,kOf nm=k->(doV (kOf nm) l (rSt (c,a,b,w,ls,L,()))).1=(doV k l (c,a,b,w)).1:=fun k e=>by rw [e]; rfl
 have hn0:=hn 0
 have hn1:=hn 1
 have hrs:=ht.rows
 have hcs:=ht.cols
 have hnl0:=hnl
 replace hnl:=aa hnl (aa p0 (aa p1 (aa p2 (aa p3 (aa p4 (aa p5 (aa p6 (aa n0 (aa n1 (aa n2 (aa n3 (aa n4 (aa n5 n6)))))))))))))
 generalize hkk:kOf nm=k at hk hl n0 n1 n2 n3 n4 n5 n6 hnl hx hv ⊢
 obtain rfl|rfl|rfl|rfl|rfl|rfl|rfl:k=0\/k=1\/k=2\/k=3\/k=4\/k=5\/k=6:=by omega
 ·have hl':l.length=2:=hl
  have q0:=hn0 (by omega)
  have q1:=hn1 (by omega)
  obtain ⟨r1,r2⟩:=rch_t (l:=a) (i:=l.getD 0 0) (n:=l.getD 1 0) q1.1 ha q0.1
  have hp:RchPre a (l.getD 0 0) (l.getD 1 0):=⟨by omega,ha,by omega,by omega⟩
  have e:doV 0 l (c,a,b,w)=(chgE a (l.getD 0 0) (l.getD 1 0) (l.getD 1 0),c,chgL a (l.getD 0 0) (l.getD 1 0) (l.getD 1 0),b,w):=rfl
  rw [hx 0 rfl,e,mkR]
  dsimp only
  by_cases h0:chgE a (l.getD 0 0) (l.getD 1 0) (l.getD 1 0)=0
  ·replace r2:=r2 h0
   replace hnl:=aa hnl (aa (aG hp) (aa hl' (aa r1 (aa r2 (aa h0 (aa hst e))))))
   exact auB
  ·have r3:chgL a (l.getD 0 0) (l.getD 1 0) (l.getD 1 0)=a:=ae h0
   replace hnl:=aa hnl (aa (aG hp) (aa hl' (aa r1 (aa (aB h0) (aa r3 (aa hst e))))))
   exact auB
 ·have hl':l.length=2:=hl
  have q0:=hn0 (by omega)
  have q1:=hn1 (by omega)
  obtain ⟨r1,r2⟩:=rch_f (l:=a) (i:=l.getD 0 0) (n:=l.getD 1 0) q1.1 ha q0.1
  have hp:RchPre a (l.getD 0 0) (l.getD 1 0):=⟨by omega,ha,by omega,by omega⟩
  have e:doV 1 l (c,a,b,w)=(chgE a (l.getD 0 0) (l.getD 1 0) (-(l.getD 1 0)),c,chgL a (l.getD 0 0) (l.getD 1 0) (-(l.getD 1 0)),b,w):=rfl
  rw [hx 1 rfl,e,mkR]
  dsimp only
  by_cases h0:chgE a (l.getD 0 0) (l.getD 1 0) (-(l.getD 1 0))=0
  ·replace r2:=r2 h0
   replace hnl:=aa hnl (aa (aG hp) (aa hl' (aa r1 (aa r2 (aa h0 (aa hst e))))))
   exact auB
  ·have r3:chgL a (l.getD 0 0) (l.getD 1 0) (-(l.getD 1 0))=a:=ae h0
   replace hnl:=aa hnl (aa (aG hp) (aa hl' (aa r1 (aa (aB h0) (aa r3 (aa hst e))))))
   exact auB
 ·have hl':l.length=2:=hl
  have q0:=hn0 (by omega)
  have q1:=hn1 (by omega)
  obtain ⟨r1,r2⟩:=rch_t (l:=b) (i:=l.getD 0 0) (n:=l.getD 1 0) q1.1 hbb q0.1
  have hp:RchPre b (l.getD 0 0) (l.getD 1 0):=⟨by omega,hbb,by omega,by omega⟩
  have e:doV 2 l (c,a,b,w)=(chgE b (l.getD 0 0) (l.getD 1 0) (l.getD 1 0),c,a,chgL b (l.getD 0 0) (l.getD 1 0) (l.getD 1 0),w):=rfl
  rw [hx 2 rfl,e,mkR]
  dsimp only
  by_cases h0:chgE b (l.getD 0 0) (l.getD 1 0) (l.getD 1 0)=0
  ·replace r2:=r2 h0
   replace hnl:=aa hnl (aa (aG hp) (aa hl' (aa r1 (aa r2 (aa h0 (aa hst e))))))
   exact auB
  ·have r3:chgL b (l.getD 0 0) (l.getD 1 0) (l.getD 1 0)=b:=ae h0
   replace hnl:=aa hnl (aa (aG hp) (aa hl' (aa r1 (aa (aB h0) (aa r3 (aa hst e))))))
   exact auB
 ·have hl':l.length=2:=hl
  have q0:=hn0 (by omega)
  have q1:=hn1 (by omega)
  obtain ⟨r1,r2⟩:=rch_f (l:=b) (i:=l.getD 0 0) (n:=l.getD 1 0) q1.1 hbb q0.1
  have hp:RchPre b (l.getD 0 0) (l.getD 1 0):=⟨by omega,hbb,by omega,by omega⟩
  have e:doV 3 l (c,a,b,w)=(chgE b (l.getD 0 0) (l.getD 1 0) (-(l.getD 1 0)),c,a,chgL b (l.getD 0 0) (l.getD 1 0) (-(l.getD 1 0)),w):=rfl
  rw [hx 3 rfl,e,mkR]
  dsimp only
  by_cases h0:chgE b (l.getD 0 0) (l.getD 1 0) (-(l.getD 1 0))=0
  ·replace r2:=r2 h0
   replace hnl:=aa hnl (aa (aG hp) (aa hl' (aa r1 (aa r2 (aa h0 (aa hst e))))))
   exact auB
  ·have r3:chgL b (l.getD 0 0) (l.getD 1 0) (-(l.getD 1 0))=b:=ae h0
   replace hnl:=aa hnl (aa (aG hp) (aa hl' (aa r1 (aa (aB h0) (aa r3 (aa hst e))))))
   exact auB
 ·have hl':l.length=3:=hl
  have q0:=hn0 (by omega)
  have q1:=hn1 (by omega)
  have q2:=hn 2 (by omega)
  have hsm:Small c:=⟨by omega,fun r hr'=>by
   obtain ⟨i,hi,rfl⟩:=aN hr'
   have h:=ht.len hi
   have e:c.getD i []=c[i]:=by rw [ab,aj hi]; rfl
   rw [e] at h
   have h2:wid c<=5:=hcs.2
   omega⟩
  by_cases h1:(a.length:Int)<=l.getD 0 0\/(b.length:Int)<=l.getD 1 0
  ·have e:doV 4 l (c,a,b,w)=(4,(c,a,b,w)):=by rw [doV4,ah h1]
   rw [hx 4 rfl,e,mkR]
   dsimp only
   replace hnl:=aa hnl (aa hl' (aa hst e))
   exact auB
  by_cases h2:99<l.getD 2 0
  ·have e:doV 4 l (c,a,b,w)=(1,(c,a,b,w)):=by rw [doV4,ae h1,ah h2]
   rw [hx 4 rfl,e,mkR]
   dsimp only
   replace hnl:=aa hnl (aa hl' (aa hst e))
   exact auB
  have e:doV 4 l (c,a,b,w)=(0,(c.set (l.getD 0 0).toNat ((c.getD (l.getD 0 0).toNat []).set (l.getD 1 0).toNat (l.getD 2 0)),a,b,w)):=by rw [doV4,ae h1,ae h2]
  rw [hx 4 rfl,e,mkR]
  dsimp only
  have hrl:=ht.len (show (l.getD 0 0).toNat<c.length by omega)
  replace hnl:=aa hnl (aa hl' (aa hrl (aa (aG hsm) (aa hst e))))
  repeat' (first|(refine zAr (t:=AS.of [] [] [(0,.rcd [.val (.sl (.sl .int)) (c.set (l.getD 0 0).toNat ((c.getD (l.getD 0 0).toNat []).set (l.getD 1 0).toNat (l.getD 2 0))),.val (.sl .int) a,.val (.sl .int) b,.val .int w,.val .int ls,.val (.sl (.prod .str .int)) L])]) ?_ (Stop.h ?_); · refine zAf ?_ ?_ ?_<;>simp only [push_cast,seval,reduceCtorEq,cI])|(first|(refine goK (by assumption) ?_; iterate 4 (try clear hK K))|(refine zAb fun K hK=>?_)|((first|refine zAa hE rfl ?_|refine zAi ?_|((first|refine zAd hE 1 rfl rfl kr ?_|refine zAd hE 2 rfl rfl kr ?_|refine zAd hE 3 rfl rfl kr ?_|refine zAd hE 4 rfl rfl kr ?_); simp only [ao,List.length_nil,Nat.reduceAdd,Nat.reduceSub,ak,List.take_zero,al,ar])); simp +contextual only [hnl,↓kA,push_cast,seval,reduceCtorEq,cI])|refine zAc ?_|((first|refine zAg ?_|refine zAj ?_); simp only [thenQ,zAh,if_true,if_false,Nat.reduceEqDiff,reduceCtorEq])|(refine zAe (by rfl) (fun hb=>?_) (fun hb=>?_)<;>(try simp only [bq,reduceCtorEq] at hb)<;>(try omega))|refine zAF (by rfl) ?_ ?_|refine andS ?_|(refine ⟨fun hc=>?_,fun hc=>?_⟩)|(intro hc; try omega)))
  refine ⟨?_⟩
  exact auB
 ·have hl':l.length=1:=hl
  have q0:=hn0 (by omega)
  by_cases h1:99<l.getD 0 0
  ·have e:doV 5 l (c,a,b,w)=(1,(c,a,b,w)):=by rw [doV5,ah h1]
   rw [hx 5 rfl,e,mkR]
   dsimp only
   replace hnl:=aa hnl (aa hl' (aa hst e))
   exact auB
  ·have e:doV 5 l (c,a,b,w)=(0,(c,a,b,l.getD 0 0)):=by rw [doV5,ae h1]
   rw [hx 5 rfl,e,mkR]
   dsimp only
   replace hnl:=aa hnl (aa hl' (aa hst e))
   exact auB
 ·have hl':l.length=1:=hl
  have q0:=hn0 (by omega)
  subst hls'
  by_cases h1:zBq a b c w=l.getD 0 0
  ·have e:doV 6 l (c,a,b,w)=(0,(c,a,b,w)):=by rw [doV6,ah h1]
   rw [hx 6 rfl,e,mkR]
   dsimp only
   replace hnl:=aa hnl (aa hl' (aa hst (aa h1 e)))
   repeat' (first|(refine goK (by assumption) ?_; iterate 4 (try clear hK K))|(refine zAb fun K hK=>?_)|((first|refine zAa hE rfl ?_|refine zAi ?_|((first|refine zAd hE 1 rfl rfl kr ?_|refine zAd hE 2 rfl rfl kr ?_|refine zAd hE 3 rfl rfl kr ?_|refine zAd hE 4 rfl rfl kr ?_); simp only [ao,List.length_nil,Nat.reduceAdd,Nat.reduceSub,ak,List.take_zero,al,ar])); simp +contextual only [hnl,↓kA,push_cast,seval,reduceCtorEq,cI])|refine zAc ?_|(refine zAg ?_; simp only [thenQ,zAh,if_true,if_false,Nat.reduceEqDiff,reduceCtorEq])|(refine zAe (by rfl) (fun hb=>?_) (fun hb=>?_)<;>(try simp only [bq,reduceCtorEq] at hb)<;>(try omega))|fail)
   all_goals first|omega|rfl|(show _=(doV 6 l (c,a,b,w)).1; rw [e])
  ·have e:doV 6 l (c,a,b,w)=(7,(c,a,b,w)):=by rw [doV6,ae h1]
   rw [hx 6 rfl,e,mkR]
   dsimp only
   have h2:¬l.getD 0 0=zBq a b c w:=fun h=>h1 h.symm
   replace hnl:=aa hnl (aa hl' (aa hst (aa (aB h1) (aa (aB h2) e))))
   exact auB
end Go.Proofs.YtekfodeknpnkbaaGreatDoor
namespace Go.Proofs.YtekfodeknpnkbaaGreatDoor
open Go.RowKit Go.VS
@[push_cast] def zXX:Con:=⟨[.obj rFs,.dat .str],fun (x:RX×ByteArray×Unit)=>RInv x.1/\x.2.1.size<=100000,fun (x:RX×ByteArray×Unit)=>{res:=[.val .int (rdoE x.1 x.2.1)],objs:=[(0,⟨rFs,rdoX x.1 x.2.1⟩)]}⟩
set_option maxHeartbeats 8000000 in
theorem zUf:FnSpec Tryz.prog 19 zXX:=by
 refine FnSpec.of_tri' (E:=know _ [] [] [54]) (zAl (kc zM6 (kc zTi (kc zLm all_nil))) all_nil all_nil) Tryz.func19 rfl rfl kr ?_
 intro C x hE hnl hfit hpre
 simp only [Tryz.ntmps19,Tryz.results19,maxLen,seval,push_cast] at hnl hfit hpre ⊢
 obtain ⟨⟨(c:List (List Int)),(a:List Int),(b:List Int),(w:Int),(ls:Int),(L:List Line),⟨⟩⟩,(t:ByteArray),_⟩:=x
 dsimp only at hfit hpre ⊢
 obtain ⟨hri,hsz⟩:=hpre
 obtain ⟨hst,hls,hlen,hln⟩:=hri
 have hlen':L.length<=60:=hlen
 have hsz':t.size<=100000:=hsz
 have hem:({data:=#[]}:ByteArray)=ByteArray.empty:=rfl
 have hpq:=hp_eq t
 have hs0:rSt (c,a,b,w,ls,L,())=(c,a,b,w):=rfl
 by_cases hok:hpOK t=true
 rotate_left
 ·have eE:rdoE (c,a,b,w,ls,L,()) t=2:=ae hok
  have eX:rdoX (c,a,b,w,ls,L,()) t=(c,a,b,w,ls,L,()):=by rw [rdoX,eE]; rfl
  rw [cW] at hok
  rw [hok] at hpq
  rw [eE,eX]
  replace hnl:=aa hnl (aa hpq.symm hem)
  exact auA
 have hdp:=zNN hok hst
 obtain ⟨k6,kn⟩:=kname hok
 have hko:kOf (zAz t 0)=hkind t:=by
  rw [kn]
  have:∀ k,k<7->kOf (kName k)=k:=by decide +kernel
  exact this _ (by omega)
 have ha:=zTq hok
 rw [hok] at hpq
 have hex:ExP (c,a,b,w,ls,L,()) (zAz t 0) (zGL t):=⟨by rw [hko]; exact kn,by rw [hko,<-ha]; exact hdp,hls⟩
 by_cases h60:L.length=60
 ·have eE:rdoE (c,a,b,w,ls,L,()) t=3:=by unfold rdoE; rw [ah hok]; exact ah h60
  have eX:rdoX (c,a,b,w,ls,L,()) t=(c,a,b,w,ls,L,()):=by rw [rdoX,eE]; rfl
  rw [eE,eX]
  replace hnl:=aa hnl (aa hpq.symm (aa hem h60))
  exact auA
 have eE:rdoE (c,a,b,w,ls,L,()) t=(doV (hkind t) (hargs t) (c,a,b,w)).1:=by unfold rdoE; rw [ah hok]; exact ae h60
 have eE2:(doV (kOf (zAz t 0)) (zGL t) (rSt (c,a,b,w,ls,L,()))).1=(doV (hkind t) (hargs t) (c,a,b,w)).1:=by rw [hko,<-ha]; rfl
 by_cases h0:(doV (hkind t) (hargs t) (c,a,b,w)).1=0
 rotate_left
 ·have eX:rdoX (c,a,b,w,ls,L,()) t=(c,a,b,w,ls,L,()):=by unfold rdoX; rw [eE,ae h0]
  have eX2:exeX (c,a,b,w,ls,L,()) (zAz t 0) (zGL t)=(c,a,b,w,ls,L,()):=by
   unfold exeX
   rw [hko,<-ha,hs0,zVo k6 h0]
   rfl
  rw [eE,eX]
  replace hnl:=aa hnl (aa hpq.symm (aa hem (aa eE2 (aa eX2 (aa (aG hex) (aB h0))))))
  exact auA
 rw [h0] at eE2
 have eE3:rdoE (c,a,b,w,ls,L,()) t=0:=by rw [eE]; exact h0
 have eX:rdoX (c,a,b,w,ls,L,()) t=mkR (rdoS (c,a,b,w,ls,L,()) t) (lst (rdoS (c,a,b,w,ls,L,()) t)) (L++[(t,lst (rdoS (c,a,b,w,ls,L,()) t))]):=by unfold rdoX; rw [ah eE3]; rfl
 have eX2:exeX (c,a,b,w,ls,L,()) (zAz t 0) (zGL t)=mkR (rdoS (c,a,b,w,ls,L,()) t) ls L:=by
  unfold exeX rdoS
  rw [hko,<-ha]
  rfl
 rw [eE3,eX]
 generalize rdoS (c,a,b,w,ls,L,()) t=S at eX eX2 ⊢
 obtain ⟨c2,a2,b2,w2⟩:=S
 have eX3:exeX (c,a,b,w,ls,L,()) (zAz t 0) (zGL t)=(c2,a2,b2,w2,ls,L,()):=eX2
 have eL:lst (c2,a2,b2,w2)=zBq a2 b2 c2 w2:=rfl
 have eM:mkR (c2,a2,b2,w2) (lst (c2,a2,b2,w2)) (L++[(t,lst (c2,a2,b2,w2))])=(c2,a2,b2,w2,zBq a2 b2 c2 w2,L++[(t,zBq a2 b2 c2 w2)],()):=rfl
 rw [eM]
 have hnl0:=hnl
 replace hnl:=aa hnl (aa hpq.symm (aa hem (aa eE2 (aa eX3 (aG hex)))))
 repeat' (first|(refine goK (by assumption) ?_; iterate 4 (try clear hK K))|(refine zAb fun K hK=>?_)|(refine zAa hE rfl ?_; simp +contextual only [hnl,↓kA,push_cast,seval,reduceCtorEq,cI])|(refine zAg ?_; simp only [thenQ,zAh,if_true,if_false,Nat.reduceEqDiff,reduceCtorEq])|(refine zAe (by rfl) (fun hb=>?_) (fun hb=>?_)<;>(try simp only [bq,reduceCtorEq] at hb)<;>(try omega))|refine andS ?_|fail)
 refine zAr (t:=AS.of [(0,.one (.box 0)),(1,.one (.val .str t))] [] [(0,.rcd [.val (.sl (.sl .int)) c2,.val (.sl .int) a2,.val (.sl .int) b2,.val .int w2,.val .int ls,.val (.sl (.prod .str .int)) L])]) ?_ ?_
 ·refine zAf ?_ ?_ ?_<;>simp only [push_cast,seval,reduceCtorEq,cI]
  all_goals first|rfl|exact ⟨rfl,rfl⟩|trace_state
 replace hnl:=hnl0
 replace hpq:=hpq.symm
 refine zB8 hE (fun D s=>s.env 0=.one (.box 0) /\
  s.env 1=.one (.val .str t) /\
  s.boxes 0=some (.rcd [.val (.sl (.sl .int)) c2,.val (.sl .int) a2,.val (.sl .int) b2,.val .int w2,.val .int (bif D 23 then zBq a2 b2 c2 w2 else ls),.val (.sl (.prod .str .int)) L]) /\
  (D 0=true->s.env 31=.one (.box 0)) /\
  (D 1=true->s.env 32=.one (.box 0)) /\
  (D 2=true->s.env 33=.one (.box 0)) /\
  (D 3=true->s.env 34=.one (.boxf 0 6 1 1)) /\
  (D 4=true->s.env 35=.one (.val (.sl .int) a2)) /\
  (D 5=true->s.env 36=.one (.box 0)) /\
  (D 6=true->s.env 37=.one (.box 0)) /\
  (D 7=true->s.env 38=.one (.boxf 0 6 2 2)) /\
  (D 8=true->s.env 39=.one (.val (.sl .int) b2)) /\
  (D 9=true->s.env 40=.one (.box 0)) /\
  (D 10=true->s.env 41=.one (.box 0)) /\
  (D 11=true->s.env 42=.one (.boxf 0 6 0 0)) /\
  (D 12=true->s.env 43=.one (.val (.sl (.sl .int)) c2)) /\
  (D 13=true->s.env 44=.one (.box 0)) /\
  (D 14=true->s.env 45=.one (.box 0)) /\
  (D 15=true->s.env 46=.one (.boxf 0 6 3 3)) /\
  (D 16=true->s.env 47=.one (.val .int w2)) /\
  (D 17=true->s.env 48=.tup [.val .int (zBq a2 b2 c2 w2),.val .int (errWd a2 b2 c2 w2)]) /\
  (D 18=true->s.env 30=.tup [.val .int (zBq a2 b2 c2 w2),.val .int (errWd a2 b2 c2 w2)]) /\
  (D 19=true->s.env 49=.one (.val .int (zBq a2 b2 c2 w2))) /\
  (D 20=true->s.env 50=.one (.val .int (errWd a2 b2 c2 w2))) /\
  (D 21=true->s.env 51=.one (.box 0)) /\
  (D 22=true->s.env 52=.one (.boxf 0 6 4 4))) rfl kr ?_ ?_ ?_
 ·dsimp only
  simp only [cond_true,cond_false,push_cast,seval,reduceCtorEq,cI]
 ·iterate 24 refine tI ?_ fun D s h0 hp hI=>?_
  exact trivial
  all_goals obtain ⟨e0,e1,b0,f0,f1,f2,f3,f4,f5,f6,f7,f8,f9,f10,f11,f12,f13,f14,f15,f16,f17,f18,f19,f20,f21,f22⟩:=hI
  all_goals (try simp [preds,Region.binds] at hp)
  all_goals (simp +contextual only [*,setD,cond_true,cond_false,cF,bY,↓kN,↓kP,↓kG,push_cast,seval,reduceCtorEq,cI])
  all_goals first|omega|(refine aa ?_ ?_<;>omega)|rfl|skip
 intro D s hD hI
 obtain ⟨e0,e1,b0,f0,f1,f2,f3,f4,f5,f6,f7,f8,f9,f10,f11,f12,f13,f14,f15,f16,f17,f18,f19,f20,f21,f22⟩:=hI
 refine hK _ ?_
 refine zAr (t:=AS.of [(0,.one (.box 0)),(1,.one (.val .str t))] [] [(0,.rcd [.val (.sl (.sl .int)) c2,.val (.sl .int) a2,.val (.sl .int) b2,.val .int w2,.val .int (zBq a2 b2 c2 w2),.val (.sl (.prod .str .int)) L])]) ?_ ?_
 ·rw [hD 23 (by decide)] at b0
  refine zAf ?_ ?_ ?_<;>simp only [e0,e1,b0,cond_true,push_cast,seval,reduceCtorEq,cI]
  all_goals first|exact ⟨_,rfl⟩|skip
 clear hK hD e0 e1 b0 f0 f1 f2 f3 f4 f5 f6 f7 f8 f9 f10 f11 f12 f13 f14 f15 f16 f17 f18 f19 f20 f21 f22 s D
 generalize zBq a2 b2 c2 w2=n2
 repeat' (first|(refine zAb fun K hK=>?_)|fail)
 refine zB8 hE (fun D s=>(D 6=true->D 1=true) /\
  (D 14=true->D 6=true) /\
  (D 17=true->D 14=true) /\
  (D 14=true->D 1=true) /\
  (D 17=true->D 1=true) /\
  (D 17=true->D 6=true) /\
  (D 17=true->D 5=true) /\
  (D 17=true->D 11=true) /\
  s.env 0=.one (.box 0) /\
  s.env 1=.one (.val .str t) /\
  (D 17=false->s.boxes 0=some (.rcd [.val (.sl (.sl .int)) c2,.val (.sl .int) a2,.val (.sl .int) b2,.val .int w2,.val .int n2,.val (.sl (.prod .str .int)) L])) /\
  (D 17=true->s.boxes 0=some (.rcd [.val (.sl (.sl .int)) c2,.val (.sl .int) a2,.val (.sl .int) b2,.val .int w2,.val .int n2,.ref 54])) /\
  (D 1=true->D 6=false->s.env 54=.one (.ref 54)) /\
  (D 6=true->D 14=false->s.env 59=.one (.ref 54)) /\
  (D 14=true->s.env 67=.one (.ref 54)) /\
  (D 1=true->s.roots 54=some (.flat 61 (.prod .str .int) (bif D 14 then L++[(t,n2)] else bif D 6 then L else []))) /\
  (D 0=true->s.env 53=.one (.box 0)) /\
  (D 2=true->s.env 55=.one (.box 0)) /\
  (D 3=true->s.env 56=.one (.box 0)) /\
  (D 4=true->s.env 57=.one (.boxf 0 6 5 5)) /\
  (D 5=true->s.env 58=.one (.val (.sl (.prod .str .int)) L)) /\
  (D 7=true->s.env 60=.one (.val .str t)) /\
  (D 8=true->s.env 61=.one (.box 0)) /\
  (D 9=true->s.env 62=.one (.box 0)) /\
  (D 10=true->s.env 63=.one (.boxf 0 6 4 4)) /\
  (D 11=true->s.env 64=.one (.val .int n2)) /\
  (D 12=true->s.env 65=.one (.val (.prod .str .int) (t,n2))) /\
  (D 13=true->s.env 66=.one (.val (.sl (.prod .str .int)) [(t,n2)])) /\
  (D 15=true->s.env 68=.one (.box 0)) /\
  (D 16=true->s.env 69=.one (.boxf 0 6 5 5))) rfl kr ?_ ?_ ?_
 ·dsimp only
  simp only [cond_true,cond_false,push_cast,seval,reduceCtorEq,cI]
 ·iterate 18 refine tI ?_ fun D s h0 hp hI=>?_
  exact trivial
  all_goals obtain ⟨o0,o1,o2,o3,o4,o5,o6,o7,e0,e1,b0,b1,h1,h6,h14,r1,f0,f2,f3,f4,f5,f7,f8,f9,f10,f11,f12,f13,f15,f16⟩:=hI
  all_goals (try simp [preds,Region.binds] at hp)
  all_goals (try have n0:=zA2 o0 h0)
  all_goals (try have n1:=zA2 o1 h0)
  all_goals (try have n2:=zA2 o2 h0)
  all_goals (try have n3:=zA2 o3 h0)
  all_goals (try have n4:=zA2 o4 h0)
  all_goals (try have n5:=zA2 o5 h0)
  all_goals (try have n6:=zA2 o6 h0)
  all_goals (try have n7:=zA2 o7 h0)
  all_goals (simp +contextual only [*,setD,List.range_zero,bD,true_and,cond_true,cond_false,cF,bY,↓kN,↓kP,↓kG,push_cast,seval,reduceCtorEq,cI])
  all_goals first|omega|(refine aa ?_ ?_<;>omega)|rfl|skip
 intro D s hD hI
 obtain ⟨o0,o1,o2,o3,o4,o5,o6,o7,e0,e1,b0,b1,h1,h6,h14,r1,f0,f2,f3,f4,f5,f7,f8,f9,f10,f11,f12,f13,f15,f16⟩:=hI
 refine hK _ ?_
 refine zAr (t:=AS.of [] [] [(0,.rcd [.val (.sl (.sl .int)) c2,.val (.sl .int) a2,.val (.sl .int) b2,.val .int w2,.val .int n2,.val (.sl (.prod .str .int)) (L++[(t,n2)])])]) ?_ ?_
 ·have b2:=b1 (hD 17 (by decide))
  have r2:=r1 (hD 1 (by decide))
  rw [hD 14 (by decide)] at r2
  refine zAf ?_ ?_ ?_<;>simp only [b2,r2,cond_true,push_cast,seval,reduceCtorEq,cI]
  all_goals first|exact ⟨_,rfl⟩|skip
 clear hK
 exact auA
end Go.Proofs.YtekfodeknpnkbaaGreatDoor
namespace Go.Proofs.YtekfodeknpnkbaaGreatDoor
open Go.RowKit Go.VS
structure BothP (c:List (List Int)) (l:List ByteArray):Prop where
 c:zAH c=0
 l:∀ t∈l,t.size<=100000
@[push_cast] def zVe:Con:=⟨[.sdat (.sl (.sl .int)),.sdat (.sl .str)],fun (x:List (List Int)×List ByteArray×Unit)=>BothP x.1 x.2.1,fun (x:List (List Int)×List ByteArray×Unit) =>
 {res:=[.obj ⟨hFs,doAll (newH x.1) (x.2.1.take 30)⟩,.obj ⟨rFs,zHU (newR x.1) (x.2.1.take 30)⟩,.val .bool true]}⟩
set_option maxHeartbeats 8000000 in
theorem zQu:FnSpec Tryz.prog 21 zVe:=by
 refine FnSpec.of_tri' (E:=know _ [] [] []) (zAl (kc zIv (kc zNM (kc zUf all_nil))) all_nil all_nil) Tryz.func21 rfl rfl kr ?_
 intro C x hE hnl hfit hpre
 simp only [Tryz.ntmps21,Tryz.results21,maxLen,seval,push_cast] at hnl hfit hpre ⊢
 obtain ⟨(c:List (List Int)),(l:List ByteArray),_⟩:=x
 dsimp only at hfit hpre ⊢
 obtain ⟨hc,hls⟩:=hpre
 have hin:=zCa hc
 have hnl0:=hnl
 replace hnl:=aa hnl hc
 repeat' (first|(refine goK (by assumption) ?_; iterate 4 (try clear hK K))|(refine zAb fun K hK=>?_)|(refine zAa hE rfl ?_; simp +contextual only [hnl,↓kA,push_cast,seval,reduceCtorEq,cI])|refine zAc ?_|fail)
 refine zAk (fun (y:Nat×HX×RX)=>AS.of [(1,.one (.val (.sl .str) l)),(7,.one (.box 13)),(8,.one (.box 1013)),(9,.one (.val .bool true)),(10,.I y.1)] [] [(13,.rcd [.raw (.int .i32 0),.raw (.int .u32 0),.val (.sl (.sl .int)) y.2.1.2.2.1,.val (.sl (.sl .int)) y.2.1.2.2.2.1,.val (.sl .int) y.2.1.2.2.2.2.1,.val (.sl .int) y.2.1.2.2.2.2.2.1,.val .int y.2.1.2.2.2.2.2.2.1,.mk 13 9 .str y.2.1.2.2.2.2.2.2.2.1,.val .str y.2.1.2.2.2.2.2.2.2.2.1]),(1013,.rcd [.val (.sl (.sl .int)) y.2.2.1,.val (.sl .int) y.2.2.2.1,.val (.sl .int) y.2.2.2.2.1,.val .int y.2.2.2.2.2.1,.val .int y.2.2.2.2.2.2.1,.val (.sl (.prod .str .int)) y.2.2.2.2.2.2.2.1])]) (fun y=>(y.1<=l.length/\y.1<=30)/\HR y.2.1 y.2.2/\y.2.1=doAll (newH c) (l.take y.1)/\y.2.2=zHU (newR c) (l.take y.1)) (fun y=>30 - y.1) (0,newH c,newR c) ⟨⟨by omega,by omega⟩,HR.new hin,rfl,rfl⟩ ?_ ?_
 ·refine zAf ?_ ?_ ?_<;>simp only [push_cast,seval,reduceCtorEq,cI]
  all_goals first|rfl|exact ⟨rfl,rfl⟩
 rintro ⟨k,h,x⟩ ⟨⟨hk,hk2⟩,hr,eh,ex⟩ K' hL
 dsimp only at hk hk2 hr eh ex ⊢
 clear hc hin
 by_cases hlt:k<l.length/\k<30
 rotate_left
 ·have e1:l.take k=l.take 30:=by
   rcases ai k 30 with h5|h5
   ·rw [aS (by omega),aS (by omega)]
   ·rw [show k=30 by omega]
  rw [e1] at eh ex
  obtain ⟨⟨⟩,⟨⟩,(f:List (List Int)),(c:List (List Int)),(a:List Int),(b:List Int),(w:Int),(ord:List ByteArray),(bk:ByteArray),⟨⟩⟩:=h
  obtain ⟨(rc:List (List Int)),(ra:List Int),(rb:List Int),(rw:Int),(rn:Int),(rl:List Line),⟨⟩⟩:=x
  dsimp only
  replace hnl:=hnl0
  repeat' (first|(refine goK (by assumption) ?_; iterate 4 (try clear hK K))|(refine zAb fun K hK=>?_)|((first|refine zAa hE rfl ?_|refine zAi ?_); simp +contextual only [hnl,↓kA,push_cast,seval,reduceCtorEq,cI])|(refine zAj ?_; simp only [thenQ,zAh,if_true,if_false,Nat.reduceEqDiff,reduceCtorEq])|(refine zAe (by rfl) (fun hb=>?_) (fun hb=>?_)<;>(try simp only [bq,reduceCtorEq] at hb)<;>(try omega))|refine andS ?_|(refine ⟨fun hc=>?_,fun hc=>?_⟩)|(intro hc; try omega))
  all_goals (rw [<-eh,<-ex]; exact ⟨rfl,rfl⟩)
 have h1:=hr.hl.inv
 have h2:=hr.rinv
 have h3:(l.getD k ByteArray.empty).size<=100000:=hls _ (zA0 _ hlt.1)
 have hq:=hr.doE (l.getD k ByteArray.empty)
 have hr2:=hr.doX (l.getD k ByteArray.empty)
 have eh2:=zOS (newH c) l hlt.1
 have ex2:=zM0 (newR c) l hlt.1
 rw [<-eh] at eh2
 rw [<-ex] at ex2
 clear eh ex hls
 obtain ⟨e,he⟩:∃ e,doE h (l.getD k ByteArray.empty)=e:=⟨_,rfl⟩
 rw [he] at hq
 obtain ⟨⟨⟨⟩,⟨⟩,(f2:List (List Int)),(c2:List (List Int)),(a2:List Int),(b2:List Int),(w2:Int),(ord2:List ByteArray),(bk2:ByteArray),⟨⟩⟩,hh2⟩:∃ h2,doX h (l.getD k ByteArray.empty)=h2:=⟨_,rfl⟩
 obtain ⟨⟨(rc2:List (List Int)),(ra2:List Int),(rb2:List Int),(rw2:Int),(rn2:Int),(rl2:List Line),⟨⟩⟩,hx2⟩:∃ x2,rdoX x (l.getD k ByteArray.empty)=x2:=⟨_,rfl⟩
 rw [hh2] at hr2 eh2
 rw [hx2] at hr2 ex2
 obtain ⟨⟨⟩,⟨⟩,(f:List (List Int)),(c:List (List Int)),(a:List Int),(b:List Int),(w:Int),(ord:List ByteArray),(bk:ByteArray),⟨⟩⟩:=h
 obtain ⟨(rc:List (List Int)),(ra:List Int),(rb:List Int),(rw:Int),(rn:Int),(rl:List Line),⟨⟩⟩:=x
 dsimp only
 replace hnl:=aa hnl0 (aa (aG h1) (aa (aG h2) (aa he (aa hq (aa hh2 hx2)))))
 repeat' (first|(refine goK (by assumption) ?_; iterate 4 (try clear hK K))|(refine zAb fun K hK=>?_)|(refine zAa hE rfl ?_; simp +contextual only [hnl,↓kA,push_cast,seval,reduceCtorEq,cI])|refine zAc ?_|(refine zAg ?_; simp only [thenQ,zAh,if_true,if_false,Nat.reduceEqDiff,reduceCtorEq])|(refine zAe (by rfl) (fun hb=>?_) (fun hb=>?_)<;>(try simp only [bq,reduceCtorEq] at hb)<;>(try omega))|(refine ⟨fun hc=>?_,fun hc=>?_⟩)|fail)
 refine zB8 hE (fun D s=>s.env 1=.one (.val (.sl .str) l) /\
  s.env 7=.one (.box 13) /\
  s.env 8=.one (.box 1013) /\
  (D 13=false->s.env 9=.one (.val .bool true)) /\
  s.env 10=.I k /\
  (D 0=true->s.env 30=.one (.box 13)) /\
  (D 1=true->s.env 31=.one (.val (.sl .str) l)) /\
  (D 2=true->s.env 32=.I k) /\
  (D 3=true->s.env 33=.one (.padr .str (l.getD k ByteArray.empty))) /\
  (D 4=true->s.env 34=.one (.val .str (l.getD k ByteArray.empty))) /\
  (D 5=true->s.env 35=.one (.val .int e)) /\
  (D 6=true->s.env 36=.one (.box 1013)) /\
  (D 7=true->s.env 37=.one (.val (.sl .str) l)) /\
  (D 8=true->s.env 38=.I k) /\
  (D 9=true->s.env 39=.one (.padr .str (l.getD k ByteArray.empty))) /\
  (D 10=true->s.env 40=.one (.val .str (l.getD k ByteArray.empty))) /\
  (D 11=true->s.env 41=.one (.val .int e)) /\
  (D 12=true->s.env 42=.one (.val .bool true)) /\
  (D 13=true->s.env 9=.one (.val .bool true)) /\
  (D 5=false->s.boxes 13=some (.rcd [.raw (.int .i32 0),.raw (.int .u32 0),.val (.sl (.sl .int)) f,.val (.sl (.sl .int)) c,.val (.sl .int) a,.val (.sl .int) b,.val .int w,.mk 13 9 .str ord,.val .str bk])) /\
  (D 5=true->s.boxes 13=some (.rcd [.raw (.int .i32 0),.raw (.int .u32 0),.val (.sl (.sl .int)) f2,.val (.sl (.sl .int)) c2,.val (.sl .int) a2,.val (.sl .int) b2,.val .int w2,.mk 13 9 .str ord2,.val .str bk2])) /\
  (D 11=false->s.boxes 1013=some (.rcd [.val (.sl (.sl .int)) rc,.val (.sl .int) ra,.val (.sl .int) rb,.val .int rw,.val .int rn,.val (.sl (.prod .str .int)) rl])) /\
  (D 11=true->s.boxes 1013=some (.rcd [.val (.sl (.sl .int)) rc2,.val (.sl .int) ra2,.val (.sl .int) rb2,.val .int rw2,.val .int rn2,.val (.sl (.prod .str .int)) rl2]))) rfl kr ?_ ?_ ?_
 ·dsimp only
  simp only [push_cast,seval,reduceCtorEq,cI]
 ·iterate 14 refine tI ?_ fun D s h0 hp hI=>?_
  exact trivial
  all_goals obtain ⟨E1,E7,E8,E9,E10,F0,F1,F2,F3,F4,F5,F6,F7,F8,F9,F10,F11,F12,F13,B0,B1,C0,C1⟩:=hI
  all_goals (try simp [preds,Region.binds] at hp)
  all_goals (simp +contextual only [*,setD,↓kN,↓kP,↓kG,push_cast,seval,reduceCtorEq,cI])
  all_goals first|omega|(refine aa ?_ ?_<;>omega)|rfl|skip
 intro D s hD hI
 obtain ⟨E1,E7,E8,E9,E10,F0,F1,F2,F3,F4,F5,F6,F7,F8,F9,F10,F11,F12,F13,B0,B1,C0,C1⟩:=hI
 have v1:=B1 (hD 5 (by decide))
 have v2:=C1 (hD 11 (by decide))
 refine hK _ ?_
 refine zAr (t:=AS.of [(1,.one (.val (.sl .str) l)),(7,.one (.box 13)),(8,.one (.box 1013)),(9,.one (.val .bool true)),(10,.I k)] [] [(13,.rcd [.raw (.int .i32 0),.raw (.int .u32 0),.val (.sl (.sl .int)) f2,.val (.sl (.sl .int)) c2,.val (.sl .int) a2,.val (.sl .int) b2,.val .int w2,.mk 13 9 .str ord2,.val .str bk2]),(1013,.rcd [.val (.sl (.sl .int)) rc2,.val (.sl .int) ra2,.val (.sl .int) rb2,.val .int rw2,.val .int rn2,.val (.sl (.prod .str .int)) rl2])]) ?_ ?_
 ·have v3:=F13 (hD 13 (by decide))
  refine zAf ?_ ?_ ?_<;>simp only [E1,E7,E8,E10,v1,v2,v3,push_cast,seval,reduceCtorEq,cI]
  all_goals first|exact ⟨_,rfl⟩|skip
 clear hK
 repeat' (first|(refine zAa hE rfl ?_; simp +contextual only [hnl,↓kA,push_cast,seval,reduceCtorEq,cI])|refine andS ?_|fail)
 refine hL _ (k+1,((),(),f2,c2,a2,b2,w2,ord2,bk2,()),(rc2,ra2,rb2,rw2,rn2,rl2,())) ⟨⟨by omega,by omega⟩,hr2,eh2.symm,ex2.symm⟩ (by dsimp only; omega) ?_
 refine zAf ?_ ?_ ?_<;>simp only [push_cast,seval,reduceCtorEq,cI]
end Go.Proofs.YtekfodeknpnkbaaGreatDoor
namespace Go.Proofs.YtekfodeknpnkbaaGreatDoor
open Go.RowKit Go.VS Go.OT
def zMV (h:HX):List Int×List Int:=lpE (hSt h).2.1 (hSt h).2.2.1 (hSt h).1 (hSt h).2.2.2
@[push_cast] def zPt:Con:=⟨[.obj hFs],fun (x:HX×Unit)=>StateSz (hSt x.1),fun (x:HX×Unit)=>{res:=[.val (.prod (.sl .int) (.sl .int)) (zMV x.1)],objs:=[(0,⟨hFs,x.1⟩)]}⟩
theorem zLi:FnSpec Tryz.prog 38 zPt:=by
 refine FnSpec.of_tri' (E:=know _ [] [] []) (zAl (kc zES (kc zK2 all_nil)) all_nil all_nil) Tryz.func38 rfl rfl kr ?_
 intro C x hE hnl hfit hpre
 simp only [Tryz.ntmps38,Tryz.results38,maxLen,seval,push_cast] at hnl hfit hpre ⊢
 obtain ⟨⟨⟨⟩,⟨⟩,(f:List (List Int)),(c:List (List Int)),(a:List Int),(b:List Int),(w:Int),(ord:List ByteArray),(bk:ByteArray),⟨⟩⟩,_⟩:=x
 dsimp only at hfit hpre ⊢
 have hsz:StateSz (c,a,b,w):=hpre
 replace hnl:=aa hnl (aG hsz)
 simp only [hSt,hBk,lst,zMV,push_cast] at hnl ⊢
 repeat' (first|(refine goK (by assumption) ?_; iterate 4 (try clear hK K))|(refine zAb fun K hK=>?_)|((first|refine zAa hE rfl ?_|refine zAi ?_); simp +contextual only [hnl,↓kA,push_cast,seval,reduceCtorEq,cI])|(refine zAg ?_; simp only [thenQ,zAh,if_true,if_false,Nat.reduceEqDiff,reduceCtorEq])|(refine zAe (by rfl) (fun hb=>?_) (fun hb=>?_)<;>(try simp only [bq,reduceCtorEq] at hb)<;>(try omega))|refine andS ?_|fail)
 all_goals rfl
@[push_cast] def zRe:Con:=⟨[.obj hFs,.dat (.sl (.sl .int)),.dat (.prod (.sl .int) (.sl .int))],fun (x:HX×List (List Int)×zBp×Unit)=>StateSz (hSt x.1),
 fun (x:HX×List (List Int)×zBp×Unit)=>{res:=[.val .int (errBL (hSt x.1).2.1 (hSt x.1).2.2.1 (hSt x.1).1 (hSt x.1).2.2.2 x.2.1 x.2.2.1)],objs:=[(0,⟨hFs,x.1⟩)]}⟩
theorem zMD:FnSpec Tryz.prog 36 zRe:=by
 refine FnSpec.of_tri' (E:=know _ [] [] []) (zAl (kc zES (kc zPg all_nil)) all_nil all_nil) Tryz.func36 rfl rfl kr ?_
 intro C x hE hnl hfit hpre
 simp only [Tryz.ntmps36,Tryz.results36,maxLen,seval,push_cast] at hnl hfit hpre ⊢
 obtain ⟨⟨⟨⟩,⟨⟩,(f:List (List Int)),(c:List (List Int)),(a:List Int),(b:List Int),(w:Int),(ord:List ByteArray),(bk:ByteArray),⟨⟩⟩,(p:List (List Int)),⟨(u:List Int),(v:List Int)⟩,_⟩:=x
 dsimp only at hfit hpre ⊢
 have hsz:StateSz (c,a,b,w):=hpre
 replace hnl:=aa hnl (aG hsz)
 simp only [hSt,hBk,lst,push_cast] at hnl ⊢
 repeat' (first|(refine goK (by assumption) ?_; iterate 4 (try clear hK K))|(refine zAb fun K hK=>?_)|((first|refine zAa hE rfl ?_|refine zAi ?_); simp +contextual only [hnl,↓kA,push_cast,seval,reduceCtorEq,cI])|(refine zAg ?_; simp only [thenQ,zAh,if_true,if_false,Nat.reduceEqDiff,reduceCtorEq])|(refine zAe (by rfl) (fun hb=>?_) (fun hb=>?_)<;>(try simp only [bq,reduceCtorEq] at hb)<;>(try omega))|refine andS ?_|fail)
 all_goals rfl
theorem zT2 {s:State} (h:WOK s):errBL s.2.1 s.2.2.1 s.1 s.2.2.2 (zHo s.2.1 s.2.2.1 s.1 s.2.2.2) (lpE s.2.1 s.2.2.1 s.1 s.2.2.2)=0:=by
 have he:=h.wd
 obtain ⟨c,a,b,w⟩:=s
 dsimp only at he ⊢
 obtain ⟨hf,hw⟩:=zCn he
 obtain ⟨k1,k2⟩:=zON he
 obtain ⟨k3,k4⟩:=zTP hf hw
 have e2:zHo a b c w=stepP a b c (fewK a b c w):=ah he
 have e3:lpE a b c w=lpR a b c w:=ah he
 have e4:errLo a b (stepP a b c (fewK a b c w))=0:=by rw [errLC,ah he] at k1; exact k1
 have e5:costL a b c w (stepP a b c (fewK a b c w))=costV a b c w (stepP a b c (fewK a b c w)):=ah k1
 rw [e2,e3,errBL,ah he,ah e4,ah k3,ah]
 omega
end Go.Proofs.YtekfodeknpnkbaaGreatDoor
namespace Go.Proofs.YtekfodeknpnkbaaGreatDoor
open Go.RowKit Go.VS
@[push_cast] def zPc:Con:=⟨[.dat (.sl (.sl .int)),.dat (.sl .str),.dat (.prod (.sl (.sl .int)) (.prod (.sl .int) (.sl .int)))],fun _=>True,fun _=>{res:=[.val .bool true]}⟩
set_option maxHeartbeats 16000000 in
theorem zKR:FnSpec Tryz.prog 8 zPc:=by
 refine FnSpec.of_tri' (E:=know _ [] [] []) (zAl (kc zSS (kc zPp (kc zHB (kc zIv (kc zMw (kc zQu (kc zMD (kc zMY (kc zPs (kc zLi all_nil)))))))))) all_nil all_nil) Tryz.func8 rfl rfl kr ?_
 intro C x hE hnl hfit hpre
 simp only [Tryz.ntmps8,Tryz.results8,maxLen,seval,push_cast] at hnl hfit hpre ⊢
 obtain ⟨(q:List (List Int)),(l:List ByteArray),⟨(P:List (List Int)),(u:List Int),(v:List Int)⟩,_⟩:=x
 dsimp only at hfit hpre ⊢
 have hnl0:=hnl
 refine zAb fun K hK=>?_
 refine zAa hE rfl ?_
 simp +contextual only [hnl,↓kA,push_cast,seval,reduceCtorEq,cI]
 refine ⟨⟨_,_,rfl⟩,goK hK ?_⟩
 clear hK K
 refine zSK 5 5 (sh:=(.prod (.sl (.sl .int)) (.prod (.sl .int) (.sl .int)))) (x:=(P,u,v)) (by simp only [push_cast,seval,reduceCtorEq,cI]) (by simp only [push_cast,seval,reduceCtorEq,cI]) ?_
 by_cases hlg:zGJ l=true
 ·replace hnl:=aa hnl hlg
  exact auA
 rw [cW] at hlg
 have hls:∀ t∈l,t.size<=100000:=fun t ht=>by have:=(zPo hlg).2 t ht; omega
 by_cases he:zAH q=0
 rotate_left
 ·replace hnl:=aa hnl (aa hlg (aB he))
  exact auA
 have hin:=zCa he
 have hbp:BothP q l:=⟨he,hls⟩
 have hr:=(HR.new hin).all (l.take 30)
 obtain ⟨⟨⟨⟩,⟨⟩,(f:List (List Int)),(c:List (List Int)),(a:List Int),(b:List Int),(w:Int),(ord:List ByteArray),(bk:ByteArray),⟨⟩⟩,hh⟩:∃ h2,doAll (newH q) (l.take 30)=h2:=⟨_,rfl⟩
 obtain ⟨⟨(rc:List (List Int)),(ra:List Int),(rb:List Int),(rw:Int),(rn:Int),(rl:List Line),⟨⟩⟩,hx⟩:∃ x2,zHU (newR q) (l.take 30)=x2:=⟨_,rfl⟩
 rw [hh,hx] at hr
 have hS:hSt ((),(),f,c,a,b,w,ord,bk,())=(c,a,b,w):=rfl
 have hst:(rc,ra,rb,rw)=(c,a,b,w):=hr.st
 have hwk:=hr.hl.wok
 have hsz:=hr.hl.inv.st.sz
 rw [hS] at hwk hsz
 have hob:=zT2 hwk
 dsimp only at hob
 obtain ⟨rfl,rfl,rfl,rfl⟩:c=rc/\a=ra/\b=rb/\w=rw:=by simpa [eq_comm] using hst
 clear hst hwk hr hin
 obtain ⟨e,hde⟩:∃ e,errBL a b c w P (u,v)=e:=⟨_,rfl⟩
 obtain ⟨P2,hP2⟩:∃ x,zHo a b c w=x:=⟨_,rfl⟩
 obtain ⟨p2,hp2⟩:∃ x,lpE a b c w=x:=⟨_,rfl⟩
 rw [hP2,hp2] at hob
 have hP3:planX ((),(),f,c,a,b,w,ord,bk,())=P2:=hP2
 have hp3:zMV ((),(),f,c,a,b,w,ord,bk,())=p2:=hp2
 clear hP2 hp2
 replace hnl:=aa hnl (aa hlg (aa he (aa (aG hbp) (aa hh hx))))
 repeat' (first|(refine goK (by assumption) ?_; iterate 4 (try clear hK K))|(refine zAb fun K hK=>?_)|((first|refine zAa hE rfl ?_|refine zAi ?_); simp +contextual only [hnl,↓kA,push_cast,seval,reduceCtorEq,cI])|(refine zAg ?_; simp only [thenQ,zAh,if_true,if_false,Nat.reduceEqDiff,reduceCtorEq])|(refine zAe (by rfl) (fun hb=>?_) (fun hb=>?_)<;>(try simp only [bq,reduceCtorEq] at hb)<;>(try omega))|(refine ⟨fun hc=>?_,fun hc=>?_⟩)|fail)
 refine zAr (t:=AS.of [(5,.one (.padr (.prod (.sl (.sl .int)) (.prod (.sl .int) (.sl .int))) (P,u,v))),(10,.one (.box 54)),(11,.one (.box 1054))] [] [(54,.rcd [.raw (.int .i32 0),.raw (.int .u32 0),.val (.sl (.sl .int)) f,.val (.sl (.sl .int)) c,.val (.sl .int) a,.val (.sl .int) b,.val .int w,.mk 54 9 .str ord,.val .str bk]),(1054,.rcd [.val (.sl (.sl .int)) c,.val (.sl .int) a,.val (.sl .int) b,.val .int w,.val .int rn,.val (.sl (.prod .str .int)) rl])]) ?_ ?_
 ·refine zAf ?_ ?_ ?_<;>simp only [push_cast,seval,reduceCtorEq,cI]
  all_goals first|rfl|exact ⟨rfl,rfl⟩|exact ⟨rfl,rfl,rfl⟩|trace_state
 replace hnl:=aa hnl0 (aa hS (aa (aG hsz) hde))
 clear hlg hls he hbp hh hx
 refine zB8 hE (fun D s=>s.env 5=.one (.padr (.prod (.sl (.sl .int)) (.prod (.sl .int) (.sl .int))) (P,u,v)) /\
  s.env 10=.one (.box 54) /\
  s.env 11=.one (.box 1054) /\
  s.boxes 54=some (.rcd [.raw (.int .i32 0),.raw (.int .u32 0),.val (.sl (.sl .int)) f,.val (.sl (.sl .int)) c,.val (.sl .int) a,.val (.sl .int) b,.val .int w,.mk 54 9 .str ord,.val .str bk]) /\
  s.boxes 1054=some (.rcd [.val (.sl (.sl .int)) c,.val (.sl .int) a,.val (.sl .int) b,.val .int w,.val .int rn,.val (.sl (.prod .str .int)) rl]) /\
  (D 0=true->s.env 60=.one (.box 54)) /\
  (D 1=true->s.env 61=.one (.padr (.sl (.sl .int)) P)) /\
  (D 2=true->s.env 62=.one (.val (.sl (.sl .int)) P)) /\
  (D 3=true->s.env 63=.one (.padr (.prod (.sl .int) (.sl .int)) (u,v))) /\
  (D 4=true->s.env 64=.one (.val (.prod (.sl .int) (.sl .int)) (u,v))) /\
  (D 5=true->s.env 65=.one (.val .int e)) /\
  (D 6=true->s.env 66=.one (.box 1054)) /\
  (D 7=true->s.env 67=.one (.box 1054)) /\
  (D 8=true->s.env 68=.one (.boxf 1054 6 1 1)) /\
  (D 9=true->s.env 69=.one (.val (.sl .int) a)) /\
  (D 10=true->s.env 70=.one (.box 1054)) /\
  (D 11=true->s.env 71=.one (.box 1054)) /\
  (D 12=true->s.env 72=.one (.boxf 1054 6 2 2)) /\
  (D 13=true->s.env 73=.one (.val (.sl .int) b)) /\
  (D 14=true->s.env 74=.one (.box 1054)) /\
  (D 15=true->s.env 75=.one (.box 1054)) /\
  (D 16=true->s.env 76=.one (.boxf 1054 6 0 0)) /\
  (D 17=true->s.env 77=.one (.val (.sl (.sl .int)) c)) /\
  (D 18=true->s.env 78=.one (.box 1054)) /\
  (D 19=true->s.env 79=.one (.box 1054)) /\
  (D 20=true->s.env 80=.one (.boxf 1054 6 3 3)) /\
  (D 21=true->s.env 81=.one (.val .int w)) /\
  (D 22=true->s.env 82=.one (.padr (.sl (.sl .int)) P)) /\
  (D 23=true->s.env 83=.one (.val (.sl (.sl .int)) P)) /\
  (D 24=true->s.env 84=.one (.padr (.prod (.sl .int) (.sl .int)) (u,v))) /\
  (D 25=true->s.env 85=.one (.val (.prod (.sl .int) (.sl .int)) (u,v))) /\
  (D 26=true->s.env 86=.one (.val .int e)) /\
  (D 27=true->s.env 87=.one (.val .bool false))) rfl kr ?_ ?_ ?_
 ·dsimp only
  simp only [push_cast,seval,reduceCtorEq,cI]
 ·iterate 28 refine tI ?_ fun D s h0 hp hI=>?_
  exact trivial
  all_goals obtain ⟨E5,E10,E11,B54,B1,F0,F1,F2,F3,F4,F5,F6,F7,F8,F9,F10,F11,F12,F13,F14,F15,F16,F17,F18,F19,F20,F21,F22,F23,F24,F25,F26,F27⟩:=hI
  all_goals (try simp [preds,Region.binds] at hp)
  all_goals (simp +contextual only [*,setD,↓kN,↓kP,↓kG,push_cast,seval,reduceCtorEq,cI])
  all_goals first|omega|(refine aa ?_ ?_<;>omega)|rfl|skip
 intro D s hD hI
 obtain ⟨E5,E10,E11,B54,B1,F0,F1,F2,F3,F4,F5,F6,F7,F8,F9,F10,F11,F12,F13,F14,F15,F16,F17,F18,F19,F20,F21,F22,F23,F24,F25,F26,F27⟩:=hI
 have v1:=F27 (hD 27 (by decide))
 refine hK _ ?_
 refine zAr (t:=AS.of [(10,.one (.box 54)),(11,.one (.box 1054)),(87,.one (.val .bool false))] [] [(54,.rcd [.raw (.int .i32 0),.raw (.int .u32 0),.val (.sl (.sl .int)) f,.val (.sl (.sl .int)) c,.val (.sl .int) a,.val (.sl .int) b,.val .int w,.mk 54 9 .str ord,.val .str bk]),(1054,.rcd [.val (.sl (.sl .int)) c,.val (.sl .int) a,.val (.sl .int) b,.val .int w,.val .int rn,.val (.sl (.prod .str .int)) rl])]) ?_ ?_
 ·refine zAf ?_ ?_ ?_<;>simp only [v1,E10,E11,B54,B1,push_cast,seval,reduceCtorEq,cI]
  all_goals first|exact ⟨_,rfl⟩|skip
 clear hK
 replace hnl:=aa hnl0 (aa hS (aa (aG hsz) (aa hP3 hp3)))
 repeat' (first|(refine goK (by assumption) ?_; iterate 4 (try clear hK K))|(refine zAb fun K hK=>?_)|(refine zAa hE rfl ?_; simp +contextual only [hnl,↓kA,push_cast,seval,reduceCtorEq,cI])|(refine zAg ?_; simp only [thenQ,zAh,if_true,if_false,Nat.reduceEqDiff,reduceCtorEq])|(refine zAe (by rfl) (fun hb=>?_) (fun hb=>?_)<;>(try simp only [bq,reduceCtorEq] at hb)<;>(try omega))|fail)
 refine zAr (t:=AS.of [(10,.one (.box 54)),(11,.one (.box 1054)),(13,.one (.val (.sl (.sl .int)) P2)),(14,.one (.box 14))] [] [(14,.one (.val (.prod (.sl .int) (.sl .int)) p2)),(54,.rcd [.raw (.int .i32 0),.raw (.int .u32 0),.val (.sl (.sl .int)) f,.val (.sl (.sl .int)) c,.val (.sl .int) a,.val (.sl .int) b,.val .int w,.mk 54 9 .str ord,.val .str bk]),(1054,.rcd [.val (.sl (.sl .int)) c,.val (.sl .int) a,.val (.sl .int) b,.val .int w,.val .int rn,.val (.sl (.prod .str .int)) rl])]) ?_ ?_
 ·refine zAf ?_ ?_ ?_<;>simp only [push_cast,seval,reduceCtorEq,cI]
  all_goals first|rfl|exact ⟨rfl,rfl⟩|exact ⟨rfl,rfl,rfl⟩|trace_state
 replace hnl:=aa hnl0 (aa hS (aa (aG hsz) hob))
 clear hP3 hp3 hde
 refine zB8 hE (fun D s=>s.env 10=.one (.box 54) /\
  s.env 11=.one (.box 1054) /\
  s.env 13=.one (.val (.sl (.sl .int)) P2) /\
  s.env 14=.one (.box 14) /\
  s.boxes 14=some (.one (.val (.prod (.sl .int) (.sl .int)) p2)) /\
  s.boxes 54=some (.rcd [.raw (.int .i32 0),.raw (.int .u32 0),.val (.sl (.sl .int)) f,.val (.sl (.sl .int)) c,.val (.sl .int) a,.val (.sl .int) b,.val .int w,.mk 54 9 .str ord,.val .str bk]) /\
  s.boxes 1054=some (.rcd [.val (.sl (.sl .int)) c,.val (.sl .int) a,.val (.sl .int) b,.val .int w,.val .int rn,.val (.sl (.prod .str .int)) rl]) /\
  (D 0=true->s.env 92=.one (.box 54)) /\
  (D 1=true->s.env 93=.one (.val (.sl (.sl .int)) P2)) /\
  (D 2=true->s.env 94=.one (.val (.prod (.sl .int) (.sl .int)) p2)) /\
  (D 3=true->s.env 95=.one (.val .int 0)) /\
  (D 4=true->s.env 96=.one (.val .bool true)) /\
  (D 5=true->s.env 97=.one (.val .bool true)) /\
  (D 6=true->s.env 98=.one (.box 1054)) /\
  (D 7=true->s.env 99=.one (.box 1054)) /\
  (D 8=true->s.env 100=.one (.boxf 1054 6 1 1)) /\
  (D 9=true->s.env 101=.one (.val (.sl .int) a)) /\
  (D 10=true->s.env 102=.one (.box 1054)) /\
  (D 11=true->s.env 103=.one (.box 1054)) /\
  (D 12=true->s.env 104=.one (.boxf 1054 6 2 2)) /\
  (D 13=true->s.env 105=.one (.val (.sl .int) b)) /\
  (D 14=true->s.env 106=.one (.box 1054)) /\
  (D 15=true->s.env 107=.one (.box 1054)) /\
  (D 16=true->s.env 108=.one (.boxf 1054 6 0 0)) /\
  (D 17=true->s.env 109=.one (.val (.sl (.sl .int)) c)) /\
  (D 18=true->s.env 110=.one (.box 1054)) /\
  (D 19=true->s.env 111=.one (.box 1054)) /\
  (D 20=true->s.env 112=.one (.boxf 1054 6 3 3)) /\
  (D 21=true->s.env 113=.one (.val .int w)) /\
  (D 22=true->s.env 114=.one (.val (.sl (.sl .int)) P2)) /\
  (D 23=true->s.env 115=.one (.val (.prod (.sl .int) (.sl .int)) p2)) /\
  (D 24=true->s.env 116=.one (.val .int 0)) /\
  (D 25=true->s.env 117=.one (.val .bool true)) /\
  (D 26=true->s.env 118=.one (.val .bool true)) /\
  (D 27=true->s.env 119=.one (.val .bool true)) /\
  (D 28=true->s.env 120=.one (.val .bool true)) /\
  (D 29=true->s.env 121=.one (.val .bool true)) /\
  (D 30=true->s.env 6=.one (.val .bool true))) rfl kr ?_ ?_ ?_
 ·dsimp only
  simp only [push_cast,seval,reduceCtorEq,cI]
 ·iterate 31 refine tI ?_ fun D s h0 hp hI=>?_
  exact trivial
  all_goals obtain ⟨E10,E11,E13,E14,B14,B54,B1,F0,F1,F2,F3,F4,F5,F6,F7,F8,F9,F10,F11,F12,F13,F14,F15,F16,F17,F18,F19,F20,F21,F22,F23,F24,F25,F26,F27,F28,F29,F30⟩:=hI
  all_goals (try simp [preds,Region.binds] at hp)
  all_goals (simp +contextual only [*,setD,↓kN,↓kP,↓kG,push_cast,seval,reduceCtorEq,cI])
  all_goals first|omega|(refine aa ?_ ?_<;>omega)|rfl|skip
 intro D s hD hI
 obtain ⟨E10,E11,E13,E14,B14,B54,B1,F0,F1,F2,F3,F4,F5,F6,F7,F8,F9,F10,F11,F12,F13,F14,F15,F16,F17,F18,F19,F20,F21,F22,F23,F24,F25,F26,F27,F28,F29,F30⟩:=hI
 have v1:=F30 (hD 30 (by decide))
 refine hK _ ?_
 refine zAr (t:=AS.of [(6,.one (.val .bool true))] [] []) ?_ ?_
 ·refine zAf ?_ ?_ ?_<;>simp only [v1,push_cast,seval,reduceCtorEq,cI]
  all_goals first|exact ⟨_,rfl⟩|skip
 clear hK
 replace hnl:=hnl0
 exact auA
end Go.Proofs.YtekfodeknpnkbaaGreatDoor
