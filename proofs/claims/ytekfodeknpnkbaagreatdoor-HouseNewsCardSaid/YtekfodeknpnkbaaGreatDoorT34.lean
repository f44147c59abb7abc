import Derived.Test.YtekfodeknpnkbaaGreatDoorT14
import Derived.Test.YtekfodeknpnkbaaGreatDoorT15
import Derived.Test.YtekfodeknpnkbaaGreatDoorT31
import Derived.Tactics2
import Derived.Laws.CopyOwn
import Derived.Laws.Bits64b
import Derived.WalkKit
set_option linter.unusedSimpArgs false
set_option linter.unusedVariables false
namespace Go.Proofs.YtekfodeknpnkbaaGreatDoor
open Go.RowKit Go.VS
def okPic (l:List Int) (n:Int):Bool:=decide (1≤l.length∧l.length≤40) && l.all fun c=>decide (0≤c∧c<n∧c<5)
def cntV (c:Int) (l:List Int):Int:=(l.count c:Nat)
def palV (l:List Int) (n:Nat):List Int:=tbl n fun c=>cntV (c:Int) l
@[push_cast] def zYz:Con:=⟨[.dat .int,.ptr .int],fun _=>True,fun (x:Int×Int×Unit)=>{res:=[.val .bool (decide (x.1<0) || decide (min x.2.1 5≤x.1))]}⟩
@[push_cast] def yAq:Con:=⟨[.dat (.sl .int),.dat .int],fun _=>True,fun (x:List Int×Int×Unit)=>{res:=[.val .bool (okPic x.1 x.2.1)]}⟩
structure PalPre (l:List Int) (n:Int):Prop where
 num:0≤n∧n≤1000
 len:l.length≤1000
 at':∀ c∈l,0≤c∧c<n
@[push_cast] def yAo:Con:=⟨[.dat (.sl .int),.dat .int],fun (x:List Int×Int×Unit)=>PalPre x.1 x.2.1,fun (x:List Int×Int×Unit)=>{res:=[.own (.flat 3 .int (palV x.1 x.2.1.toNat))]}⟩
theorem zYA:FnSpec Tryz.prog 136 zYz:=by
 refine FnSpec.of_tri' (E:=know [] [] [] []) (zAl all_nil all_nil all_nil) Tryz.func136 rfl rfl (by kernel_rfl) ?_
 intro C x hE hnl hfit hpre
 simp only [Tryz.ntmps136,Tryz.results136,maxLen,seval,push_cast] at hnl hfit hpre ⊢
 obtain ⟨(c:Int),(n:Int),_⟩:=x
 dsimp only at hfit hpre ⊢
 repeat' (first|(refine goK (by assumption) ?_; iterate 4 (try clear hK K))|(refine zAb fun K hK=>?_)|((first|refine zAa hE rfl ?_|refine zAi ?_); simp +contextual only [hnl,↓kA,push_cast,seval,reduceCtorEq,cI])|(refine ⟨fun hc=>?_,fun hc=>?_⟩)|fail)
 all_goals first|omega|(simp only [decide_eq_decide]; omega)|(simp only [hc,decide_true,decide_false,Bool.true_or,Bool.false_or]; done)|(simp; done)|(simp; omega)|(simp [*]; done)|(simp [*]; omega)
theorem zUg:CloSpec Tryz.prog 136 zUh:=CloSpec.of zYA
theorem zT0 {l:List Int} {n:Int} (h:1≤l.length∧l.length≤40):(!l.any fun y=>decide (y<0) || decide (min n 5≤y))=okPic l n:=by
 unfold okPic
 rw [decide_eq_true h,Bool.true_and]
 induction l with
 | nil=>rfl
 | cons x l ih =>
  clear ih h
  generalize x::l=l
  induction l with
  | nil=>rfl
  | cons x l ih =>
   rw [List.any_cons,List.all_cons,Bool.not_or,ih]
   congr 1
   by_cases h1:x<0
   ·have h2:¬(0≤x∧x<n∧x<5):=by omega
    rw [decide_eq_true h1,decide_eq_false h2]; rfl
   ·by_cases h3:min n 5≤x
    ·have h2:¬(0≤x∧x<n∧x<5):=by omega
     rw [decide_eq_false h1,decide_eq_true h3,decide_eq_false h2]; rfl
    ·have h2:0≤x∧x<n∧x<5:=by omega
     rw [decide_eq_false h1,decide_eq_false h3,decide_eq_true h2]; rfl
theorem zT2 {l:List Int} {n:Int} (h:¬(1≤l.length∧l.length≤40)):okPic l n=false:=by
 unfold okPic
 rw [decide_eq_false h]; rfl
theorem zT1 {l:List Int} {n:Int}:okPic l n=true↔(1≤l.length∧l.length≤40)∧∀ c∈l,0≤c∧c<n∧c<5:=by
 simp only [okPic,Bool.and_eq_true,decide_eq_true_eq,List.all_eq_true]
theorem zWs:FnSpec Tryz.prog 91 yAq:=by
 refine FnSpec.of_tri' (E:=know [(133,zCS)] [(136,zUh)] [] []) (zAl (all_cons zCD all_nil) (all_cons zUg all_nil) all_nil) Tryz.func91 rfl rfl (by kernel_rfl) ?_
 intro C x hE hnl hfit hpre
 simp only [Tryz.ntmps91,Tryz.results91,maxLen,seval,push_cast] at hnl hfit hpre ⊢
 obtain ⟨(l:List Int),(n:Int),_⟩:=x
 dsimp only at hfit hpre ⊢
 repeat' (first|(refine goK (by assumption) ?_; iterate 4 (try clear hK K))|(refine zAb fun K hK=>?_)|((first|refine zAa hE rfl ?_|refine zAi ?_); simp +contextual only [hnl,↓kA,push_cast,seval,reduceCtorEq,cI])|(refine ⟨fun hc=>?_,fun hc=>?_⟩)|fail)
 all_goals first
  | exact zT0 (by omega)
  | exact (zT2 (by omega)).symm
theorem zIr (c:Int) {l:List Int} {k:Nat} (h:k<l.length):cntV c (l.take (k+1))=cntV c (l.take k)+if l.getD k 0=c then 1 else 0:=by
 unfold cntV
 rw [List.take_succ_eq_append_getElem h,List.count_append]
 rw [List.getD_eq_getElem?_getD,List.getElem?_eq_getElem h,Option.getD_some]
 simp only [List.count_singleton,beq_iff_eq]
 split<;>simp
theorem zNT (c:Int) (l:List Int):0≤cntV c l∧cntV c l≤l.length:=by
 unfold cntV
 have:=List.count_le_length (a:=c) (l:=l)
 omega
theorem zUa {l:List Int} {n k:Nat} (h:k<l.length) (hc:0≤l.getD k 0) :
 (palV (l.take k) n).set (l.getD k 0).toNat ((palV (l.take k) n).getD (l.getD k 0).toNat 0+1)=palV (l.take (k+1)) n:=by
 unfold palV
 rw [zFz]
 refine zAD fun i hi=>?_
 rw [zIr _ h]
 split
 ·rename_i e
  rw [←e,zBu _ _ hi,if_pos (by omega)]
 ·rename_i e
  rw [if_neg (by omega),Int.add_zero]
theorem zMK:FnSpec Tryz.prog 92 yAo:=by
 refine FnSpec.of_tri' (E:=know [] [] [] []) (zAl all_nil all_nil all_nil) Tryz.func92 rfl rfl (by kernel_rfl) ?_
 intro C x hE hnl hfit hpre
 simp only [Tryz.ntmps92,Tryz.results92,maxLen,seval,push_cast] at hnl hfit hpre ⊢
 obtain ⟨(l:List Int),(n:Int),_⟩:=x
 dsimp only at hfit hpre ⊢
 obtain ⟨⟨hn0,hn1⟩,hl,hat⟩:=hpre
 obtain ⟨m,rfl⟩:∃ m:Nat,n=m:=⟨n.toNat,by omega⟩
 repeat' (first|(refine goK (by assumption) ?_; iterate 4 (try clear hK K))|(refine zAb fun K hK=>?_)|(refine zAa hE rfl ?_; simp +contextual only [hnl,↓kA,push_cast,seval,reduceCtorEq,cI])|refine zAd ?_|refine andS ?_|fail)
 refine zAk (fun k:Nat=>AS.of [(0,.one (.val (.sl .int) l)),(5,.one (.ref 9)),(10,.one (.val (.sl .int) l)),(11,.I l.length),(12,.I k)] [(9,.flat 3 .int (palV (l.take k) m))] []) (fun k=>k≤l.length) (fun k=>l.length - k) 0 (Nat.zero_le _) ?_ ?_
 ·refine zAf ?_ ?_ ?_<;>simp only [push_cast,seval,reduceCtorEq,cI]
  simp [palV,cntV,zG1]
 intro k hk K' hL
 by_cases hkl:k<l.length
 ·have h1:=hat _ (zAJ 0 hkl)
  have h2:(l.getD k 0).toNat<m:=by omega
  have h3:(palV (l.take k) m).getD (l.getD k 0).toNat 0=cntV (l.getD k 0) (l.take k):=by
   unfold palV
   rw [zBu _ _ h2,Int.toNat_of_nonneg h1.1]
  have h4:=zNT (l.getD k 0) (l.take k)
  have h5:(l.take k).length≤1000:=by rw [List.length_take]; omega
  have h6:=zUa (n:=m) hkl h1.1
  have h7:(palV (l.take k) m).length=m:=zAZ _ _
  replace hnl:=And.intro hnl h7
  repeat' (first|(refine goK (by assumption) ?_; iterate 4 (try clear hK K))|(refine zAb fun K hK=>?_)|(refine zAa hE rfl ?_; simp +contextual only [hnl,↓kA,push_cast,seval,reduceCtorEq,cI])|refine zAd ?_|(refine zAg ?_; simp only [thenQ,zAh,if_true,if_false,Nat.reduceEqDiff,reduceCtorEq])|(refine zAe (by rfl) (fun hb=>?_) (fun hb=>?_)<;>(try simp only [bq,reduceCtorEq] at hb)<;>(try omega))|refine andS ?_|fail)
  refine hL _ (k+1) (by omega) (by omega) ?_
  refine zAf ?_ ?_ ?_<;>simp only [push_cast,seval,reduceCtorEq,cI]
  exact .inl (congrArg _ h6)
 ·obtain rfl:k=l.length:=by omega
  rw [List.take_length]
  exact auB
end Go.Proofs.YtekfodeknpnkbaaGreatDoor
namespace Go.Proofs.YtekfodeknpnkbaaGreatDoor
open Go.RowKit Go.VS
structure RepPre (l:List Int) (n:Int):Prop where
 len:l.length=1
 num:0≤n∧n≤1000
@[push_cast] def yAt:Con:=⟨[.dat (.sl .int),.dat .int],fun (x:List Int×Int×Unit)=>RepPre x.1 x.2.1,fun (x:List Int×Int×Unit)=>{res:=[.val (.sl .int) (List.replicate x.2.1.toNat (x.1.getD 0 0))]}⟩
theorem zOG:FnSpec Tryz.prog 93 yAt:=by
 refine ⟨⟨_,Tryz.func93,by kernel_rfl,rfl⟩,fun C γ x vs hpre hen=>?_⟩
 have hargs:=hen.args
 have hlt:=hen.ownlt
 obtain ⟨(l:List Int),(n:Int),_⟩:=x
 obtain ⟨hl,hn0,hn1⟩:=hpre
 dsimp only at hl hn0 hn1
 obtain ⟨v,rfl⟩:∃ v,l=[v]:=by
  match l,hl with
  | [v],_=>exact ⟨v,rfl⟩
 obtain ⟨k,rfl⟩:∃ k:Nat,n=k:=⟨n.toNat,by omega⟩
 obtain ⟨v0,_,rfl,h0,v1,_,rfl,h1,rfl⟩:=hargs
 obtain ⟨cs,⟨ad,cap,rfl,hc,hm,hall⟩,hv0⟩:=h0
 obtain ⟨b,off,c,rfl,hz,hbb,hp,hcell⟩:=hall 0 (by simp)
 have hp':c=[.int .i64 v]:=hp
 subst hp'
 have hcl:C.w0.cell? ⟨b,off,none⟩=some (.int .i64 v):=by simpa using hcell 0 _ rfl
 have e0:v0=.slice (some ⟨b,off,none⟩) 1 cap:=hv0
 have e1:v1=.int .i64 (k:Int):=zAH h1
 subst e0 e1
 show Calls _ _ #[.slice (some ⟨b,off,none⟩) 1 cap,.int .i64 (k:Int)] C.w0 _
 refine (zHS v k (by omega) C.w0 b off cap hcl hbb).mono ?_
 rintro e w2 ⟨rfl,hheap,hbel⟩
 refine ⟨_,γ,rfl,⟨⟨[],[],[_],rfl,⟨_,[],rfl,?_,rfl,rfl,rfl⟩,List.nodup_nil,List.nodup_nil⟩,fun p hp=>(by cases hp),fun p hp=>(by cases hp),fun b l hb=>Nat.lt_of_lt_of_le (hlt b l hb) hbel.size⟩,⟨hbel.os,hbel.tape,hbel.output,hbel.size,fun b hb _=>hbel.block b hb⟩⟩
 have hfm:(List.replicate k v).flatMap (Sh.int).cells=List.replicate k (Value.int .i64 v):=by rw [List.flatMap_replicate]; simp [Sh.cells]
 have hlt2:=(Array.getElem?_eq_some_iff.1 hheap).1
 have hno:γ.own C.w0.heap.size=none:=by
  cases ho:γ.own C.w0.heap.size with
  | none=>rfl
  | some l=>have:=hlt _ l ho; omega
 refine ⟨[.slice (some ⟨C.w0.heap.size,0,none⟩) k k],zBk (e:=3) (sh:=.int) rfl ?_ (fun g hg=>?_),rfl⟩
 ·show w2.ownsRow 0 _ 1 _ (List.replicate (Int.toNat (k:Int)) v).length ((List.replicate (Int.toNat (k:Int)) v).flatMap (Sh.int).cells)
  rw [Int.toNat_natCast,hfm,List.length_replicate]
  exact ⟨by simp,.inr ⟨C.w0.heap.size,k,_,rfl,Nat.zero_le _,hheap,Nat.le_refl _,by unfold maxLen; omega,by simp,by simp⟩⟩
 ·simp only [Value.ownBlock,Option.some.injEq] at hg
  subst hg
  exact ⟨.inr (.inl (Nat.le_refl _)),hno⟩
end Go.Proofs.YtekfodeknpnkbaaGreatDoor
namespace Go.Proofs.YtekfodeknpnkbaaGreatDoor
open Go.RowKit Go.VS
def sprK (r:List Int) (k:Nat):List Int:=(List.range k).flatMap fun j=>List.replicate (r.getD j 0).toNat (j:Int)
def spr (r:List Int):List Int:=sprK r r.length
theorem zUJ (r:List Int):sprK r 0=[]:=rfl
theorem zNd (r:List Int) (k:Nat):sprK r (k+1)=sprK r k++List.replicate (r.getD k 0).toNat (k:Int):=by
 simp [sprK,List.range_succ]
theorem zLD {r:List Int} (h:∀ x∈r,0≤x):∀ {k:Nat},k≤r.length→((sprK r k).length:Int)=lsum (r.take k)
 | 0,_=>by simp [zUJ,lsum]
 | k+1,hk=>by
  rw [zNd,zBH r k (by omega),List.length_append,List.length_replicate,←zLD h (k:=k) (by omega)]
  have:=h _ (zAJ 0 (show k<r.length by omega))
  omega
def pixV (l:List Int) (p:List (List Int)) (k:Nat):Int:=(spr (p.getD (l.getD k 0).toNat [])).getD (cntV (l.getD k 0) (l.take k)).toNat 0
def zT9 (l:List Int) (p:List (List Int)):List Int:=tbl l.length (pixV l p)
def restV (l:List Int) (p:List (List Int)) (k:Nat):List (List Int):=tbl p.length fun c=>(spr (p.getD c [])).drop (cntV (c:Int) (l.take k)).toNat
def colV (p:List (List Int)) (i j:Nat):List (List Int):=tbl p.length fun c=>if c<i then spr (p.getD c []) else if c=i then sprK (p.getD i []) j else []
def zCF (l:List Int) (p:List (List Int)):Int:=if zAW p=0 then if okPic l p.length=true then if rowsP p=palV l p.length then 0 else 5 else 1 else 1
@[push_cast] def zWq:Con:=⟨[.dat (.sl .int),.dat (.sl (.sl .int))],fun _=>True,fun (x:List Int×List (List Int)×Unit) =>
 {res:=[.own (.flat 3 .int (if zCF x.1 x.2.1=0 then zT9 x.1 x.2.1 else [])),.val .int (zCF x.1 x.2.1)]}⟩
section
variable {l:List Int} {p:List (List Int)} {i j k:Nat}
theorem zQH (h:zAW p=1):zCF l p=1:=by simp [zCF,h]
theorem zQI (h:zAW p=0) (h2:okPic l p.length=false):zCF l p=1:=by simp [zCF,h,h2]
theorem zQJ (h:zAW p=0) (h2:okPic l p.length=true) (h3:¬rowsP p=palV l p.length):zCF l p=5:=by simp [zCF,h,h2,h3]
theorem zQG (h:zAW p=0) (h2:okPic l p.length=true) (h3:rowsP p=palV l p.length):zCF l p=0:=by simp [zCF,h,h2,h3]
theorem zVm:(colV p i j).length=p.length:=zAZ _ _
theorem zXM (hi:i<p.length):(colV p i j).getD i []=sprK (p.getD i []) j:=by
 unfold colV
 rw [zBu _ _ hi,if_neg (Nat.lt_irrefl _),if_pos rfl]
theorem zSR:colV p 0 0=List.replicate p.length []:=by
 unfold colV
 rw [←zG1]
 refine zAD fun c hc=>?_
 rw [if_neg (Nat.not_lt_zero _)]
 split<;>rfl
theorem zVn (hi:i<p.length):(colV p i j).set i (sprK (p.getD i []) j++List.replicate ((p.getD i []).getD j 0).toNat (j:Int))=colV p i (j+1):=by
 unfold colV
 rw [zFz]
 refine zAD fun c hc=>?_
 by_cases h:c=i
 ·subst h
  rw [if_pos rfl,if_neg (Nat.lt_irrefl _),if_pos rfl,zNd]
 ·rw [if_neg h,if_neg h,if_neg h]
theorem zSQ (hi:i<p.length):colV p i (p.getD i []).length=colV p (i+1) 0:=by
 unfold colV
 refine zAD fun c hc=>?_
 by_cases h:c=i
 ·subst h
  rw [if_neg (Nat.lt_irrefl _),if_pos rfl,if_pos (Nat.lt_succ_self _)]; rfl
 ·by_cases h2:c<i
  ·rw [if_pos h2,if_pos (by omega)]
  ·rw [if_neg h2,if_neg h,if_neg (by omega)]
   split<;>rfl
theorem zRJ:colV p p.length 0=restV l p 0:=by
 unfold colV restV
 refine zAD fun c hc=>?_
 rw [if_pos hc]
 rfl
theorem zUx:(restV l p k).length=p.length:=zAZ _ _
theorem zWI (h:(l.getD k 0).toNat<p.length) (h0:0≤l.getD k 0):(restV l p k).getD (l.getD k 0).toNat []=(spr (p.getD (l.getD k 0).toNat [])).drop (cntV (l.getD k 0) (l.take k)).toNat:=by
 unfold restV
 rw [zBu _ _ h,Int.toNat_of_nonneg h0]
theorem zUy (hk:k<l.length) (h0:0≤l.getD k 0):(restV l p k).set (l.getD k 0).toNat (((spr (p.getD (l.getD k 0).toNat [])).drop (cntV (l.getD k 0) (l.take k)).toNat).drop 1)=restV l p (k+1):=by
 unfold restV
 rw [zFz]
 refine zAD fun c hc=>?_
 rw [zIr _ hk]
 have:=zNT (l.getD k 0) (l.take k)
 split
 ·rename_i e
  rw [e,if_pos (by omega),List.drop_drop,Int.toNat_of_nonneg h0]
  congr 1
 ·rename_i e
  rw [if_neg (by omega),Int.add_zero]
end
theorem zLZ (c:Int) (l:List Int) (k:Nat):cntV c (l.take k)≤cntV c l:=by
 unfold cntV
 have:(l.take k).count c≤l.count c:=List.Sublist.count_le _ (List.take_sublist k l)
 omega
theorem zYP {p:List (List Int)} (hin:InPlan p) {i:Nat} (hi:i<p.length):((spr (p.getD i [])).length:Int)=lsum (p.getD i []):=by
 have h:=zLD (r:=p.getD i []) (fun x hx=>by
  obtain ⟨k,hk,rfl⟩:=List.getElem_of_mem hx
  have:=hin.at hi (show k<wid p by rw [←hin.row hi]; exact hk)
  rw [List.getD_eq_getElem?_getD (l:=p.getD i []),List.getElem?_eq_getElem hk] at this
  exact this.1) (Nat.le_refl _)
 rw [List.take_length] at h
 exact h
theorem zYN {l:List Int} {p:List (List Int)} (h:rowsP p=palV l p.length) {i:Nat} (hi:i<p.length):lsum (p.getD i [])=cntV (i:Int) l:=by
 have h1:=congrArg (fun x=>x.getD i 0) h
 simp only [palV,zBu _ _ hi] at h1
 rw [←h1,rowsP,List.getD_eq_getElem?_getD,List.getD_eq_getElem?_getD,List.getElem?_map,List.getElem?_eq_getElem hi]
 rfl
set_option maxRecDepth 10000 in
theorem zRs:FnSpec Tryz.prog 47 zWq:=by
 refine FnSpec.of_tri' (E:=know _ [] [] []) (zAl (kc zI4 (kc zWs (kc zLM (kc zMK (kc zG8 (kc zOG all_nil)))))) all_nil all_nil) Tryz.func47 rfl rfl (by kernel_rfl) ?_
 intro C x hE hnl hfit hpre
 simp only [Tryz.ntmps47,Tryz.results47,maxLen,seval,push_cast] at hnl hfit hpre ⊢
 obtain ⟨(l:List Int),(p:List (List Int)),_⟩:=x
 dsimp only at hfit hpre ⊢
 rcases zFI p with he|he
 rotate_left
 ·replace hnl:=And.intro hnl (And.intro he (zQH (l:=l) he))
  exact auB
 have hin:=zEk he
 cases hpi:okPic l p.length with
 | false =>
  replace hnl:=And.intro hnl (And.intro he (And.intro hpi (zQI he hpi)))
  exact auB
 | true =>
 obtain ⟨⟨g1,g2⟩,g3⟩:=zT1.1 hpi
 have hp:PalPre l p.length:=⟨by have:=hin.rows; omega,by omega,fun c hc=>by have:=g3 c hc; omega⟩
 by_cases hrw:rowsP p=palV l p.length
 rotate_left
 ·replace hnl:=And.intro hnl (And.intro he (And.intro hpi (And.intro (zQJ he hpi hrw) (And.intro (eq_true hp) (eq_false hrw)))))
  exact auB
 have hz:=zQG he hpi hrw
 have hrows:=hin.rows
 have hcols:=hin.cols
 replace hnl:=And.intro hnl (And.intro he (And.intro hpi (And.intro hz (And.intro (eq_true hp) (eq_true hrw)))))
 repeat' (first|(refine goK (by assumption) ?_; iterate 4 (try clear hK K))|(refine zAb fun K hK=>?_)|(refine zAa hE rfl ?_; simp +contextual only [hnl,↓kA,push_cast,seval,reduceCtorEq,cI])|refine zAd ?_|(refine zAg ?_; simp only [thenQ,zAh,if_true,if_false,Nat.reduceEqDiff,reduceCtorEq])|(refine zAe (by rfl) (fun hb=>?_) (fun hb=>?_)<;>(try simp only [bq,reduceCtorEq] at hb)<;>(try omega))|refine andS ?_|fail)
 refine zAk (fun i:Nat=>AS.of [(0,.one (.val (.sl .int) l)),(10,.one (.ref 43)),(44,.one (.val (.sl (.sl .int)) p)),(45,.I p.length),(46,.I i)] [(43,.deep 38 3 .int (colV p i 0))] []) (fun i=>i≤p.length) (fun i=>p.length - i) 0 (Nat.zero_le _) ?_ ?_
 ·refine zAf ?_ ?_ ?_<;>simp only [push_cast,seval,reduceCtorEq,cI]
  exact .inl (by rw [zSR])
 intro i hi K' hL
 by_cases hil:i<p.length
 ·have hw:=hin.row hil
  have hat:=fun j (hj:j<(p.getD i []).length)=>hin.at hil (show j<wid p by omega)
  repeat' (first|(refine goK (by assumption) ?_; iterate 4 (try clear hK K))|(refine zAb fun K hK=>?_)|(refine zAa hE rfl ?_; simp +contextual only [hnl,↓kA,push_cast,seval,reduceCtorEq,cI])|refine zAd ?_|(refine zAg ?_; simp only [thenQ,zAh,if_true,if_false,Nat.reduceEqDiff,reduceCtorEq])|(refine zAe (by rfl) (fun hb=>?_) (fun hb=>?_)<;>(try simp only [bq,reduceCtorEq] at hb)<;>(try omega))|refine andS ?_|fail)
  refine zAk (fun j:Nat=>AS.of [(0,.one (.val (.sl .int) l)),(10,.one (.ref 43)),(11,.I i),(44,.one (.val (.sl (.sl .int)) p)),(45,.I p.length),(46,.I i),(51,.one (.val (.sl .int) (p.getD i []))),(52,.I (p.getD i []).length),(53,.I j)] [(43,.deep 38 3 .int (colV p i j))] []) (fun j=>j≤(p.getD i []).length) (fun j=>(p.getD i []).length - j) 0 (Nat.zero_le _) ?_ ?_
  ·refine zAf ?_ ?_ ?_<;>simp only [push_cast,seval,reduceCtorEq,cI]
  intro j hj K'' hL2
  by_cases hjl:j<(p.getD i []).length
  ·have h1:=hat j hjl
   have hr:RepPre [(j:Int)] ((p.getD i []).getD j 0):=⟨rfl,by omega⟩
   have h2:(colV p i j).length=p.length:=zVm
   have h3:=zXM (p:=p) (j:=j) hil
   replace hnl:=And.intro hnl (And.intro h2 (And.intro h3 (eq_true hr)))
   have h4:=hin.sumR hil j
   have h5:((sprK (p.getD i []) j).length:Int)=lsum ((p.getD i []).take j):=zLD (fun x hx=>by obtain ⟨k,hk,rfl⟩:=List.getElem_of_mem hx; have:=hat k hk; rw [List.getD_eq_getElem?_getD,List.getElem?_eq_getElem hk] at this; exact this.1) hj
   have h6:=zVn (p:=p) (j:=j) hil
   repeat' (first|(refine zEU hE 3 [0,1] rfl (by decide +kernel) ?_; simp only [List.length_cons,List.length_nil,Nat.reduceAdd,Nat.reduceSub,List.take_succ_cons,List.take_zero,List.drop_succ_cons,List.drop_zero,pickM,headM,List.filterMap_cons,List.filterMap_nil,List.getElem?_cons_zero,List.getElem?_cons_succ,List.contains_cons,List.contains_nil,Nat.reduceBEq,Bool.or_false,Bool.false_or,Bool.true_or,Bool.or_true,if_true,Bool.false_eq_true,if_false,List.cons_append,List.nil_append]; simp +contextual only [hnl,↓kA,push_cast,seval,reduceCtorEq,cI])|(first|(refine goK (by assumption) ?_; iterate 4 (try clear hK K))|(refine zAb fun K hK=>?_)|((first|refine zAa hE rfl ?_|refine zAi ?_|((first|refine zAc hE 1 rfl rfl (by kernel_rfl) ?_|refine zAc hE 2 rfl rfl (by kernel_rfl) ?_|refine zAc hE 3 rfl rfl (by kernel_rfl) ?_|refine zAc hE 4 rfl rfl (by kernel_rfl) ?_); simp only [List.length_cons,List.length_nil,Nat.reduceAdd,Nat.reduceSub,List.take_succ_cons,List.take_zero,List.drop_succ_cons,List.drop_zero])); simp +contextual only [hnl,↓kA,push_cast,seval,reduceCtorEq,cI])|refine zAd ?_|((first|refine zAg ?_|refine zAj ?_); simp only [thenQ,zAh,if_true,if_false,Nat.reduceEqDiff,reduceCtorEq])|(refine zAe (by rfl) (fun hb=>?_) (fun hb=>?_)<;>(try simp only [bq,reduceCtorEq] at hb)<;>(try omega))|refine zAr (by rfl) ?_ ?_|refine andS ?_|(refine ⟨fun hc=>?_,fun hc=>?_⟩)|(intro hc; try omega)))
   refine ⟨⟨hil,by omega,by rw [List.length_replicate]; omega⟩,?_⟩
   repeat' (first|(refine goK (by assumption) ?_; iterate 4 (try clear hK K))|(refine zAa hE rfl ?_; simp +contextual only [hnl,↓kA,push_cast,seval,reduceCtorEq,cI])|refine andS ?_|fail)
   refine hL2 _ (j+1) (by omega) (by omega) ?_
   refine zAf ?_ ?_ ?_<;>simp only [push_cast,seval,reduceCtorEq,cI]
   exact .inl (by rw [h6])
  ·obtain rfl:j=(p.getD i []).length:=by omega
   rw [zSQ hil]
   repeat' (first|(refine goK (by assumption) ?_; iterate 4 (try clear hK K))|(refine zAb fun K hK=>?_)|(refine zAa hE rfl ?_; simp +contextual only [hnl,↓kA,push_cast,seval,reduceCtorEq,cI])|(refine zAj ?_; simp only [thenQ,zAh,if_true,if_false,Nat.reduceEqDiff,reduceCtorEq])|(refine zAe (by rfl) (fun hb=>?_) (fun hb=>?_)<;>(try simp only [bq,reduceCtorEq] at hb)<;>(try omega))|refine andS ?_|fail)
   refine hL _ (i+1) (by omega) (by omega) ?_
   refine zAf ?_ ?_ ?_<;>simp only [push_cast,seval,reduceCtorEq,cI]
 ·obtain rfl:i=p.length:=by omega
  rw [zRJ (l:=l)]
  repeat' (first|(refine goK (by assumption) ?_; iterate 4 (try clear hK K))|(refine zAb fun K hK=>?_)|(refine zAa hE rfl ?_; simp +contextual only [hnl,↓kA,push_cast,seval,reduceCtorEq,cI])|refine zAd ?_|(refine zAj ?_; simp only [thenQ,zAh,if_true,if_false,Nat.reduceEqDiff,reduceCtorEq])|(refine zAe (by rfl) (fun hb=>?_) (fun hb=>?_)<;>(try simp only [bq,reduceCtorEq] at hb)<;>(try omega))|fail)
  refine zYU (r:=43) (by simp only [push_cast,seval,reduceCtorEq,cI]; rfl) ?_
  refine zAk (fun k:Nat=>AS.of [(10,.one (.ref 43)),(15,.one (.ref 86)),(72,.one (.val (.sl .int) l)),(73,.I l.length),(74,.I k)] [(43,.rags 38 .int (restV l p k)),(86,.flat 3 .int (tbl k (pixV l p)))] []) (fun k=>k≤l.length) (fun k=>l.length - k) 0 (Nat.zero_le _) ?_ ?_
  ·refine zAf ?_ ?_ ?_<;>simp only [push_cast,seval,reduceCtorEq,cI]
   first|omega|exact ⟨by omega,rfl⟩
  intro k hk K' hL
  by_cases hkl:k<l.length
  ·have h1:=g3 _ (zAJ 0 hkl)
   have h2:(l.getD k 0).toNat<p.length:=by omega
   have h3:=zWI (l:=l) (p:=p) h2 h1.1
   have h4:=zUy (l:=l) (p:=p) hkl h1.1
   have h5:(restV l p k).length=p.length:=zUx
   have h6:((spr (p.getD (l.getD k 0).toNat [])).length:Int)=lsum (p.getD (l.getD k 0).toNat []):=zYP hin h2
   have h7:cntV (l.getD k 0) (l.take k)+1≤lsum (p.getD (l.getD k 0).toNat []):=by
    rw [zYN hrw h2,Int.toNat_of_nonneg h1.1]
    have e1:=zIr (l.getD k 0) hkl
    rw [if_pos rfl] at e1
    have e2:=zLZ (l.getD k 0) l (k+1)
    omega
   have h8:((spr (p.getD (l.getD k 0).toNat [])).drop (cntV (l.getD k 0) (l.take k)).toNat).getD 0 0=pixV l p k:=by
    unfold pixV
    rw [List.getD_eq_getElem?_getD,List.getElem?_drop,Nat.add_zero,←List.getD_eq_getElem?_getD]
   have h9:((spr (p.getD (l.getD k 0).toNat [])).drop (cntV (l.getD k 0) (l.take k)).toNat).length=(spr (p.getD (l.getD k 0).toNat [])).length - (cntV (l.getD k 0) (l.take k)).toNat:=List.length_drop
   have h10:=zNT (l.getD k 0) (l.take k)
   have h11:(tbl k (pixV l p)).length=k:=zAZ _ _
   replace hnl:=And.intro hnl (And.intro h3 (And.intro h5 (And.intro h8 (And.intro h9 h11))))
   repeat' (first|(refine goK (by assumption) ?_; iterate 4 (try clear hK K))|(refine zAb fun K hK=>?_)|(refine zAa hE rfl ?_; simp +contextual only [hnl,↓kA,push_cast,seval,reduceCtorEq,cI])|refine zAd ?_|(refine zAg ?_; simp only [thenQ,zAh,if_true,if_false,Nat.reduceEqDiff,reduceCtorEq])|(refine zAe (by rfl) (fun hb=>?_) (fun hb=>?_)<;>(try simp only [bq,reduceCtorEq] at hb)<;>(try omega))|refine andS ?_|fail)
   refine hL _ (k+1) (by omega) (by omega) ?_
   refine zAf ?_ ?_ ?_<;>simp only [push_cast,seval,reduceCtorEq,cI]
   exact ⟨.inl (by rw [h4]),.inl (by rw [zD9])⟩
  ·obtain rfl:k=l.length:=by omega
   repeat' (first|(refine goK (by assumption) ?_; iterate 4 (try clear hK K))|(refine zAb fun K hK=>?_)|((first|refine zAa hE rfl ?_|refine zAi ?_); simp +contextual only [hnl,↓kA,push_cast,seval,reduceCtorEq,cI])|(refine zAj ?_; simp only [thenQ,zAh,if_true,if_false,Nat.reduceEqDiff,reduceCtorEq])|(refine zAe (by rfl) (fun hb=>?_) (fun hb=>?_)<;>(try simp only [bq,reduceCtorEq] at hb)<;>(try omega))|fail)
   rfl
end Go.Proofs.YtekfodeknpnkbaaGreatDoor
