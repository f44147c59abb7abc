import Derived.Test.YtekfodeknpnkbaaGreatDoorT10
import Derived.Test.YtekfodeknpnkbaaGreatDoorT11
import Derived.Test.YtekfodeknpnkbaaGreatDoorT22
import Derived.Test.YtekfodeknpnkbaaGreatDoorT28
import Derived.Tactics2
import Derived.Laws.CopyOwn
import Derived.Laws.Bits64b
import Derived.WalkKit
set_option linter.unusedSimpArgs false
set_option linter.unusedVariables false
namespace Go.Proofs.YtekfodeknpnkbaaGreatDoor
open Go.RowKit Go.VS Go.OT
@[push_cast] def zVk:Con:=⟨[.dat (.sl .int),.dat (.sl .int),.dat (.sl (.sl .int))],fun (x:List Int×List Int×List (List Int)×Unit)=>MC x.1 x.2.1 x.2.2.1,
 fun (x:List Int×List Int×List (List Int)×Unit)=>{res:=[.own (.deep 38 3 .int (cheapV x.1 x.2.1 x.2.2.1))]}⟩
structure ItI (a b:List Int) (c:List (List Int)) (y:Nat×List (List Int)×Bool):Prop where
 go:y.2.2=true→iterV a b c y.1 y.2.1=cheapV a b c∧∃ V,Way2 a b c y.2.1 V∧sumL a - units a.length b.length (gt y.2.1)<y.1
 stop:y.2.2=false→y.2.1=cheapV a b c
theorem zQz:FnSpec Tryz.prog 132 zVk:=by
 refine FnSpec.of_tri' (E:=know _ [] [] []) (zAl (kc zJN (kc zMB all_nil)) all_nil all_nil) Tryz.func132 rfl rfl (by kernel_rfl) ?_
 intro C x hE hnl hfit hpre
 simp only [Tryz.ntmps132,Tryz.results132,maxLen,seval,push_cast] at hnl hfit hpre ⊢
 obtain ⟨(a:List Int),(b:List Int),(c:List (List Int)),_⟩:=x
 dsimp only at hfit hpre ⊢
 have ha5:=hpre.a5
 have hb5:=hpre.b5
 repeat' (first|(refine goK (by assumption) ?_; iterate 4 (try clear hK K))|(refine zAb fun K hK=>?_)|(refine zAa hE rfl ?_; simp +contextual only [hnl,↓kA,push_cast,seval,reduceCtorEq,cI])|refine zAd ?_|refine andS ?_|fail)
 refine zAk (fun y:Nat×List (List Int)×Bool=>AS.of [(0,.one (.val (.sl .int) a)),(1,.one (.val (.sl .int) b)),(2,.one (.val (.sl (.sl .int)) c)),(7,.one (.ref 11)),(8,.one (.val .bool y.2.2))] [(11,.deep 38 3 .int y.2.1)] [])
  (ItI a b c) (fun y=>2*y.1+if y.2.2=true then 1 else 0) ((sumL a).toNat+1,zDJ a b,true) ⟨fun _=>⟨rfl,0,hpre.start,by rw [zC3,zHu]; dsimp only; omega⟩,fun h=>Bool.noConfusion h⟩ ?_ ?_
 ·refine zAf ?_ ?_ ?_<;>simp only [push_cast,seval,reduceCtorEq,cI]
  exact .inl rfl
 intro y hI K' hL
 obtain ⟨n,p,more⟩:=y
 cases more with
 | false =>
  have hp:=hI.stop rfl
  dsimp only at hp ⊢
  subst hp
  exact auA
 | true =>
  obtain ⟨h1,V,h2,h3⟩:=hI.go rfl
  dsimp only at h1 h2 h3 ⊢
  have hends:(nextP a b c p).isSome=true:=by
   by_cases hb:bestV a b c p<0
   ·rw [(zFP hpre.hc h2 hb).1]; rfl
   ·obtain ⟨p',h4,_⟩:=zEp hpre.hc h2 hb
    rw [h4]; rfl
  have hpre2:NextPre a b c (.deep 38 3 .int p):=⟨by rw [zDz],by rw [zDz]; exact h2.shp,hpre.hc,by rw [zDz]; exact hends⟩
  repeat' (first|(refine goK (by assumption) ?_; iterate 4 (try clear hK K))|(refine zAb fun K hK=>?_)|(refine zAa hE rfl ?_; simp +contextual only [hnl,↓kA,push_cast,seval,reduceCtorEq,cI])|refine zAd ?_|(refine zAg ?_; simp only [thenQ,zAh,if_true,if_false,Nat.reduceEqDiff,reduceCtorEq])|(refine zAe (by rfl) (fun hb=>?_) (fun hb=>?_)<;>(try simp only [bq,reduceCtorEq] at hb)<;>(try omega))|refine andS ?_|fail)
  have hu:=h2.part.units_le
  obtain ⟨m,rfl⟩:∃ m,n=m+1:=⟨n - 1,by omega⟩
  by_cases hb0:bestV a b c p<0
  ·obtain ⟨e1,_,_⟩:=zFP hpre.hc h2 hb0
   have e2:p=cheapV a b c:=by
    rw [←h1]
    exact (if_pos hb0).symm
   refine hL _ (m+1,p,false) ⟨fun h=>Bool.noConfusion h,fun _=>e2⟩ (by simp) ?_
   refine zAf ?_ ?_ ?_<;>simp only [push_cast,seval,reduceCtorEq,cI]
   ·first|omega|exact Int.not_le.2 hb0|exact hb0
   ·rw [e1]
    exact .inl rfl
  ·obtain ⟨p',e1,e2,e3,e4,e5,e6,e7⟩:=zEp hpre.hc h2 hb0
   have e8:iterV a b c m p'=cheapV a b c:=by
    rw [←h1]
    show _=(if _ then _ else _)
    rw [if_neg hb0,e1]
    rfl
   refine hL _ (m,p',true) ⟨fun _=>⟨e8,_,e2,by dsimp only; omega⟩,fun h=>Bool.noConfusion h⟩ (by dsimp only; omega) ?_
   refine zAf ?_ ?_ ?_<;>simp only [push_cast,seval,reduceCtorEq,cI]
   ·omega
   ·rw [e1]
    exact .inl rfl
end Go.Proofs.YtekfodeknpnkbaaGreatDoor
namespace Go.Proofs.YtekfodeknpnkbaaGreatDoor
open Go.RowKit Go.VS
def HoldP (c:List (List Int)) (p:zA3):Prop:=∀ i,i<c.length→∀ j,j<wid c→p.1.getD i 0+p.2.getD j 0≤(c.getD i []).getD j 0
instance (c:List (List Int)) (p:zA3):Decidable (HoldP c p):=by unfold HoldP; infer_instance
def errPr (c:List (List Int)) (p:zA3):Int:=if InTab 0 99 c∧ArePr c p then if HoldP c p then 0 else 7 else 1
section
variable {c:List (List Int)} {p:zA3}
theorem zN9 (h:¬(InTab 0 99 c∧ArePr c p)):errPr c p=1:=if_neg h
theorem zS8 (h:InTab 0 99 c) (h2:ArePr c p) (h3:¬HoldP c p):errPr c p=7:=by rw [errPr,if_pos ⟨h,h2⟩,if_neg h3]
theorem zN8 (h:InTab 0 99 c) (h2:ArePr c p) (h3:HoldP c p):errPr c p=0:=by rw [errPr,if_pos ⟨h,h2⟩,if_pos h3]
theorem zK5 (h:errPr c p=0):InTab 0 99 c∧ArePr c p∧HoldP c p:=by
 unfold errPr at h
 split at h
 ·split at h
  ·rename_i h1 h2; exact ⟨h1.1,h1.2,h2⟩
  ·omega
 ·omega
end
@[push_cast] def zPg:Con:=⟨[.dat (.sl (.sl .int)),.dat (.prod (.sl .int) (.sl .int))],fun (x:List (List Int)×zA3×Unit)=>InTab 0 99 x.1,fun (x:List (List Int)×zA3×Unit)=>{res:=[.val .bool (decide (ArePr x.1 x.2.1))]}⟩
@[push_cast] def prCon:Con:=⟨[.dat (.sl (.sl .int)),.dat (.prod (.sl .int) (.sl .int))],fun _=>True,fun (x:List (List Int)×zA3×Unit)=>{res:=[.val .int (errPr x.1 x.2.1)]}⟩
theorem zUb:FnSpec Tryz.prog 204 zPg:=by
 refine FnSpec.of_tri' (E:=know _ [] [] []) (zAl (kc zPe all_nil) all_nil all_nil) Tryz.func204 rfl rfl (by kernel_rfl) ?_
 intro C x hE hnl hfit hpre
 simp only [Tryz.ntmps204,Tryz.results204,maxLen,seval,push_cast] at hnl hfit hpre ⊢
 obtain ⟨(c:List (List Int)),⟨(u:List Int),(v:List Int)⟩,_⟩:=x
 dsimp only at hfit hpre ⊢
 have hw:(c.getD 0 []).length=wid c:=rfl
 have hr:=hpre.rows
 replace hnl:=And.intro hnl hw
 by_cases h1:InL c.length (-1000) 1000 u
 ·by_cases h2:InL (wid c) (-1000) 1000 v
  ·have e:ArePr c (u,v):=⟨h1,h2⟩
   replace hnl:=And.intro hnl (And.intro (eq_true h1) (And.intro (eq_true h2) (eq_true e)))
   exact auB
  ·have e:¬ArePr c (u,v):=fun h=>h2 h.2
   replace hnl:=And.intro hnl (And.intro (eq_true h1) (And.intro (eq_false h2) (eq_false e)))
   exact auB
 ·have e:¬ArePr c (u,v):=fun h=>h1 h.1
  replace hnl:=And.intro hnl (And.intro (eq_false h1) (eq_false e))
  exact auB
theorem zWv:FnSpec Tryz.prog 165 prCon:=by
 refine FnSpec.of_tri' (E:=know _ [] [] []) (zAl (kc zEq (kc zUb all_nil)) all_nil all_nil) Tryz.func165 rfl rfl (by kernel_rfl) ?_
 intro C x hE hnl hfit hpre
 simp only [Tryz.ntmps165,Tryz.results165,maxLen,seval,push_cast] at hnl hfit hpre ⊢
 obtain ⟨(c:List (List Int)),⟨(u:List Int),(v:List Int)⟩,_⟩:=x
 dsimp only at hfit hpre ⊢
 by_cases hc:InTab 0 99 c
 ·have h1:=zEj hc
  by_cases ha:ArePr c (u,v)
  ·replace hnl:=And.intro hnl (And.intro h1 (eq_true ha))
   obtain ⟨hul,hua⟩:=ha.row
   obtain ⟨hvl,hva⟩:=ha.col
   dsimp only at hul hua hvl hva
   repeat' (first|(refine goK (by assumption) ?_; iterate 4 (try clear hK K))|(refine zAb fun K hK=>?_)|(refine zAa hE rfl ?_; simp +contextual only [hnl,↓kA,push_cast,seval,reduceCtorEq,cI])|refine zAd ?_|(refine zAg ?_; simp only [thenQ,zAh,if_true,if_false,Nat.reduceEqDiff,reduceCtorEq])|(refine zAe (by rfl) (fun hb=>?_) (fun hb=>?_)<;>(try simp only [bq,reduceCtorEq] at hb)<;>(try omega))|refine andS ?_|fail)
   refine zAk (fun k:Nat=>AS.of [(0,.one (.val (.sl (.sl .int)) c)),(3,.one (.box 3)),(19,.one (.val (.sl (.sl .int)) c)),(20,.I c.length),(21,.I k)] [] [(3,.one (.val (.prod (.sl .int) (.sl .int)) (u,v)))]) (fun k=>k≤c.length∧∀ i,i<k→∀ j,j<wid c→u.getD i 0+v.getD j 0≤(c.getD i []).getD j 0) (fun k=>c.length - k) 0 ⟨Nat.zero_le _,by omega⟩ ?_ ?_
   ·refine zAf ?_ ?_ ?_<;>simp only [push_cast,seval,reduceCtorEq,cI]
   intro k ⟨hk,hall⟩ K' hL
   repeat' (first|(refine goK (by assumption) ?_; iterate 4 (try clear hK K))|(refine zAb fun K hK=>?_)|((first|refine zAa hE rfl ?_|refine zAi ?_); simp +contextual only [hnl,↓kA,push_cast,seval,reduceCtorEq,cI])|refine zAd ?_|((first|refine zAg ?_|refine zAj ?_); simp only [thenQ,zAh,if_true,if_false,Nat.reduceEqDiff,reduceCtorEq])|(refine zAe (by rfl) (fun hb=>?_) (fun hb=>?_)<;>(try simp only [bq,reduceCtorEq] at hb)<;>(try omega))|refine andS ?_|fail)
   ·have hk':k<c.length:=by omega
    have hrow:=hc.len hk'
    have huk:=hua k (by omega)
    refine zAk (fun j:Nat=>AS.of [(0,.one (.val (.sl (.sl .int)) c)),(3,.one (.box 3)),(6,.I k),(19,.one (.val (.sl (.sl .int)) c)),(20,.I c.length),(21,.I k),(26,.one (.val (.sl .int) (c.getD k []))),(27,.I (c.getD k []).length),(28,.I j)] [] [(3,.one (.val (.prod (.sl .int) (.sl .int)) (u,v)))]) (fun j=>j≤wid c∧∀ j',j'<j→u.getD k 0+v.getD j' 0≤(c.getD k []).getD j' 0) (fun j=>wid c - j) 0 ⟨Nat.zero_le _,by omega⟩ ?_ ?_
    ·refine zAf ?_ ?_ ?_<;>simp only [push_cast,seval,reduceCtorEq,cI]
    intro j ⟨hj,hj'⟩ K2 hL2
    have hvj:=hva j
    repeat' (first|(refine goK (by assumption) ?_; iterate 4 (try clear hK K))|(refine zAb fun K hK=>?_)|((first|refine zAa hE rfl ?_|refine zAi ?_|((first|refine zAc hE 1 rfl rfl (by kernel_rfl) ?_|refine zAc hE 2 rfl rfl (by kernel_rfl) ?_|refine zAc hE 3 rfl rfl (by kernel_rfl) ?_|refine zAc hE 4 rfl rfl (by kernel_rfl) ?_); simp only [List.length_cons,List.length_nil,Nat.reduceAdd,Nat.reduceSub,List.take_succ_cons,List.take_zero,List.drop_succ_cons,List.drop_zero])); simp +contextual only [hnl,↓kA,push_cast,seval,reduceCtorEq,cI])|refine zAd ?_|((first|refine zAg ?_|refine zAj ?_); simp only [thenQ,zAh,if_true,if_false,Nat.reduceEqDiff,reduceCtorEq])|(refine zAe (by rfl) (fun hb=>?_) (fun hb=>?_)<;>(try simp only [bq,reduceCtorEq] at hb)<;>(try omega))|refine andS ?_|fail)
    ·exact (zS8 hc ha fun h=>by have:u.getD k 0+v.getD j 0≤_:=h k hk' j (by omega); omega).symm
    ·refine hL2 _ (j+1) ⟨by omega,fun j' h1=>?_⟩ (by omega) ?_
     ·rcases Nat.lt_or_ge j' j with h3|h3
      ·exact hj' j' h3
      ·obtain rfl:j'=j:=by omega
       omega
     refine zAf ?_ ?_ ?_<;>simp only [push_cast,seval,reduceCtorEq,cI]
    ·refine hL _ (k+1) ⟨by omega,fun i h1=>?_⟩ (by omega) ?_
     ·rcases Nat.lt_or_ge i k with h3|h3
      ·exact hall i h3
      ·obtain rfl:i=k:=by omega
       exact fun j' h4=>hj' j' (by omega)
     refine zAf ?_ ?_ ?_<;>simp only [push_cast,seval,reduceCtorEq,cI]
   ·exact (zN8 hc ha fun i h1=>hall i (by omega)).symm
  ·have e:errPr c (u,v)=1:=zN9 fun h=>ha h.2
   replace hnl:=And.intro hnl (And.intro h1 (And.intro (eq_false ha) e))
   exact auB
 ·have h1:=zDL hc
  have e:errPr c (u,v)=1:=zN9 fun h=>hc h.1
  replace hnl:=And.intro hnl (And.intro h1 e)
  exact auB
end Go.Proofs.YtekfodeknpnkbaaGreatDoor
namespace Go.Proofs.YtekfodeknpnkbaaGreatDoor
open Go.RowKit Go.VS Go.OT
structure WPre (a b:List Int) (p:zA3):Prop where
 a6:a.length≤6
 b6:b.length≤6
 la:p.1.length=a.length
 lb:p.2.length=b.length
 ha:∀ i,i<a.length→0≤a.getD i 0∧a.getD i 0≤200
 hb:∀ i,i<b.length→0≤b.getD i 0∧b.getD i 0≤200
 hp:∀ i,i<a.length → -1000≤p.1.getD i 0∧p.1.getD i 0≤1000
 hq:∀ i,i<b.length → -1000≤p.2.getD i 0∧p.2.getD i 0≤1000
theorem zG2 {x y:Int} (h1:0≤x∧x≤200) (h2 : -1000≤y∧y≤1000) : -200000≤x*y∧x*y≤200000:=by
 have k1:x*y≤x*1000:=Int.mul_le_mul_of_nonneg_left h2.2 h1.1
 have k2:x*(-1000)≤x*y:=Int.mul_le_mul_of_nonneg_left h2.1 h1.1
 omega
theorem zIw {a p:List Int} (h1:∀ i,i<a.length→0≤a.getD i 0∧a.getD i 0≤200) (h2:∀ i,i<a.length → -1000≤p.getD i 0∧p.getD i 0≤1000):∀ k,k≤a.length → -200000*(k:Int)≤dotK a p k∧dotK a p k≤200000*k
 | 0,_=>by simp [dotK]
 | k+1,hk=>by
  have k1:=zIw h1 h2 k (by omega)
  have k2:=zG2 (h1 k (by omega)) (h2 k (by omega))
  simp only [dotK]
  omega
@[push_cast] def zQm:Con:=⟨[.dat (.sl .int),.dat (.sl .int),.dat (.prod (.sl .int) (.sl .int))],fun (x:List Int×List Int×zA3×Unit)=>WPre x.1 x.2.1 x.2.2.1,fun (x:List Int×List Int×zA3×Unit)=>{res:=[.val .int (zDh x.1 x.2.1 x.2.2.1)]}⟩
section
variable {a b:List Int} {c:List (List Int)} {p:zA3}
end
end Go.Proofs.YtekfodeknpnkbaaGreatDoor
namespace Go.Proofs.YtekfodeknpnkbaaGreatDoor
open Go.RowKit Go.VS Go.OT
theorem zH3 (n:Nat) (hn:0<n∧n≤1000) (w:World) (ty:TypeId):(Builtin.append_ #[38,3] ty #[.slice none 0 0,.int .i64 n]).run Tryz.prog w =
 .ok (.slice (some ⟨w.heap.size,0,none⟩) n (grownCap w n 0 3)) (w.drew.alloc (.cells (Builtin.zeroCells #[.int .i64 0] n++Builtin.zeroCells #[.int .i64 0] (grownCap w n 0 3 - n)) 3)):=by
 have h1:=run_underlying (P:=Tryz.prog) Tryz.underlying38
 have h2:=run_underlying (P:=Tryz.prog) Tryz.underlying3
 obtain ⟨i,z,hi,hs,hby,hz,hzc⟩:=tabOK.lang.info 3 .int shI
 have hs1:i.size=1:=hs
 have hai:∀ w,(asInt (.int .i64 (n:Int))).run Tryz.prog w=.ok (n:Int) w:=fun _=>rfl
 have hwr:IntKind.i64.wrap (n:Int)=n:=IntWalk.i64_in _ (by omega)
 have hzz:z.cells=#[.int .i64 0]:=by rw [←Array.toList_inj]; exact hzc
 have hb:¬(281474976710656:Int)<(n:Int)*i.bytes:=by
  have:=Nat.mul_le_mul hn.2 hby
  have h3:((n*i.bytes:Nat):Int)≤((1000*1024:Nat):Int):=by omega
  rw [Int.natCast_mul] at h3
  omega
 have hb2:¬281474976710656<n*i.bytes:=by
  have:=Nat.mul_le_mul hn.2 hby
  omega
 have h63:¬(9223372036854775807:Int)<n:=by omega
 have hn0:n≠0:=by omega
 have hl:¬(n:Int)<0:=by omega
 simp [Builtin.append_,h1,h2,sizeOf,typeInfo,zeroValue,hi,hai,hwr,hs1,hz,hzz,hb,hb2,h63,hn0,hl,nextslicecap_zero (show 0<n by omega),Question.forced,run_firstCells_none,newRow,grownCap]
set_option maxRecDepth 20000 in
theorem zVE (n:Nat) (hn:0<n∧n≤1000) (w:World):Calls Tryz.prog 205 #[.slice none 0 0,.int .i64 n] w fun e w' =>
 e=.returned (.slice (some ⟨w.heap.size,0,none⟩) 0 (grownCap w n 0 3))∧w'=w.drew.alloc (.cells (Builtin.zeroCells #[.int .i64 0] n++Builtin.zeroCells #[.int .i64 0] (grownCap w n 0 3 - n)) 3):=by
 have hap:=zH3 n hn w 38
 have hwr:IntKind.i64.wrap (n:Int)=n:=IntWalk.i64_in _ (by omega)
 go_enter Tryz.func205,Tryz.ntmps205
 have hb8:Tryz.t3.bytes=8:=by kernel_rfl
 have hns:=nextslicecap_zero (show 0<n by omega)
 go_wp2
 all_goals simp only [hb8,hns] at *
 all_goals first
  | (exfalso; omega)
  | (simp [bodyPost,results,Tryz.results205,go_sem]; exact ⟨rfl,rfl⟩)
theorem zKK (n:Nat):(Builtin.zeroCells #[.int .i64 0] n).size=n:=by simp [Builtin.zeroCells]
theorem zWX {C:Ctx} {N:Nat} {Q:Exit→AS→Prop} {s:AS} {E:Know} (hE:KnowOK C.P E) (hP:C.P=Tryz.prog) {id d x:Nat} {ats:Array TypeId} {ty:TypeId} {pos:String} {af:Array Edge} {L:List Oper} (n:Nat) (hnl:C.nl≤d)
 (hL:L=L.take n++⟨some d,.call {callee:=.value (.func 205),args:=#[.const (.slice none 0 0),.tmp x],argTypes:=ats},ty,pos,af,none⟩::L.drop (n+1)) (hd:zEe N L=true)
 (h:runK E C.nl L.toArray (L.take n) s fun s'=>∃ m:Int,s'.env x=.one (.val .int m)∧0<m∧m≤1000 ∧
  runK E C.nl L.toArray (L.drop (n+1)) (((s'.map (killR d)).setRoot d (some (.flat 3 .int []))).put (some d) (.one (.ref d))) (Q .normal)):tri C N (.region id L.toArray false) Q s:=by
 refine ⟨fun γ a w hr hN=>?_⟩
 have hd':∀ (j:Nat) (o:Oper),L.toArray[j]?=some o→dstOK N o.dst=true:=fun j o ho=>zBp (ops:=L.toArray) (by simpa using hd) j o ho
 have hb:=List.all_eq_true.1 hd
 have hdd:d<N:=by
  have:=hb ⟨some d,.call {callee:=.value (.func 205),args:=#[.const (.slice none 0 0),.tmp x],argTypes:=ats},ty,pos,af,none⟩ (by rw [hL]; simp)
  simpa [dstOK] using this
 refine wp_region_lit ?_
 have key:=runK_then (N:=N) (rest:=⟨some d,.call {callee:=.value (.func 205),args:=#[.const (.slice none 0 0),.tmp x],argTypes:=ats},ty,pos,af,none⟩::L.drop (n+1)) hE (Q:=fun e a' w'=>∃ s' γ',Rel C γ' s' a' w'∧a'.tmps.size=N∧Q e s') hd'
  (fun s' γ' a' w' h1 h2 h3=>?_) (L.take n) s γ a w (fun o ho=>hb o (List.mem_of_mem_take ho)) hN hr h
 ·rw [←hL] at key
  exact key
 obtain ⟨m,k1,k2,k3,k4⟩:=h3
 have hx:=h1.env x
 rw [k1] at hx
 obtain ⟨k,rfl⟩:∃ k:Nat,m=k:=⟨m.toNat,by omega⟩
 have hxv:a'.tmps.getD x undef=.int .i64 (k:Int):=zAH hx
 have hcal:zBf C.P 205:=by rw [hP]; exact ⟨_,Tryz.func205,by kernel_rfl,rfl⟩
 refine wpList_step fun K' hK'=>?_
 simp only [Region.wanted,if_true]
 have e1:=zDM hcal (ρ:=a'.eval) (x:=.func 205) (caps:=#[]) rfl #[.const (.slice none 0 0),.tmp x] ats (some d) ty pos af none w'
 simp only [Oper.wp,e1,Oper.upon]
 have hargs:#[Operand.const (.slice none 0 0),.tmp x].map a'.eval++#[]=#[.slice none 0 0,.int .i64 (k:Int)]:=by
  have hxv':=hxv
  simp only [Array.getD_eq_getD_getElem?] at hxv'
  simp [Act.eval,hxv']
 rw [hargs,hP]
 refine (zVE k (by omega) w').mono ?_
 rintro e w2 ⟨rfl,rfl⟩
 refine hK' _ _ ?_
 have hge:=grownCap_ge w' k 0 3
 have hcm:grownCap w' k 0 3≤maxLen:=grownCap_le_maxLen w' k 0 3 (by unfold maxLen; omega)
 obtain ⟨W,hW⟩:∃ W,W=w'.drew.alloc (.cells (Builtin.zeroCells #[.int .i64 0] k++Builtin.zeroCells #[.int .i64 0] (grownCap w' k 0 3 - k)) 3):=⟨_,rfl⟩
 rw [←hW]
 have hheap:W.heap[w'.heap.size]?=some (.cells (Builtin.zeroCells #[.int .i64 0] k++Builtin.zeroCells #[.int .i64 0] (grownCap w' k 0 3 - k)) 3 (0,0)):=by
  rw [hW]; exact heap_alloc_new w'.drew _
 have hgr:w'.grownBy W none:=by
  rw [hW]
  exact ⟨rfl,rfl,rfl,by simp,fun k hk _=>Below.heap_alloc w'.drew _ k hk⟩
 let X:Sl:=⟨some ⟨w'.heap.size,0,none⟩,0,grownCap w' k 0 3⟩
 have hXb:∀ b,X.v.ownBlock=some b→b=w'.heap.size∧b<W.heap.size:=fun b hb=>by
  simp only [X,Sl.v,Value.ownBlock,Option.some.injEq] at hb
  subst hb
  exact ⟨rfl,(Array.getElem?_eq_some_iff.1 hheap).1⟩
 have hrel:Rel C (zCa γ' d X (γ'.rs d) w'.heap.size) ((s'.map (killR d)).setRoot d (some (.flat 3 .int []))) a' W:=by
  refine zHm h1 hnl X (γ'.rs d) hgr hXb ⟨rfl,?_,?_⟩
  ·rw [zA4]
   exact ⟨rfl,.inr ⟨w'.heap.size,_,_,rfl,Nat.zero_le _,hheap,Nat.zero_le _,hcm,by rw [Array.size_append,zKK,zKK]; show k+(grownCap w' k 0 3 - k)=grownCap w' k 0 3*1; omega,rfl⟩⟩
  ·rw [zA4]
   exact zDD h1 (fun b hb=>(hXb b hb).1)
 have hput:=hrel.put (d:=some d) (by simp [dstOK,h2,hdd]) (sv:=.one (.ref d)) (v:=X.v) (by simp only [svRep,bvRep]; rw [zA4])
 exact zDE (N:=N) hE hd' (fun s2 γ2 a2 w2 g1 g2 g3=>⟨s2,γ2,g1,g2,g3⟩) (L.drop (n+1)) _ _ _ _ (fun o ho=>hb o (List.mem_of_mem_drop ho)) (by simp [Act.put,h2]) hput k4
theorem zXJ (l:List (List Int)):catK l l.length=l.flatten:=by simp [catK]
@[push_cast] def zL1:Con:=⟨[.dat (.sl (.sl .int))],fun (x:List (List Int)×Unit)=>CatP x.1,fun (x:List (List Int)×Unit)=>{res:=[.own (.flat 3 .int x.1.flatten)]}⟩
theorem zNU:FnSpec Tryz.prog 166 zL1:=by
 refine FnSpec.of_triP (E:=know [] [] [] []) (zAl all_nil all_nil all_nil) Tryz.func166 rfl rfl (by kernel_rfl) ?_
 intro C x hP hE hnl hfit hpre
 simp only [Tryz.ntmps166,Tryz.results166,maxLen,seval,push_cast] at hnl hfit hpre ⊢
 obtain ⟨(l:List (List Int)),_⟩:=x
 dsimp only at hfit hpre ⊢
 have hl10:=hpre.n
 have hle:=hpre.le
 have hpos:=hpre.pos
 have hall:=zXJ l
 repeat' (first|(refine goK (by assumption) ?_; iterate 4 (try clear hK K))|(refine zAb fun K hK=>?_)|((first|refine zAa hE rfl ?_|refine zAi ?_); simp +contextual only [hnl,↓kA,push_cast,seval,reduceCtorEq,cI])|refine zAd ?_|((first|refine zAg ?_|refine zAj ?_); simp only [thenQ,zAh,if_true,if_false,Nat.reduceEqDiff,reduceCtorEq])|(refine zAe (by rfl) (fun hb=>?_) (fun hb=>?_)<;>(try simp only [bq,reduceCtorEq] at hb)<;>(try omega))|refine zAr (by rfl) ?_ ?_|refine andS ?_|(refine ⟨fun hc=>?_,fun hc=>?_⟩)|(intro hc; try omega))
 refine zAk (fun k:Nat=>AS.of [(0,.one (.val (.sl (.sl .int)) l)),(2,.one .nils),(3,.I (catK l k).length),(9,.one (.val (.sl (.sl .int)) l)),(10,.I l.length),(11,.I k)] [] []) (fun k=>k≤l.length) (fun k=>l.length - k) 0 (Nat.zero_le _) ?_ ?_
 ·refine zAf ?_ ?_ ?_<;>simp only [push_cast,seval,reduceCtorEq,cI]
  rfl
 intro k hk K' hL
 rcases Nat.lt_or_ge k l.length with hkl|hkl
 ·have hs:=congrArg List.length (zKU hkl)
  rw [List.length_append] at hs
  have h1:=hle k hk
  have h2:=hpre.row k hkl
  repeat' (first|(refine goK (by assumption) ?_; iterate 4 (try clear hK K))|(refine zAb fun K hK=>?_)|((first|refine zAa hE rfl ?_|refine zAi ?_); simp +contextual only [hnl,↓kA,push_cast,seval,reduceCtorEq,cI])|refine zAd ?_|((first|refine zAg ?_|refine zAj ?_); simp only [thenQ,zAh,if_true,if_false,Nat.reduceEqDiff,reduceCtorEq])|(refine zAe (by rfl) (fun hb=>?_) (fun hb=>?_)<;>(try simp only [bq,reduceCtorEq] at hb)<;>(try omega))|refine zAr (by rfl) ?_ ?_|refine andS ?_|(refine ⟨fun hc=>?_,fun hc=>?_⟩)|(intro hc; try omega))
  refine hL _ (k+1) (by omega) (by omega) ?_
  refine zAf ?_ ?_ ?_<;>simp only [push_cast,seval,reduceCtorEq,cI]
  rw [hs]
  exact (Int.natCast_add _ _).symm
 ·obtain rfl:k=l.length:=by omega
  have h1:=hle _ hk
  have h2:0<(catK l l.length).length:=by rw [hall]; exact hpos
  repeat' (first|((refine zWX hE hP 1 (by omega) rfl rfl ?_; simp only [List.length_cons,List.length_nil,Nat.reduceAdd,Nat.reduceSub,List.take_succ_cons,List.take_zero,List.drop_succ_cons,List.drop_zero]; simp +contextual only [hnl,↓kA,push_cast,seval,reduceCtorEq,cI]))|first|(refine goK (by assumption) ?_; iterate 4 (try clear hK K))|(refine zAb fun K hK=>?_)|((first|refine zAa hE rfl ?_|refine zAi ?_); simp +contextual only [hnl,↓kA,push_cast,seval,reduceCtorEq,cI])|refine zAd ?_|((first|refine zAg ?_|refine zAj ?_); simp only [thenQ,zAh,if_true,if_false,Nat.reduceEqDiff,reduceCtorEq])|(refine zAe (by rfl) (fun hb=>?_) (fun hb=>?_)<;>(try simp only [bq,reduceCtorEq] at hb)<;>(try omega))|refine zAr (by rfl) ?_ ?_|refine andS ?_|(refine ⟨fun hc=>?_,fun hc=>?_⟩)|(intro hc; try omega))
  refine ⟨_,rfl,by omega,by omega,?_⟩
  repeat' (first|(refine goK (by assumption) ?_; iterate 4 (try clear hK K))|(refine zAb fun K hK=>?_)|((first|refine zAa hE rfl ?_|refine zAi ?_); simp +contextual only [hnl,↓kA,push_cast,seval,reduceCtorEq,cI])|refine zAd ?_|((first|refine zAg ?_|refine zAj ?_); simp only [thenQ,zAh,if_true,if_false,Nat.reduceEqDiff,reduceCtorEq])|(refine zAe (by rfl) (fun hb=>?_) (fun hb=>?_)<;>(try simp only [bq,reduceCtorEq] at hb)<;>(try omega))|refine zAr (by rfl) ?_ ?_|refine andS ?_|(refine ⟨fun hc=>?_,fun hc=>?_⟩)|(intro hc; try omega))
  refine zAk (fun k:Nat=>AS.of [(2,.one .nils),(6,.one (.ref 24)),(25,.one (.val (.sl (.sl .int)) l)),(26,.I l.length),(27,.I k)] [(24,.flat 3 .int (catK l k))] []) (fun k=>k≤l.length) (fun k=>l.length - k) 0 (Nat.zero_le _) ?_ ?_
  ·refine zAf ?_ ?_ ?_<;>simp only [push_cast,seval,reduceCtorEq,cI]
   exact .inl rfl
  intro k hk2 K2 hL2
  rcases Nat.lt_or_ge k l.length with hkl|hkl
  ·have hs:=zKU hkl
   have h3:=hle k hk2
   have h4:=hpre.row k hkl
   repeat' (first|(refine goK (by assumption) ?_; iterate 4 (try clear hK K))|(refine zAb fun K hK=>?_)|((first|refine zAa hE rfl ?_|refine zAi ?_); simp +contextual only [hnl,↓kA,push_cast,seval,reduceCtorEq,cI])|refine zAd ?_|((first|refine zAg ?_|refine zAj ?_); simp only [thenQ,zAh,if_true,if_false,Nat.reduceEqDiff,reduceCtorEq])|(refine zAe (by rfl) (fun hb=>?_) (fun hb=>?_)<;>(try simp only [bq,reduceCtorEq] at hb)<;>(try omega))|refine zAr (by rfl) ?_ ?_|refine andS ?_|(refine ⟨fun hc=>?_,fun hc=>?_⟩)|(intro hc; try omega))
   rw [←hs]
   refine hL2 _ (k+1) (by omega) (by omega) ?_
   refine zAf ?_ ?_ ?_<;>simp only [push_cast,seval,reduceCtorEq,cI]
   done
  ·obtain rfl:k=l.length:=by omega
   repeat' (first|(refine goK (by assumption) ?_; iterate 4 (try clear hK K))|(refine zAb fun K hK=>?_)|((first|refine zAa hE rfl ?_|refine zAi ?_); simp +contextual only [hnl,↓kA,push_cast,seval,reduceCtorEq,cI])|refine zAd ?_|((first|refine zAg ?_|refine zAj ?_); simp only [thenQ,zAh,if_true,if_false,Nat.reduceEqDiff,reduceCtorEq])|(refine zAe (by rfl) (fun hb=>?_) (fun hb=>?_)<;>(try simp only [bq,reduceCtorEq] at hb)<;>(try omega))|refine zAr (by rfl) ?_ ?_|refine andS ?_|(refine ⟨fun hc=>?_,fun hc=>?_⟩)|(intro hc; try omega))
   rw [hall]
end Go.Proofs.YtekfodeknpnkbaaGreatDoor
namespace Go.Proofs.YtekfodeknpnkbaaGreatDoor
open Go.RowKit Go.VS Go.OT
def LowP (w:Int) (p:zA3):Prop:=∀ n∈p.1++p.2,n≤w
instance (w:Int) (p:zA3):Decidable (LowP w p):=by unfold LowP; infer_instance
def zA8 (c:List (List Int)) (w:Int) (p:zA3):Int:=if zAu c=0∧errW w=0 then if errPr c p=0 then if LowP w p then 0 else 7 else errPr c p else 1
theorem zXX (w:Int):errW w=0∨errW w=1:=by unfold errW; split<;>simp
theorem zYl (w:Int) (u v:List Int):([u,v].flatten.any fun n=>decide (w<n))=!decide (LowP w (u,v)):=by
 have e:[u,v].flatten=u++v:=by simp
 rw [e]
 by_cases h:LowP w (u,v)
 ·rw [decide_eq_true h,Bool.not_true,List.any_eq_false]
  intro n hn
  have:=h n hn
  simp only [decide_eq_true_eq]
  omega
 ·rw [decide_eq_false h,Bool.not_false,List.any_eq_true]
  apply Classical.byContradiction
  intro h2
  refine h fun n hn=>?_
  apply Classical.byContradiction
  intro h3
  exact h2 ⟨n,hn,decide_eq_true (by omega)⟩
theorem zJH {c:List (List Int)} {u v:List Int} (h:errPr c (u,v)=0):CatP [u,v]:=by
 obtain ⟨h1,h2,_⟩:=zK5 h
 have h3:=h2.row.1
 have h4:=h2.col.1
 have h5:=h1.rows
 have h6:=h1.cols
 dsimp only at h3 h4
 refine ⟨by simp,fun k hk=>?_,?_⟩
 ·match k with
  | 0=>show u.length≤100; omega
  | 1=>show v.length≤100; omega
  | k+2=>exact absurd hk (by simp)
 ·simp only [List.flatten_cons,List.flatten_nil,List.append_nil,List.length_append]
  omega
@[push_cast] def zXK:Con:=⟨[.dat .int,.ptr .int],fun _=>True,fun (x:Int×Int×Unit)=>{res:=[.val .bool (decide (x.2.1<x.1))]}⟩
@[push_cast] def zSG:Clo:=⟨[.int],[.int],.bool,fun _ _=>True,fun (y:Int×Unit) (x:Int×Unit)=>decide (y.1<x.1)⟩
theorem zXL:FnSpec Tryz.prog 167 zXK:=by
 refine FnSpec.of_tri' (E:=know [] [] [] []) (zAl all_nil all_nil all_nil) Tryz.func167 rfl rfl (by kernel_rfl) ?_
 intro C x hE hnl hfit hpre
 simp only [Tryz.ntmps167,Tryz.results167,maxLen,seval,push_cast] at hnl hfit hpre ⊢
 obtain ⟨(n:Int),(w:Int),_⟩:=x
 dsimp only at hfit hpre ⊢
 exact auB
theorem zSH:CloSpec Tryz.prog 167 zSG:=CloSpec.of zXL
@[push_cast] def zXi:Con:=⟨[.dat (.sl (.sl .int)),.dat .int,.dat (.prod (.sl .int) (.sl .int))],fun _=>True,fun (x:List (List Int)×Int×zA3×Unit)=>{res:=[.val .int (zA8 x.1 x.2.1 x.2.2.1)]}⟩
theorem zWb:FnSpec Tryz.prog 119 zXi:=by
 refine FnSpec.of_tri' (E:=know [(42,zIu),(114,zXf),(69,orCon),(165,prCon),(166,zL1),(133,zCS)] [(167,zSG)] [] []) (zAl (all_cons zEq (all_cons zHF (all_cons zIY (all_cons zWv (all_cons zNU (all_cons zCD all_nil)))))) (all_cons zSH all_nil) all_nil) Tryz.func119 rfl rfl (by kernel_rfl) ?_
 intro C x hE hnl hfit hpre
 simp only [Tryz.ntmps119,Tryz.results119,maxLen,seval,push_cast] at hnl hfit hpre ⊢
 obtain ⟨(c:List (List Int)),(w:Int),⟨(u:List Int),(v:List Int)⟩,_⟩:=x
 dsimp only at hfit hpre ⊢
 have h1:=zT5 (x:=zAu c) (y:=errW w)
 have h01:=zJO c
 have h02:=zXX w
 have hl:=zYl w u v
 by_cases hc:zAu c=0∧errW w=0
 ·have e1:orV [zAu c,errW w]=0:=by rw [h1,if_pos hc.1]; exact hc.2
  by_cases hp:errPr c (u,v)=0
  ·have e2:zA8 c w (u,v)=if LowP w (u,v) then 0 else 7:=by rw [zA8,if_pos hc,if_pos hp]
   by_cases hw:LowP w (u,v)
   ·have e3:zA8 c w (u,v)=0:=by rw [e2,if_pos hw]
    have e4:([u,v].flatten.any fun n=>decide (w<n))=false:=by rw [hl,decide_eq_true hw]; rfl
    replace hnl:=And.intro hnl (And.intro e1 (And.intro hp (And.intro e3 (And.intro (eq_true (zJH hp)) e4))))
    exact auB
   ·have e3:zA8 c w (u,v)=7:=by rw [e2,if_neg hw]
    have e4:([u,v].flatten.any fun n=>decide (w<n))=true:=by rw [hl,decide_eq_false hw]; rfl
    replace hnl:=And.intro hnl (And.intro e1 (And.intro hp (And.intro e3 (And.intro (eq_true (zJH hp)) e4))))
    exact auB
  ·have e2:zA8 c w (u,v)=errPr c (u,v):=by rw [zA8,if_pos hc,if_neg hp]
   replace hnl:=And.intro hnl (And.intro e1 (And.intro e2 (eq_false hp)))
   exact auB
 ·have e1:orV [zAu c,errW w]=1:=by
   rw [h1]
   split<;>omega
  have e2:zA8 c w (u,v)=1:=by rw [zA8,if_neg hc]
  replace hnl:=And.intro hnl (And.intro e1 e2)
  exact auB
theorem zOl:FnSpec Tryz.prog 120 zQm:=by
 refine FnSpec.of_tri' (E:=know [] [] [] []) (zAl all_nil all_nil all_nil) Tryz.func120 rfl rfl (by kernel_rfl) ?_
 intro C x hE hnl hfit hpre
 simp only [Tryz.ntmps120,Tryz.results120,maxLen,seval,push_cast] at hnl hfit hpre ⊢
 obtain ⟨(a:List Int),(b:List Int),⟨(u:List Int),(v:List Int)⟩,_⟩:=x
 dsimp only at hfit hpre ⊢
 obtain ⟨ha6,hb6,hla,hlb,ha,hb2,hp,hq⟩:=hpre
 dsimp only at hla hlb hp hq
 repeat' (first|(refine goK (by assumption) ?_; iterate 4 (try clear hK K))|(refine zAb fun K hK=>?_)|(refine zAa hE rfl ?_; simp +contextual only [hnl,↓kA,push_cast,seval,reduceCtorEq,cI])|refine zAd ?_|refine andS ?_|fail)
 refine zAk (fun k:Nat=>AS.of [(0,.one (.val (.sl .int) a)),(1,.one (.val (.sl .int) b)),(5,.one (.box 5)),(7,.I (dotK a u k)),(12,.one (.val (.sl .int) a)),(13,.I a.length),(14,.I k)] [] [(5,.one (.val (.prod (.sl .int) (.sl .int)) (u,v)))]) (fun k=>k≤a.length) (fun k=>a.length - k) 0 (Nat.zero_le _) ?_ ?_
 ·refine zAf ?_ ?_ ?_<;>simp only [push_cast,seval,reduceCtorEq,cI]
  all_goals first|rfl|skip
 intro k hk K' hL
 have h1:=zIw ha hp k hk
 have h2:=ha k
 have h3:=hp k
 repeat' (first|(refine goK (by assumption) ?_; iterate 4 (try clear hK K))|(refine zAb fun K hK=>?_)|(refine zAa hE rfl ?_; simp +contextual only [hnl,↓kA,push_cast,seval,reduceCtorEq,cI])|refine zAd ?_|((first|refine zAg ?_|refine zAj ?_); simp only [thenQ,zAh,if_true,if_false,Nat.reduceEqDiff,reduceCtorEq])|(refine zAe (by rfl) (fun hb=>?_) (fun hb=>?_)<;>(try simp only [bq,reduceCtorEq] at hb)<;>(try omega))|refine andS ?_|fail)
 ·have h4:=zG2 (h2 (by omega)) (h3 (by omega))
  refine ⟨by unfold InR; omega,by unfold InR; omega,?_⟩
  repeat' (first|(refine goK (by assumption) ?_; iterate 4 (try clear hK K))|(refine zAa hE rfl ?_; simp +contextual only [hnl,↓kA,push_cast,seval,reduceCtorEq,cI])|refine andS ?_|fail)
  refine hL _ (k+1) (by omega) (by omega) ?_
  refine zAf ?_ ?_ ?_<;>simp only [push_cast,seval,reduceCtorEq,cI]
  all_goals first|rfl|skip
 obtain rfl:k=a.length:=by omega
 refine zAk (fun k:Nat=>AS.of [(1,.one (.val (.sl .int) b)),(5,.one (.box 5)),(7,.I (dotK a u a.length+dotK b v k)),(29,.one (.val (.sl .int) b)),(30,.I b.length),(31,.I k)] [] [(5,.one (.val (.prod (.sl .int) (.sl .int)) (u,v)))]) (fun k=>k≤b.length) (fun k=>b.length - k) 0 (Nat.zero_le _) ?_ ?_
 ·refine zAf ?_ ?_ ?_<;>simp only [push_cast,seval,reduceCtorEq,cI]
  all_goals first|rfl|simp [dotK]|skip
 intro k hk2 K2 hL2
 have g1:=zIw hb2 hq k hk2
 have g2:=hb2 k
 have g3:=hq k
 repeat' (first|(refine goK (by assumption) ?_; iterate 4 (try clear hK K))|(refine zAb fun K hK=>?_)|((first|refine zAa hE rfl ?_|refine zAi ?_); simp +contextual only [hnl,↓kA,push_cast,seval,reduceCtorEq,cI])|refine zAd ?_|((first|refine zAg ?_|refine zAj ?_); simp only [thenQ,zAh,if_true,if_false,Nat.reduceEqDiff,reduceCtorEq])|(refine zAe (by rfl) (fun hb=>?_) (fun hb=>?_)<;>(try simp only [bq,reduceCtorEq] at hb)<;>(try omega))|refine andS ?_|fail)
 ·have g4:=zG2 (g2 (by omega)) (g3 (by omega))
  refine ⟨by unfold InR; omega,by unfold InR; omega,?_⟩
  repeat' (first|(refine goK (by assumption) ?_; iterate 4 (try clear hK K))|(refine zAa hE rfl ?_; simp +contextual only [hnl,↓kA,push_cast,seval,reduceCtorEq,cI])|refine andS ?_|fail)
  refine hL2 _ (k+1) (by omega) (by omega) ?_
  refine zAf ?_ ?_ ?_<;>simp only [push_cast,seval,reduceCtorEq,cI]
  rw [dotK,Int.add_assoc]
 ·obtain rfl:k=b.length:=by omega
  rfl
end Go.Proofs.YtekfodeknpnkbaaGreatDoor
namespace Go.Proofs.YtekfodeknpnkbaaGreatDoor
open Go.RowKit Go.VS Go.OT
theorem zKJ {a b:List Int} {c:List (List Int)} {w:Int} {p:zA3} (h:errWd a b c w=0) (h2:zA8 c w p=0):WPre a b p:=by
 have hf:=(zBE h).1
 have hm:=hf.mc
 unfold zA8 at h2
 split at h2
 ·split at h2
  ·rename_i h3
   obtain ⟨k1,k2,k3⟩:=zK5 h3
   obtain ⟨r1,r2⟩:=k2.row
   obtain ⟨c1,c2⟩:=k2.col
   have e1:=hf.rows
   have e2:=hf.cols
   have:=hm.a5
   have:=hm.b5
   exact ⟨by omega,by omega,by omega,by omega,fun i hi=>hm.ha.at hi,fun i hi=>hm.hb.at hi,fun i hi=>r2 i (by omega),fun i hi=>c2 i (by omega)⟩
  ·rename_i h3; exact absurd h2 h3
 ·omega
end Go.Proofs.YtekfodeknpnkbaaGreatDoor
namespace Go.Proofs.YtekfodeknpnkbaaGreatDoor
open Go.RowKit Go.VS Go.OT Go.LC
def errBL (a b:List Int) (c:List (List Int)) (w:Int) (t:List (List Int)) (p:zA3):Int :=
 if errWd a b c w=0 then if errLo a b t=0 then if zA8 c w p=0 then if costV a b c w t=zDh a b p then 0 else 8 else zA8 c w p else 7 else errWd a b c w
@[push_cast] def zKP:Con:=⟨[.dat (.sl .int),.dat (.sl .int),.dat (.sl (.sl .int)),.dat .int,.dat (.sl (.sl .int)),.dat (.prod (.sl .int) (.sl .int))],fun _=>True,fun (x:List Int×List Int×List (List Int)×Int×List (List Int)×zA3×Unit) =>
 {res:=[.val .int (errBL x.1 x.2.1 x.2.2.1 x.2.2.2.1 x.2.2.2.2.1 x.2.2.2.2.2.1)]}⟩
theorem zJ7:FnSpec Tryz.prog 76 zKP:=by
 refine FnSpec.of_tri' (E:=know _ [] [] []) (zAl (kc zDX (kc zTB (kc zWb (kc zKn (kc zPX (kc zIA (kc zOl all_nil))))))) all_nil all_nil) Tryz.func76 rfl rfl (by kernel_rfl) ?_
 intro C x hE hnl hfit hpre
 simp only [Tryz.ntmps76,Tryz.results76,maxLen,seval,push_cast] at hnl hfit hpre ⊢
 obtain ⟨(a:List Int),(b:List Int),(c:List (List Int)),(w:Int),(t:List (List Int)),⟨(u:List Int),(v:List Int)⟩,_⟩:=x
 dsimp only at hfit hpre ⊢
 by_cases hw:errWd a b c w=0
 ·by_cases hl:errLo a b t=0
  ·have he:errLC a b c w t=0:=by rw [errLC,if_pos hw]; exact hl
   obtain ⟨_,hp,hlo⟩:=zK4 he
   obtain ⟨hf,hw0,hw99⟩:=zBE hw
   have hfit2:=zTA hf hp hlo
   obtain ⟨s1,s2,s3,s4⟩:=MC.sums hf
   have h1:=zFO hp _ (Nat.le_refl _)
   have h2:=hfit2.spend t.length (Nat.le_refl _)
   have h3:=hp.rows
   have hfp:FullP a b w (spend c t) (movK t t.length):=⟨s1,s2,s3,s4,⟨hw0,hw99⟩,by show 0≤zCP c t t.length∧zCP c t t.length≤_; omega,by omega⟩
   by_cases hpr:zA8 c w (u,v)=0
   ·have h4:=zKJ hw hpr
    have eC:costV a b c w t=spend c t+w*(lsum a+lsum b - 2*movK t t.length):=rfl
    by_cases hq:costV a b c w t=zDh a b (u,v)
    ·have e:errBL a b c w t (u,v)=0:=by rw [errBL,if_pos hw,if_pos hl,if_pos hpr,if_pos hq]
     rw [eC] at hq
     replace hnl:=And.intro hnl (And.intro hw (And.intro hl (And.intro hpr (And.intro hfit2 (And.intro hp (And.intro (eq_true hfp) (And.intro h4 (And.intro e (eq_true hq)))))))))
     exact auB
    ·have e:errBL a b c w t (u,v)=8:=by rw [errBL,if_pos hw,if_pos hl,if_pos hpr,if_neg hq]
     rw [eC] at hq
     replace hnl:=And.intro hnl (And.intro hw (And.intro hl (And.intro hpr (And.intro hfit2 (And.intro hp (And.intro (eq_true hfp) (And.intro h4 (And.intro e (eq_false hq)))))))))
     exact auB
   ·have e:errBL a b c w t (u,v)=zA8 c w (u,v):=by rw [errBL,if_pos hw,if_pos hl,if_neg hpr]
    replace hnl:=And.intro hnl (And.intro hw (And.intro hl (And.intro (eq_false hpr) e)))
    exact auB
  ·have e:errBL a b c w t (u,v)=7:=by rw [errBL,if_pos hw,if_neg hl]
   replace hnl:=And.intro hnl (And.intro hw (And.intro (eq_false hl) e))
   exact auB
 ·have e:errBL a b c w t (u,v)=errWd a b c w:=by rw [errBL,if_neg hw]
  replace hnl:=And.intro hnl (And.intro (eq_false hw) e)
  exact auB
end Go.Proofs.YtekfodeknpnkbaaGreatDoor
namespace Go.Proofs.YtekfodeknpnkbaaGreatDoor
open Go.RowKit Go.VS Go.OT
structure PrPre (c p:List (List Int)):Prop where
 R6:1≤c.length∧c.length≤6
 C6:1≤wid c∧wid c≤6
 hc:Tb c.length (wid c) 0 99 c
 hp:Tb c.length (wid c) 0 200 p
def prV (c p:List (List Int)):PS:=prK c p c.length (wid c) (c.length+wid c)
@[push_cast] def zUI:Con:=⟨[.dat (.sl (.sl .int)),.dat (.sl (.sl .int))],fun (x:List (List Int)×List (List Int)×Unit)=>PrPre x.1 x.2.1,fun (x:List (List Int)×List (List Int)×Unit)=>{res:=[.own (.flat 3 .int (prV x.1 x.2.1).r),.own (.flat 3 .int (prV x.1 x.2.1).k)]}⟩
theorem pr2_y {c p:List (List Int)} {i j:Nat} {s:PS} (hn:0<(p.getD i []).getD j 0) (hj:j<s.k.length):pr2 c p i j s=⟨s.r.set i (max (s.r.getD i 0) ((c.getD i []).getD j 0 - min (s.k.getD j 0) ((c.getD i []).getD j 0 - s.r.getD i 0))),s.k.set j (min (s.k.getD j 0) ((c.getD i []).getD j 0 - s.r.getD i 0))⟩:=by
 unfold pr2 prR prC
 rw [if_pos hn]
 dsimp only
 rw [zBw hj,if_pos rfl]
theorem pr2_n {c p:List (List Int)} {i j:Nat} {s:PS} (hn:¬0<(p.getD i []).getD j 0):pr2 c p i j s=⟨s.r,s.k.set j (min (s.k.getD j 0) ((c.getD i []).getD j 0 - s.r.getD i 0))⟩:=by
 unfold pr2 prR prC
 rw [if_neg hn]
set_option maxHeartbeats 2000000 in
theorem zOP:FnSpec Tryz.prog 131 zUI:=by
 refine FnSpec.of_tri' (E:=know [] [] [] [12,17]) (zAl all_nil all_nil all_nil) Tryz.func131 rfl rfl (by kernel_rfl) ?_
 intro C x hE hnl hfit hpre
 simp only [Tryz.ntmps131,Tryz.results131,maxLen,seval,push_cast] at hnl hfit hpre ⊢
 obtain ⟨(c:List (List Int)),(p:List (List Int)),_⟩:=x
 dsimp only at hfit hpre ⊢
 obtain ⟨h1,h2,hc,hp⟩:=hpre
 have hw:(c.getD 0 []).length=wid c:=rfl
 have hpl:=hp.rows
 have hrep:∀ n,(List.replicate n (0:Int)).length=n:=fun n=>List.length_replicate
 replace hnl:=And.intro hnl (And.intro hw hrep)
 repeat' (first|(refine zC7 4 12 12 (by simp only [push_cast,seval,reduceCtorEq,cI]; rfl) (by omega) ?_)|(refine zC7 5 17 17 (by simp only [push_cast,seval,reduceCtorEq,cI]; rfl) (by omega) ?_)|(first|(refine goK (by assumption) ?_; iterate 4 (try clear hK K))|(refine zAb fun K hK=>?_)|((first|refine zAa hE rfl ?_|refine zAi ?_|((first|refine zAc hE 1 rfl rfl (by kernel_rfl) ?_|refine zAc hE 2 rfl rfl (by kernel_rfl) ?_|refine zAc hE 3 rfl rfl (by kernel_rfl) ?_|refine zAc hE 4 rfl rfl (by kernel_rfl) ?_); simp only [List.length_cons,List.length_nil,Nat.reduceAdd,Nat.reduceSub,List.take_succ_cons,List.take_zero,List.drop_succ_cons,List.drop_zero])); simp +contextual only [hnl,↓kA,push_cast,seval,reduceCtorEq,cI])|refine zAd ?_|((first|refine zAg ?_|refine zAj ?_); simp only [thenQ,zAh,if_true,if_false,Nat.reduceEqDiff,reduceCtorEq])|(refine zAe (by rfl) (fun hb=>?_) (fun hb=>?_)<;>(try simp only [bq,reduceCtorEq] at hb)<;>(try omega))|refine zAr (by rfl) ?_ ?_|refine andS ?_|(refine ⟨fun hc=>?_,fun hc=>?_⟩)|(intro hc; try omega)))
 refine zAk (fun n:Nat=>AS.of [(0,.one (.val (.sl (.sl .int)) c)),(1,.one (.val (.sl (.sl .int)) p)),(4,.one (.ref 12)),(5,.one (.ref 17)),(22,.I ((c.length:Int)+(wid c:Int))),(23,.I n)] [(12,.flat 3 .int (prK c p c.length (wid c) n).r),(17,.flat 3 .int (prK c p c.length (wid c) n).k)] [])
  (fun n=>n≤c.length+wid c) (fun n=>c.length+wid c - n) 0 (Nat.zero_le _) ?_ ?_
 ·refine zAf ?_ ?_ ?_<;>simp only [push_cast,seval,reduceCtorEq,cI]
  exact ⟨.inl rfl,.inl rfl⟩
 intro n hn K' hL
 have hD:=zP2 (p:=p) hc h1.2 h2.2 n
 have hDn:prK c p c.length (wid c) (n+1)=upto (prRow c p) c.length (prK c p c.length (wid c) n):=rfl
 repeat' (first|(refine goK (by assumption) ?_; iterate 4 (try clear hK K))|(refine zAb fun K hK=>?_)|((first|refine zAa hE rfl ?_|refine zAi ?_); simp +contextual only [hnl,↓kA,push_cast,seval,reduceCtorEq,cI])|refine zAd ?_|((first|refine zAg ?_|refine zAj ?_); simp only [thenQ,zAh,if_true,if_false,Nat.reduceEqDiff,reduceCtorEq])|(refine zAe (by rfl) (fun hb=>?_) (fun hb=>?_)<;>(try simp only [bq,reduceCtorEq] at hb)<;>(try omega))|fail)
 ·generalize prK c p c.length (wid c) n=s0 at hD hDn ⊢
  refine zAk (fun i:Nat=>AS.of [(0,.one (.val (.sl (.sl .int)) c)),(1,.one (.val (.sl (.sl .int)) p)),(4,.one (.ref 12)),(5,.one (.ref 17)),(22,.I ((c.length:Int)+(wid c:Int))),(23,.I n),(25,.one (.val (.sl (.sl .int)) c)),(26,.I c.length),(27,.I i)] [(12,.flat 3 .int (upto (prRow c p) i s0).r),(17,.flat 3 .int (upto (prRow c p) i s0).k)] [])
   (fun i=>i≤c.length) (fun i=>c.length - i) 0 (Nat.zero_le _) ?_ ?_
  ·refine zAf ?_ ?_ ?_<;>simp only [push_cast,seval,reduceCtorEq,cI]
   exact ⟨.inl rfl,.inl rfl⟩
  intro i hi K2 hL2
  repeat' (first|(refine goK (by assumption) ?_; iterate 4 (try clear hK K))|(refine zAb fun K hK=>?_)|(refine zAa hE rfl ?_; simp +contextual only [hnl,↓kA,push_cast,seval,reduceCtorEq,cI])|refine zAd ?_|((first|refine zAg ?_|refine zAj ?_); simp only [thenQ,zAh,if_true,if_false,Nat.reduceEqDiff,reduceCtorEq])|(refine zAe (by rfl) (fun hb=>?_) (fun hb=>?_)<;>(try simp only [bq,reduceCtorEq] at hb)<;>(try omega))|refine andS ?_|fail)
  ·have hi':i<c.length:=by omega
   have hci:=hc.cols i hi'
   have hpi:=hp.cols i hi'
   have hQ:=PSt.tab (p:=p) hc h2.2 hD i (by omega)
   have hQn:upto (prRow c p) (i+1) s0=upto (pr2 c p i) (c.getD i []).length (upto (prRow c p) i s0):=rfl
   generalize upto (prRow c p) i s0=s1 at hQ hQn ⊢
   refine zAk (fun j:Nat=>AS.of [(0,.one (.val (.sl (.sl .int)) c)),(1,.one (.val (.sl (.sl .int)) p)),(4,.one (.ref 12)),(5,.one (.ref 17)),(6,.I i),(22,.I ((c.length:Int)+(wid c:Int))),(23,.I n),(25,.one (.val (.sl (.sl .int)) c)),(26,.I c.length),(27,.I i),(32,.one (.val (.sl .int) (c.getD i []))),(33,.I (c.getD i []).length),(34,.I j)] [(12,.flat 3 .int (upto (pr2 c p i) j s1).r),(17,.flat 3 .int (upto (pr2 c p i) j s1).k)] [])
    (fun j=>j≤wid c) (fun j=>wid c - j) 0 (Nat.zero_le _) ?_ ?_
   ·refine zAf ?_ ?_ ?_<;>simp only [push_cast,seval,reduceCtorEq,cI]
    exact ⟨.inl rfl,.inl rfl⟩
   intro j hj K3 hL3
   have hF:=PSt.row (p:=p) hc hQ hi' j hj
   have hFn:upto (pr2 c p i) (j+1) s1=pr2 c p i j (upto (pr2 c p i) j s1):=rfl
   generalize hs2:upto (pr2 c p i) j s1=s2 at hF hFn ⊢
   have g1:=hF.l1
   have g2:=hF.l2
   have g3:=hF.b1 i hi'
   rcases Nat.lt_or_ge j (wid c) with hjb|hjb
   ·have g4:=hF.b2 j hjb
    have g5:=hc.at' i j hi' hjb
    have g6:∀ x:Int,(s2.k.set j x).getD j 0=x:=fun x=>by rw [zBw (by omega),if_pos rfl]
    have g7:∀ x:Int,(s2.k.set j x).length=s2.k.length:=fun x=>List.length_set
    replace hnl:=And.intro hnl (And.intro g6 g7)
    repeat' (first|(refine goK (by assumption) ?_; iterate 4 (try clear hK K))|(refine zAb fun K hK=>?_)|((first|refine zAa hE rfl ?_|((first|refine zAc hE 1 rfl rfl (by kernel_rfl) ?_|refine zAc hE 2 rfl rfl (by kernel_rfl) ?_|refine zAc hE 3 rfl rfl (by kernel_rfl) ?_|refine zAc hE 4 rfl rfl (by kernel_rfl) ?_); simp only [List.length_cons,List.length_nil,Nat.reduceAdd,Nat.reduceSub,List.take_succ_cons,List.take_zero,List.drop_succ_cons,List.drop_zero])); simp +contextual only [hnl,↓kA,push_cast,seval,reduceCtorEq,cI])|refine zAd ?_|(refine zAg ?_; simp only [thenQ,zAh,if_true,if_false,Nat.reduceEqDiff,reduceCtorEq])|(refine zAe (by rfl) (fun hb=>?_) (fun hb=>?_)<;>(try simp only [bq,reduceCtorEq] at hb)<;>(try omega))|refine andS ?_|fail)
    all_goals refine hL3 _ (j+1) (by omega) (by omega) ?_
    all_goals refine zAf ?_ ?_ ?_<;>simp only [push_cast,seval,reduceCtorEq,cI]
    all_goals rw [hFn]
    all_goals first|rw [pr2_y (by omega) (by omega)]|rw [pr2_n (by omega)]
    all_goals exact ⟨.inl rfl,.inl rfl⟩
   ·repeat' (first|(refine goK (by assumption) ?_; iterate 4 (try clear hK K))|(refine zAb fun K hK=>?_)|(refine zAa hE rfl ?_; simp +contextual only [hnl,↓kA,push_cast,seval,reduceCtorEq,cI])|(refine zAj ?_; simp only [thenQ,zAh,if_true,if_false,Nat.reduceEqDiff,reduceCtorEq])|(refine zAe (by rfl) (fun hb=>?_) (fun hb=>?_)<;>(try simp only [bq,reduceCtorEq] at hb)<;>(try omega))|refine andS ?_|fail)
    obtain rfl:j=(c.getD i []).length:=by omega
    rw [hs2] at hQn
    refine hL2 _ (i+1) (by omega) (by omega) ?_
    refine zAf ?_ ?_ ?_<;>simp only [push_cast,seval,reduceCtorEq,cI]
    rw [hQn]
    exact ⟨.inl rfl,.inl rfl⟩
  ·obtain rfl:i=c.length:=by omega
   refine hL _ (n+1) (by omega) (by omega) ?_
   refine zAf ?_ ?_ ?_<;>simp only [push_cast,seval,reduceCtorEq,cI]
   rw [hDn]
   exact ⟨.inl rfl,.inl rfl⟩
 ·obtain rfl:n=c.length+wid c:=by omega
  exact ⟨rfl,rfl⟩
end Go.Proofs.YtekfodeknpnkbaaGreatDoor
namespace Go.Proofs.YtekfodeknpnkbaaGreatDoor
open Go.RowKit Go.VS Go.OT Go.LC
section
variable {a b:List Int} {c:List (List Int)} {w d e m:Int}
theorem zZA (h:DumP a b c m) (hd:0≤d∧d≤99) (he:0≤e∧e≤99):MC (dumA a b m) (dumA b a m) (dumC c d e):=by
 have hq:=zPv h hd (e:=e) (by omega)
 refine ⟨hq.a5,hq.b5,hq.ha,hq.hb,⟨hq.hc.rows,hq.hc.cols,fun i j hi hj=>?_⟩⟩
 have hf:=h.f
 have hr:=hf.rows
 have hw:=hf.cols
 rw [zB2] at hi hj
 have h9:=zK0 (d:=d) (e:=e) hf.hc (i:=i) (j:=j) (by omega) (by omega)
 unfold gt at h9
 rw [h9]
 unfold costD
 split
 ·rename_i h
  split
  ·rename_i h'
   exact hf.hc.at h h'
  ·exact hd
 ·split
  ·exact hd
  ·exact he
def lpT (c:List (List Int)) (w:Int):List (List Int):=dumC c w 0
def lpP (a b:List Int) (c:List (List Int)) (w:Int):List (List Int):=cheapV (dumA a b 0) (dumA b a 0) (lpT c w)
def lpS (a b:List Int) (c:List (List Int)) (w:Int):PS:=prV (lpT c w) (lpP a b c w)
def lpRk (a b:List Int) (c:List (List Int)) (w:Int) (k:Nat):List Int:=tbl (a.length+1) fun i=>if i<k then (lpS a b c w).r.getD i 0+(lpS a b c w).k.getD b.length 0 else (lpS a b c w).r.getD i 0
def lpCk (a b:List Int) (c:List (List Int)) (w:Int) (k:Nat):List Int:=tbl (b.length+1) fun j=>if j<k then (lpS a b c w).k.getD j 0+(lpS a b c w).r.getD a.length 0 else (lpS a b c w).k.getD j 0
def lpR (a b:List Int) (c:List (List Int)) (w:Int):zA3:=(tbl a.length fun i=>(lpS a b c w).r.getD i 0+(lpS a b c w).k.getD b.length 0,tbl b.length fun j=>(lpS a b c w).k.getD j 0+(lpS a b c w).r.getD a.length 0)
structure LpOK (a b:List Int) (c:List (List Int)) (w:Int):Prop where
 mc:MC (dumA a b 0) (dumA b a 0) (lpT c w)
 pre:PrPre (lpT c w) (lpP a b c w)
 l1:(lpS a b c w).r.length=a.length+1
 l2:(lpS a b c w).k.length=b.length+1
 b1:∀ i,i<a.length+1→0≤(lpS a b c w).r.getD i 0∧(lpS a b c w).r.getD i 0≤99
 b2:∀ j,j<b.length+1 → -99≤(lpS a b c w).k.getD j 0∧(lpS a b c w).k.getD j 0≤0
 holds:Holds (a.length+1) (b.length+1) (costD a.length b.length (gt c) w 0) (fun i=>(lpS a b c w).r.getD i 0) (fun j=>(lpS a b c w).k.getD j 0)
 val:worth (a.length+1) (b.length+1) (withD a.length (ga a) (sumL b)) (withD b.length (ga b) (sumL a)) (fun i=>(lpS a b c w).r.getD i 0) (fun j=>(lpS a b c w).k.getD j 0)=zBa a b c w
 cost:cst (a.length+1) (b.length+1) (gt (lpT c w)) (gt (lpP a b c w))=zBa a b c w
 sums:sumL (dumA a b 0)=sumL (dumA b a 0)
theorem zY1 (hf:ForOK a b c):wid (dumC c d e)=wid c+1:=by
 have hr:=hf.rows
 have ha:=hf.mc.a5
 have:=zK1 (d:=d) (e:=e) (c:=c) (i:=0) (by omega)
 unfold wid at this ⊢
 rw [this,List.length_append]
 rfl
theorem lp_ok (hf:ForOK a b c) (hw:0≤w∧w≤99):LpOK a b c w:=by
 have hd:DumP a b c 0:=⟨hf,by omega,by have:=MC.sums hf; omega⟩
 have hmc:=zZA hd hw (e:=0) (by omega)
 have hs:sumL (dumA a b 0)=sumL (dumA b a 0):=(zPv hd hw (e:=0) (by omega)).hs
 have hb:=hmc.best hs
 obtain ⟨r,s,g1,g2,g3,g4⟩:=hb.good
 have hr:=hf.rows
 have hc:=hf.cols
 have ha5:=hf.mc.a5
 have hb5:=hf.mc.b5
 have am:=zCw hf.ha
 have bm:=zCw hf.hb
 have hTl:(lpT c w).length=a.length+1:=by rw [lpT,zPu,hr]
 have hTw:wid (lpT c w)=b.length+1:=by rw [lpT,zY1 hf,hc]
 have hct:=hmc.hc
 have hpt:=hb.shp.tab
 have hpl:=hb.plan
 rw [zB2,zB2] at hct hpt hpl g1 g2
 rw [zB2] at g3 g4
 have e:lpS a b c w=prK (dumC c w 0) (lpP a b c w) (a.length+1) (b.length+1) (a.length+1+(b.length+1)):=by
  unfold lpS prV
  rw [hTl,hTw]
  rfl
 have hst:=zP2 (p:=lpP a b c w) hct (by omega) (by omega) (a.length+1+(b.length+1))
 obtain ⟨q1,q2,q3,q4⟩:=yAr (p:=lpP a b c w) hct (by omega) (by omega) g1 g2 g3 g4
 rw [←e] at hst q1 q2 q3 q4
 have hC:∀ i j,i<a.length+1→j<b.length+1→gt (dumC c w 0) i j=costD a.length b.length (gt c) w 0 i j:=fun i j hi hj=>by
  rw [zK0 hf.hc (by omega) (by omega),hr,hc]
 have eC:∀ Q,cst (a.length+1) (b.length+1) (costD a.length b.length (gt c) w 0) Q=cst (a.length+1) (b.length+1) (gt (dumC c w 0)) Q:=fun Q=>by
  unfold cst
  exact zAm _ fun i hi=>zAm _ fun j hj=>by rw [hC i j hi hj]
 have hpl2:IsPlan (a.length+1) (b.length+1) (withD a.length (ga a) (sumL b - 0)) (withD b.length (ga b) (sumL a - 0)) (gt (lpP a b c w)) :=
  ⟨hpl.nn,fun i hi=>(hpl.row i hi).trans (zGd hi),fun j hj=>(hpl.col j hj).trans (zGd hj)⟩
 have k1:=hpl2.worth_eq q2
 have k2:=zJM hf.mc w (v:=cst (a.length+1) (b.length+1) (costD a.length b.length (gt c) w 0) (gt (lpP a b c w))) ⟨_,hpl2,rfl⟩ (fun Q hQ=>by
  rw [eC,eC]; exact hpl2.least q1 q2 hQ)
 refine ⟨hmc,⟨by omega,by omega,?_,?_⟩,hst.l1,hst.l2,q3,q4,fun i j hi hj=>?_,?_,?_,hs⟩
 ·rw [hTl,hTw]; exact hct
 ·rw [hTl,hTw]; exact hpt
 ·rw [←hC i j hi hj]; exact q1 i j hi hj
 ·rw [Int.sub_zero,Int.sub_zero] at k1
  rw [k1,←eC,k2]
 ·exact (eC _).symm.trans k2
theorem zH9 (hf:ForOK a b c) (hw:0≤w∧w≤99):zA8 c w (lpR a b c w)=0∧zDh a b (lpR a b c w)=zBa a b c w:=by
 have h:=lp_ok hf hw
 have hr:=hf.rows
 have hc:=hf.cols
 have hm:(lpS a b c w).r.getD a.length 0+(lpS a b c w).k.getD b.length 0≤0:=by
  have:=h.holds a.length b.length (by omega) (by omega)
  unfold costD at this
  rwa [if_neg (Nat.lt_irrefl _),if_neg (Nat.lt_irrefl _)] at this
 obtain ⟨k1,k2,k3,k4⟩:=zN4 (a:=ga a) (b:=ga b) h.holds hm
 have eR:∀ i,i<a.length→ga (lpR a b c w).1 i=(lpS a b c w).r.getD i 0+(lpS a b c w).k.getD b.length 0:=fun i hi=>zBu _ _ hi
 have eC:∀ j,j<b.length→ga (lpR a b c w).2 j=(lpS a b c w).k.getD j 0+(lpS a b c w).r.getD a.length 0:=fun j hj=>zBu _ _ hj
 have lR:(lpR a b c w).1.length=a.length:=zAZ _ _
 have lC:(lpR a b c w).2.length=b.length:=zAZ _ _
 have at_mem:∀ (l:List Int) (x:Int),x∈l→∃ i,i<l.length∧x=ga l i:=fun l x hx=>by
  obtain ⟨i,hi,rfl⟩:=List.getElem_of_mem hx
  exact ⟨i,hi,by unfold ga; rw [List.getD_eq_getElem?_getD,List.getElem?_eq_getElem hi]; rfl⟩
 have hholds:HoldP c (lpR a b c w):=fun i hi j hj=>by
  show ga (lpR a b c w).1 i+ga (lpR a b c w).2 j≤gt c i j
  rw [eR i (by omega),eC j (by omega)]
  exact k1 i j (by omega) (by omega)
 have hare:ArePr c (lpR a b c w):=by
  refine ⟨⟨by rw [lR,hr],fun x hx=>?_⟩,⟨by rw [lC,hc],fun x hx=>?_⟩⟩
  ·obtain ⟨i,hi,rfl⟩:=at_mem _ _ hx
   rw [lR] at hi
   rw [eR i hi]
   have:=h.b1 i (by omega)
   have:=h.b2 b.length (by omega)
   omega
  ·obtain ⟨i,hi,rfl⟩:=at_mem _ _ hx
   rw [lC] at hi
   rw [eC i hi]
   have:=h.b2 i (by omega)
   have:=h.b1 a.length (by omega)
   omega
 have hlow:LowP w (lpR a b c w):=fun x hx=>by
  rcases List.mem_append.1 hx with hx|hx
  ·obtain ⟨i,hi,rfl⟩:=at_mem _ _ hx
   rw [lR] at hi
   rw [eR i hi]
   exact k2 i hi
  ·obtain ⟨i,hi,rfl⟩:=at_mem _ _ hx
   rw [lC] at hi
   rw [eC i hi]
   exact k3 i hi
 refine ⟨?_,?_⟩
 ·rw [zA8,if_pos ⟨zEj hf.hc,if_pos hw⟩,if_pos (zN8 hf.hc hare hholds),if_pos hlow]
 ·rw [worth_eq,←h.val]
  refine Eq.trans ?_ k4
  unfold worth
  rw [zAm a.length fun i hi=>by rw [eR i hi],zAm b.length fun j hj=>by rw [eC j hj]]
end
end Go.Proofs.YtekfodeknpnkbaaGreatDoor
namespace Go.Proofs.YtekfodeknpnkbaaGreatDoor
open Go.RowKit Go.VS Go.OT
structure RepQ (E:Know) (nl:Nat) (L:List Oper) (n x y d:Nat) (K:AS→Prop) (s':AS):Prop where
 h:∃ m v:Int,s'.env x=.one (.val (.sl .int) [v])∧s'.env y=.one (.val .int m)∧0≤m∧m≤1000 ∧
  runK E nl L.toArray (L.drop (n+1)) (((s'.map (killR d)).setRoot d (some (.flat 3 .int (List.replicate m.toNat v)))).put (some d) (.one (.ref d))) K
theorem RepQ.mk' {E:Know} {nl:Nat} {L:List Oper} {n x y d:Nat} {K:AS→Prop} {s':AS} (m v:Int) (h1:s'.env x=.one (.val (.sl .int) [v])) (h2:s'.env y=.one (.val .int m)) (h3:0≤m) (h4:m≤1000)
 (h5:runK E nl L.toArray (L.drop (n+1)) (((s'.map (killR d)).setRoot d (some (.flat 3 .int (List.replicate m.toNat v)))).put (some d) (.one (.ref d))) K):RepQ E nl L n x y d K s':=⟨m,v,h1,h2,h3,h4,h5⟩
theorem zR3 {C:Ctx} {N:Nat} {Q:Exit→AS→Prop} {s:AS} {E:Know} (hE:KnowOK C.P E) (hP:C.P=Tryz.prog) {id d x y:Nat} {ats:Array TypeId} {ty:TypeId} {pos:String} {af:Array Edge} {L:List Oper} (n:Nat) (hnl:C.nl≤d)
 (hL:L=L.take n++⟨some d,.call {callee:=.value (.func 93),args:=#[.tmp x,.tmp y],argTypes:=ats},ty,pos,af,none⟩::L.drop (n+1)) (hd:zEe N L=true)
 (h:runK E C.nl L.toArray (L.take n) s (RepQ E C.nl L n x y d (Q .normal))):tri C N (.region id L.toArray false) Q s:=by
 refine ⟨fun γ a w hr hN=>?_⟩
 have hd':∀ (j:Nat) (o:Oper),L.toArray[j]?=some o→dstOK N o.dst=true:=fun j o ho=>zBp (ops:=L.toArray) (by simpa using hd) j o ho
 have hb:=List.all_eq_true.1 hd
 have hdd:d<N:=by
  have:=hb ⟨some d,.call {callee:=.value (.func 93),args:=#[.tmp x,.tmp y],argTypes:=ats},ty,pos,af,none⟩ (by rw [hL]; simp)
  simpa [dstOK] using this
 refine wp_region_lit ?_
 have key:=runK_then (N:=N) (rest:=⟨some d,.call {callee:=.value (.func 93),args:=#[.tmp x,.tmp y],argTypes:=ats},ty,pos,af,none⟩::L.drop (n+1)) hE (Q:=fun e a' w'=>∃ s' γ',Rel C γ' s' a' w'∧a'.tmps.size=N∧Q e s') hd'
  (fun s' γ' a' w' h1 h2 h3=>?_) (L.take n) s γ a w (fun o ho=>hb o (List.mem_of_mem_take ho)) hN hr h
 ·rw [←hL] at key
  exact key
 obtain ⟨m,v,k1,k2,k3,k4,k5⟩:=h3.h
 have hx:=h1.env x
 have hy:=h1.env y
 rw [k1] at hx
 rw [k2] at hy
 obtain ⟨k,rfl⟩:∃ k:Nat,m=k:=⟨m.toNat,by omega⟩
 have hyv:a'.tmps.getD y undef=.int .i64 (k:Int):=zAH hy
 obtain ⟨cs,⟨ad,cap,rfl,hc,hm,hall⟩,hxv⟩:=hx
 obtain ⟨b,off,c,rfl,hz,hbb,hp,hcell⟩:=hall 0 (by simp)
 have hp':c=[.int .i64 v]:=hp
 subst hp'
 have hcl:w'.cell? ⟨b,off,none⟩=some (.int .i64 v):=by simpa using hcell 0 _ rfl
 have hxv':a'.tmps.getD x undef=.slice (some ⟨b,off,none⟩) 1 cap:=hxv
 have hcal:zBf C.P 93:=by rw [hP]; exact ⟨_,Tryz.func93,by kernel_rfl,rfl⟩
 refine wpList_step fun K' hK'=>?_
 simp only [Region.wanted,if_true]
 have e1:=zDM hcal (ρ:=a'.eval) (x:=.func 93) (caps:=#[]) rfl #[.tmp x,.tmp y] ats (some d) ty pos af none w'
 simp only [Oper.wp,e1,Oper.upon]
 have hargs:#[Operand.tmp x,.tmp y].map a'.eval++#[]=#[.slice (some ⟨b,off,none⟩) 1 cap,.int .i64 (k:Int)]:=by
  simp only [Array.getD_eq_getD_getElem?] at hxv' hyv
  simp [Act.eval,hxv',hyv]
 rw [hargs,hP]
 refine (zHS v k (by omega) w' b off cap hcl hbb).mono ?_
 rintro e w2 ⟨rfl,hheap,hbel⟩
 refine hK' _ _ ?_
 have hgr:w'.grownBy w2 none:=⟨hbel.os,hbel.tape,hbel.output,hbel.size,fun k hk _=>hbel.block k hk⟩
 let X:Sl:=⟨some ⟨w'.heap.size,0,none⟩,k,k⟩
 have hXb:∀ b,X.v.ownBlock=some b→b=w'.heap.size∧b<w2.heap.size:=fun b hb=>by
  simp only [X,Sl.v,Value.ownBlock,Option.some.injEq] at hb
  subst hb
  exact ⟨rfl,(Array.getElem?_eq_some_iff.1 hheap).1⟩
 have hfm:(List.replicate k v).flatMap (Sh.int).cells=List.replicate k (Value.int .i64 v):=by rw [List.flatMap_replicate]; simp [Sh.cells]
 have hrel:Rel C (zCa γ' d X (γ'.rs d) w'.heap.size) ((s'.map (killR d)).setRoot d (some (.flat 3 .int (List.replicate (k:Int).toNat v)))) a' w2:=by
  refine zHm h1 hnl X (γ'.rs d) hgr hXb ⟨rfl,?_,?_⟩
  ·rw [zA4,Int.toNat_natCast,List.length_replicate,hfm]
   exact ⟨by simp [Sh.size],.inr ⟨w'.heap.size,_,_,rfl,Nat.zero_le _,hheap,Nat.le_refl _,by show k≤maxLen; unfold maxLen; omega,by simp [X,Sh.size],by simp [Sh.size]⟩⟩
  ·rw [zA4]
   exact zDD h1 (fun b hb=>(hXb b hb).1)
 have hput:=hrel.put (d:=some d) (by simp [dstOK,h2,hdd]) (sv:=.one (.ref d)) (v:=X.v) (by simp only [svRep,bvRep]; rw [zA4])
 exact zDE (N:=N) hE hd' (fun s2 γ2 a2 w2 g1 g2 g3=>⟨s2,γ2,g1,g2,g3⟩) (L.drop (n+1)) _ _ _ _ (fun o ho=>hb o (List.mem_of_mem_drop ho)) (by simp [Act.put,h2]) hput k5
end Go.Proofs.YtekfodeknpnkbaaGreatDoor
