import Derived.Test.YtekfodeknpnkbaaGreatDoorJ6
set_option linter.unusedSimpArgs false
set_option linter.unusedVariables false
namespace Go.Proofs.YtekfodeknpnkbaaGreatDoor
open Go.RowKit Go.VS
def InL (n lo hi:Int) (l:List Int):Prop:=l.length=n/\∀ x∈l,lo<=x/\x<=hi
instance (n lo hi:Int) (l:List Int):Decidable (InL n lo hi l):=by unfold InL; infer_instance
structure InTab (lo hi:Int) (p:List (List Int)):Prop where
 rows:1<=p.length/\p.length<=5
 cols:1<=wid p/\wid p<=5
 row:∀ r∈p,InL (wid p) lo hi r
theorem inTab_iff {lo hi:Int} {p:List (List Int)}:InTab lo hi p↔((1<=p.length/\p.length<=5)/\(1<=wid p/\wid p<=5)/\∀ r∈p,InL (wid p) lo hi r):=⟨fun ⟨a,b,c⟩=>⟨a,b,c⟩,fun ⟨a,b,c⟩=>⟨a,b,c⟩⟩
instance (lo hi:Int) (p:List (List Int)):Decidable (InTab lo hi p):=decidable_of_iff _ inTab_iff.symm
theorem InTab.len {lo hi:Int} {p:List (List Int)} (h:InTab lo hi p) {i:Nat} (hi:i<p.length):(p.getD i []).length=wid p:=by
 have:=(h.row _ (zA0 [] hi)).1
 omega
theorem InTab.at {lo hi:Int} {p:List (List Int)} (h:InTab lo hi p) {i j:Nat} (h1:i<p.length) (h2:j<wid p):lo<=(p.getD i []).getD j 0/\(p.getD i []).getD j 0<=hi :=
 (h.row _ (zA0 [] h1)).2 _ (zA0 0 (by rw [h.len h1]; exact h2))
theorem zJR {lo hi:Int} {p:List (List Int)} (h1:1<=p.length/\p.length<=5) (h2:1<=wid p/\wid p<=5) (h:∀ i,i<p.length->(p.getD i []).length=wid p/\∀ j,j<wid p->lo<=(p.getD i []).getD j 0/\(p.getD i []).getD j 0<=hi):InTab lo hi p:=by
 refine ⟨h1,h2,fun r hr=>?_⟩
 obtain ⟨i,hi,rfl⟩:=aN hr
 have e:p.getD i []=p[i]:=by rw [ab,aj hi]; rfl
 have:=h i hi
 rw [e] at this
 refine ⟨by rw [this.1],fun x hx=>?_⟩
 obtain ⟨j,hj,rfl⟩:=aN hx
 have h3:=this.2 j (by rw [<-this.1]; exact hj)
 rwa [ab,aj hj] at h3
def zAH (p:List (List Int)):Int:=if InTab 0 99 p then 0 else 1
theorem zDH {p:List (List Int)} (h:InTab 0 99 p):zAH p=0:=ah h
theorem zDg {p:List (List Int)} (h:¬InTab 0 99 p):zAH p=1:=ae h
theorem zCa {p:List (List Int)} (h:zAH p=0):InTab 0 99 p:=by
 by_cases h2:InTab 0 99 p
 ·exact h2
 ·rw [zDg h2] at h; omega
theorem zIF (p:List (List Int)):zAH p=0\/zAH p=1:=by
 unfold zAH
 split<;>simp
@[push_cast] def zUI:Clo:=⟨[.int,.int],[.int],.bool,fun _ _=>True,fun (y:Int×Int×Unit) (x:Int×Unit)=>!decide (y.1<=x.1/\x.1<=y.2.1)⟩
@[push_cast] def zU8:Con:=⟨[.dat .int,.ptr .int,.ptr .int],fun _=>True,fun (x:Int×Int×Int×Unit)=>{res:=[.val .bool (!decide (x.2.1<=x.1/\x.1<=x.2.2.1))]}⟩
@[push_cast] def zWJ:Con:=⟨[.dat (.sl .int),.dat .int,.dat .int,.dat .int],fun _=>True,fun (x:List Int×Int×Int×Int×Unit)=>{res:=[.val .bool (decide (InL x.2.1 x.2.2.1 x.2.2.2.1 x.1))]}⟩
@[push_cast] def zHs:Con:=⟨[.dat (.sl (.sl .int))],fun _=>True,fun (x:List (List Int)×Unit)=>{res:=[.val .int (zAH x.1)]}⟩
@[push_cast] def zTv:Con:=⟨[.dat (.sl (.sl .int)),.dat .int,.dat .int],fun _=>True,fun (x:List (List Int)×Int×Int×Unit)=>{res:=[.val .bool (decide (InTab x.2.1 x.2.2.1 x.1))]}⟩
theorem zU9:FnSpec Tryz.prog 134 zU8:=by
 refine FnSpec.of_tri' (E:=know _ [] [] []) (zAl (kc zGO all_nil) all_nil all_nil) Tryz.func134 rfl rfl kr ?_
 intro C x hE hnl hfit hpre
 simp only [Tryz.ntmps134,Tryz.results134,maxLen,seval,push_cast] at hnl hfit hpre ⊢
 obtain ⟨(n:Int),(lo:Int),(hi:Int),_⟩:=x
 dsimp only at hfit hpre ⊢
 exact auA
theorem zQr:CloSpec Tryz.prog 134 zUI:=CloSpec.of zU9
theorem zVL {n lo hi:Int} {l:List Int} (h:(l.length:Int)=n):(!l.any fun y=>!decide (lo<=y/\y<=hi))=decide (InL n lo hi l):=by
 by_cases hl:InL n lo hi l
 ·rw [aD hl,co,cR]
  intro x hx
  simpa using hl.2 x hx
 ·rw [aF hl,Bool.not_eq_false',cg]
  apply aO
  intro h2
  refine hl ⟨h,fun x hx=>?_⟩
  apply aO
  intro h3
  exact h2 ⟨x,hx,by simp only [co,cB]; exact h3⟩
theorem zNz:FnSpec Tryz.prog 87 zWJ:=by
 refine FnSpec.of_tri' (E:=know [(133,zCv)] [(134,zUI)] [] []) (zAl (all_cons zCk all_nil) (all_cons zQr all_nil) all_nil) Tryz.func87 rfl rfl kr ?_
 intro C x hE hnl hfit hpre
 simp only [Tryz.ntmps87,Tryz.results87,maxLen,seval,push_cast] at hnl hfit hpre ⊢
 obtain ⟨(l:List Int),(n:Int),(lo:Int),(hi:Int),_⟩:=x
 dsimp only at hfit hpre ⊢
 repeat' (first|(refine goK (by assumption) ?_; iterate 4 (try clear hK K))|(refine zAb fun K hK=>?_)|((first|refine zAa hE rfl ?_|refine zAi ?_); simp +contextual only [hnl,↓kA,push_cast,seval,reduceCtorEq,cI])|(refine ⟨fun hc=>?_,fun hc=>?_⟩)|fail)
 ·exact zVL (by assumption)
 ·exact (aF fun h=>by have:=h.1; omega).symm
theorem zEW:FnSpec Tryz.prog 42 zHs:=by
 refine FnSpec.of_tri' (E:=know _ [] [] []) (zAl (kc zGO (kc zNz all_nil)) all_nil all_nil) Tryz.func42 rfl rfl kr ?_
 intro C x hE hnl hfit hpre
 simp only [Tryz.ntmps42,Tryz.results42,maxLen,seval,push_cast] at hnl hfit hpre ⊢
 obtain ⟨(p:List (List Int)),_⟩:=x
 dsimp only at hfit hpre ⊢
 repeat' (first|(refine goK (by assumption) ?_; iterate 4 (try clear hK K))|(refine zAb fun K hK=>?_)|((first|refine zAa hE rfl ?_|refine zAi ?_); simp +contextual only [hnl,↓kA,push_cast,seval,reduceCtorEq,cI])|refine zAc ?_|(refine zAg ?_; simp only [thenQ,zAh,if_true,if_false,Nat.reduceEqDiff,reduceCtorEq])|(refine zAe (by rfl) (fun hb=>?_) (fun hb=>?_)<;>(try simp only [bq,reduceCtorEq] at hb)<;>(try omega))|refine andS ?_|(refine ⟨fun hc=>?_,fun hc=>?_⟩)|fail)
 ·exact (zDg fun h=>hb (by have:=h.cols; unfold wid at this; omega)).symm
 ·have hw:(p.getD 0 []).length=wid p:=rfl
  refine zAk (fun k:Nat=>AS.of [(0,.one (.val (.sl (.sl .int)) p)),(17,.one (.val (.sl (.sl .int)) p)),(18,.I p.length),(19,.I k)] [] []) (fun k=>k<=p.length/\∀ i,i<k->InL (wid p) 0 99 (p.getD i [])) (fun k=>p.length - k) 0 ⟨aq _,by omega⟩ ?_ ?_
  ·refine zAf ?_ ?_ ?_<;>simp only [push_cast,seval,reduceCtorEq,cI]
  intro k ⟨hk,hi⟩ K' hL
  repeat' (first|(refine goK (by assumption) ?_; iterate 4 (try clear hK K))|(refine zAb fun K hK=>?_)|((first|refine zAa hE rfl ?_|refine zAi ?_); simp +contextual only [hnl,↓kA,push_cast,seval,reduceCtorEq,cI])|refine zAc ?_|((first|refine zAg ?_|refine zAj ?_); simp only [thenQ,zAh,if_true,if_false,Nat.reduceEqDiff,reduceCtorEq])|(refine zAe (by rfl) (fun hb=>?_) (fun hb=>?_)<;>(try simp only [bq,reduceCtorEq] at hb)<;>(try omega))|refine andS ?_|fail)
  ·exact (zDg fun h=>hb (by have:=h.row _ (zA0 [] (by omega:k<p.length)); rw [hw]; exact this)).symm
  ·refine hL _ (k+1) ⟨by omega,fun i h1=>?_⟩ (by omega) ?_
   ·rcases ai i k with h3|h3
    ·exact hi i h3
    ·obtain rfl:i=k:=by omega
     rw [hw] at hb
     exact hb
   refine zAf ?_ ?_ ?_<;>simp only [push_cast,seval,reduceCtorEq,cI]
  ·refine (zDH ⟨by omega,by omega,fun r hr=>?_⟩).symm
   obtain ⟨i,h1,rfl⟩:=aN hr
   have:=hi i (by omega)
   rwa [ab,aj h1] at this
 ·exact (zDg fun h=>by have:=h.rows; omega).symm
theorem zPb:FnSpec Tryz.prog 138 zTv:=by
 refine FnSpec.of_tri' (E:=know _ [] [] []) (zAl (kc zGP all_nil) all_nil all_nil) Tryz.func138 rfl rfl kr ?_
 intro C x hE hnl hfit hpre
 simp only [Tryz.ntmps138,Tryz.results138,maxLen,seval,push_cast] at hnl hfit hpre ⊢
 obtain ⟨(p:List (List Int)),(lo:Int),(hi:Int),_⟩:=x
 dsimp only at hfit hpre ⊢
 have bad:∀ i j,i<p.length->¬((p.getD i []).length=wid p/\(j<(p.getD i []).length->lo<=(p.getD i []).getD j 0/\(p.getD i []).getD j 0<=hi))->false=decide (InTab lo hi p):=fun i j hi hn=>(aF fun h=>hn ⟨h.len hi,fun hj=>h.at hi (by rw [<-h.len hi]; exact hj)⟩).symm
 repeat' (first|(refine goK (by assumption) ?_; iterate 4 (try clear hK K))|(refine zAb fun K hK=>?_)|((first|refine zAa hE rfl ?_|refine zAi ?_); simp +contextual only [hnl,↓kA,push_cast,seval,reduceCtorEq,cI])|refine zAc ?_|(refine zAg ?_; simp only [thenQ,zAh,if_true,if_false,Nat.reduceEqDiff,reduceCtorEq])|(refine zAe (by rfl) (fun hb=>?_) (fun hb=>?_)<;>(try simp only [bq,reduceCtorEq] at hb)<;>(try omega))|refine andS ?_|(refine ⟨fun hc=>?_,fun hc=>?_⟩)|fail)
 ·exact (aF fun h=>hb (by have:=h.cols; unfold wid at this; omega)).symm
 ·have hw:(p.getD 0 []).length=wid p:=rfl
  refine zAk (fun k:Nat=>AS.of [(0,.one (.val (.sl (.sl .int)) p)),(1,.I lo),(2,.I hi),(7,.I k)] [] []) (fun k=>k<=p.length/\∀ i,i<k->(p.getD i []).length=wid p/\∀ j,j<wid p->lo<=(p.getD i []).getD j 0/\(p.getD i []).getD j 0<=hi) (fun k=>p.length - k) 0 ⟨aq _,by omega⟩ ?_ ?_
  ·refine zAf ?_ ?_ ?_<;>simp only [push_cast,seval,reduceCtorEq,cI]
  intro k ⟨hk,hall⟩ K' hL
  repeat' (first|(refine goK (by assumption) ?_; iterate 4 (try clear hK K))|(refine zAb fun K hK=>?_)|((first|refine zAa hE rfl ?_|refine zAi ?_|((first|refine zAd hE 1 rfl rfl kr ?_|refine zAd hE 2 rfl rfl kr ?_|refine zAd hE 3 rfl rfl kr ?_|refine zAd hE 4 rfl rfl kr ?_); simp only [ao,List.length_nil,Nat.reduceAdd,Nat.reduceSub,ak,List.take_zero,al,ar])); simp +contextual only [hnl,↓kA,push_cast,seval,reduceCtorEq,cI])|refine zAc ?_|((first|refine zAg ?_|refine zAj ?_); simp only [thenQ,zAh,if_true,if_false,Nat.reduceEqDiff,reduceCtorEq])|(refine zAe (by rfl) (fun hb=>?_) (fun hb=>?_)<;>(try simp only [bq,reduceCtorEq] at hb)<;>(try omega))|refine andS ?_|fail)
  ·exact bad k 0 (by omega) fun hn=>by have:=hn.1; unfold wid at this; omega
  ·have hkw:(p.getD k []).length=wid p:=by unfold wid; omega
   refine zAk (fun j:Nat=>AS.of [(0,.one (.val (.sl (.sl .int)) p)),(1,.I lo),(2,.I hi),(7,.I k),(8,.I j)] [] []) (fun j=>j<=wid p/\∀ j',j'<j->lo<=(p.getD k []).getD j' 0/\(p.getD k []).getD j' 0<=hi) (fun j=>wid p - j) 0 ⟨aq _,by omega⟩ ?_ ?_
   ·refine zAf ?_ ?_ ?_<;>simp only [push_cast,seval,reduceCtorEq,cI]
   intro j ⟨hj,hj'⟩ K2 hL2
   repeat' (first|(refine goK (by assumption) ?_; iterate 4 (try clear hK K))|(refine zAb fun K hK=>?_)|((first|refine zAa hE rfl ?_|refine zAi ?_); simp +contextual only [hnl,↓kA,push_cast,seval,reduceCtorEq,cI])|refine zAc ?_|((first|refine zAg ?_|refine zAj ?_); simp only [thenQ,zAh,if_true,if_false,Nat.reduceEqDiff,reduceCtorEq])|(refine zAe (by rfl) (fun hb=>?_) (fun hb=>?_)<;>(try simp only [bq,reduceCtorEq] at hb)<;>(try omega))|refine andS ?_|fail)
   ·exact bad k j (by omega) fun hn=>hb (hn.2 (by omega))
   ·refine hL2 _ (j+1) ⟨by omega,fun j' h1=>?_⟩ (by omega) ?_
    ·rcases ai j' j with h3|h3
     ·exact hj' j' h3
     ·obtain rfl:j'=j:=by omega
      exact hb
    refine zAf ?_ ?_ ?_<;>simp only [push_cast,seval,reduceCtorEq,cI]
   ·refine hL _ (k+1) ⟨by omega,fun i h1=>?_⟩ (by omega) ?_
    ·rcases ai i k with h3|h3
     ·exact hall i h3
     ·obtain rfl:i=k:=by omega
      exact ⟨hkw,fun j' h4=>hj' j' (by omega)⟩
    refine zAf ?_ ?_ ?_<;>simp only [push_cast,seval,reduceCtorEq,cI]
  ·exact (aD (zJR (by omega) (by omega) fun i h1=>hall i (by omega))).symm
 ·exact (aF fun h=>by have:=h.rows; omega).symm
theorem zGq:FnSpec Tryz.prog 94 zHs:=by
 refine FnSpec.of_tri' (E:=know _ [] [] []) (zAl (kc zPb all_nil) all_nil all_nil) Tryz.func94 rfl rfl kr ?_
 intro C x hE hnl hfit hpre
 simp only [Tryz.ntmps94,Tryz.results94,maxLen,seval,push_cast] at hnl hfit hpre ⊢
 obtain ⟨(p:List (List Int)),_⟩:=x
 dsimp only at hfit hpre ⊢
 repeat' (first|(refine goK (by assumption) ?_; iterate 4 (try clear hK K))|(refine zAb fun K hK=>?_)|((first|refine zAa hE rfl ?_|refine zAi ?_); simp +contextual only [hnl,↓kA,push_cast,seval,reduceCtorEq,cI])|(refine zAg ?_; simp only [thenQ,zAh,if_true,if_false,Nat.reduceEqDiff,reduceCtorEq])|(refine zAe (by rfl) (fun hb=>?_) (fun hb=>?_)<;>(try simp only [bq,reduceCtorEq] at hb)<;>(try omega))|fail)
 ·exact (zDg hb).symm
 ·exact (zDH hb).symm
end Go.Proofs.YtekfodeknpnkbaaGreatDoor
namespace Go.Proofs.YtekfodeknpnkbaaGreatDoor
open Go.RowKit Go.VS
def orV:List Int->Int
 | []=>0
 | x::l=>if x=0 then orV l else x
@[push_cast] theorem zHN:orV []=0:=rfl
theorem zD7 (x:Int) (l:List Int):orV (x::l)=if x=0 then orV l else x:=rfl
theorem zJ4:∀ (l:List Int) (k:Nat),k<=l.length->(∀ j,j<k->l.getD j 0=0)->orV l=orV (l.drop k)
 | l,0,_,_=>rfl
 | [],k+1,h,_=>by simp at h
 | x::l,k+1,h,hz=>by
  have h0:x=0:=by simpa using hz 0 (by omega)
  rw [zD7,ah h0,al]
  exact zJ4 l k (by simpa using h) fun j hj=>by simpa using hz (j+1) (by omega)
@[push_cast] def orCon:Con:=⟨[.dat (.sl .int)],fun _=>True,fun (x:List Int×Unit)=>{res:=[.val .int (orV x.1)]}⟩
theorem zJ5:FnSpec Tryz.prog 69 orCon:=by
 refine FnSpec.of_tri' (E:=know [] [] [] []) (zAl all_nil all_nil all_nil) Tryz.func69 rfl rfl kr ?_
 intro C x hE hnl hfit hpre
 simp only [Tryz.ntmps69,Tryz.results69,maxLen,seval,push_cast] at hnl hfit hpre ⊢
 obtain ⟨(l:List Int),_⟩:=x
 dsimp only at hfit hpre ⊢
 repeat' (first|(refine goK (by assumption) ?_; iterate 4 (try clear hK K))|(refine zAb fun K hK=>?_)|(refine zAa hE rfl ?_; simp +contextual only [hnl,↓kA,push_cast,seval,reduceCtorEq,cI])|refine zAc ?_|fail)
 refine zAk (fun k:Nat=>AS.of [(0,.one (.val (.sl .int) l)),(3,.I 0),(6,.one (.val (.sl .int) l)),(7,.I l.length),(8,.I k)] [] []) (fun k=>k<=l.length/\∀ j,j<k->l.getD j 0=0) (fun k=>l.length - k) 0 ⟨aq _,by omega⟩ ?_ ?_
 ·refine zAf ?_ ?_ ?_<;>simp only [push_cast,seval,reduceCtorEq,cI]
 intro k ⟨hk,hz⟩ K' hL
 repeat' (first|(refine goK (by assumption) ?_; iterate 4 (try clear hK K))|(refine zAb fun K hK=>?_)|((first|refine zAa hE rfl ?_|refine zAi ?_); simp +contextual only [hnl,↓kA,push_cast,seval,reduceCtorEq,cI])|refine zAc ?_|((first|refine zAg ?_|refine zAj ?_); simp only [thenQ,zAh,if_true,if_false,Nat.reduceEqDiff,reduceCtorEq])|(refine zAe (by rfl) (fun hb=>?_) (fun hb=>?_)<;>(try simp only [bq,reduceCtorEq] at hb)<;>(try omega))|refine andS ?_|fail)
 ·rw [zJ4 l k hk hz,zKE 0 (by omega),zD7,ae hb]
 ·refine hL _ (k+1) ⟨by omega,fun j hj=>?_⟩ (by omega) ?_
  ·rcases ai j k with h3|h3
   ·exact hz j h3
   ·obtain rfl:j=k:=by omega
    exact hb
  refine zAf ?_ ?_ ?_<;>simp only [push_cast,seval,reduceCtorEq,cI]
 ·rw [zJ4 l k hk hz,cE (by omega)]
  rfl
structure ForOK (a b:List Int) (c:List (List Int)):Prop where
 ha:zBL a=true
 hb:zBL b=true
 hc:InTab 0 99 c
 rows:c.length=a.length
 cols:wid c=b.length
theorem forOK_iff {a b:List Int} {c:List (List Int)}:ForOK a b c↔(zBL a=true/\zBL b=true/\InTab 0 99 c/\c.length=a.length/\wid c=b.length) :=
 ⟨fun ⟨a,b,c,d,e⟩=>⟨a,b,c,d,e⟩,fun ⟨a,b,c,d,e⟩=>⟨a,b,c,d,e⟩⟩
instance (a b:List Int) (c:List (List Int)):Decidable (ForOK a b c):=decidable_of_iff _ forOK_iff.symm
def zCT (a b:List Int) (c:List (List Int)):Int:=if ForOK a b c then 0 else 1
def zEr (a b:List Int) (c:List (List Int)):Int:=if ForOK a b c then if lsum a=lsum b then 0 else 5 else 1
section
variable {a b:List Int} {c:List (List Int)}
theorem zJM (h:ForOK a b c):zCT a b c=0:=ah h
theorem zEL (h:¬ForOK a b c):zCT a b c=1:=ae h
theorem zQZ (h:zCT a b c=0):ForOK a b c:=by
 by_cases h2:ForOK a b c
 ·exact h2
 ·rw [zEL h2] at h; omega
theorem zOU (h:zEr a b c=0):ForOK a b c/\lsum a=lsum b:=by
 unfold zEr at h
 split at h
 ·split at h
  ·exact ⟨by assumption,by assumption⟩
  ·omega
 ·omega
theorem zNS (h:¬zAq a=0):zAq a=zCT a b c:=by
 rw [zEL fun h2=>h (by rw [zAq,ah h2.ha])]
 rw [zAq,zIG h]; rfl
theorem zNT (h:¬zAq b=0):zAq b=zCT a b c:=by
 rw [zEL fun h2=>h (by rw [zAq,ah h2.hb])]
 rw [zAq,zIG h]; rfl
theorem zNU (h:¬zAH c=0):zAH c=zCT a b c:=by
 rw [zEL fun h2=>h (zDH h2.hc)]
 exact (zIF c).resolve_left h
theorem zNV (h:¬c.length=a.length):(1:Int)=zCT a b c:=(zEL fun h2=>h h2.rows).symm
theorem zNW (h:¬(c.getD 0 []).length=b.length):(1:Int)=zCT a b c:=(zEL fun h2=>h h2.cols).symm
theorem zOV (h1:zAq a=0) (h2:zAq b=0) (h3:zAH c=0) (h4:c.length=a.length) (h5:(c.getD 0 []).length=b.length):zCT a b c=0 :=
 zJM ⟨zEN h1,zEN h2,zCa h3,h4,h5⟩
theorem zV8 (h:¬orV [zAq a,zAq b,zAH c]=0):orV [zAq a,zAq b,zAH c]=zCT a b c:=by
 simp only [zD7,zHN] at h ⊢
 split
 ·split
  ·rename_i h1 h2
   rw [ah h1,ah h2] at h
   split
   ·rename_i h3; rw [ah h3] at h; omega
   ·exact zNU (by assumption)
  ·exact zNT (by assumption)
 ·exact zNS (by assumption)
theorem zG9 (h:orV [zAq a,zAq b,zAH c]=0):zAq a=0/\zAq b=0/\zAH c=0:=by
 simp only [zD7,zHN] at h
 split at h
 ·split at h
  ·split at h
   ·exact ⟨by assumption,by assumption,by assumption⟩
   ·contradiction
  ·contradiction
 ·contradiction
end
@[push_cast] def zUO:Con:=⟨[.dat (.sl .int),.dat (.sl .int),.dat (.sl (.sl .int))],fun _=>True,fun (x:List Int×List Int×List (List Int)×Unit)=>{res:=[.val .int (zCT x.1 x.2.1 x.2.2.1)]}⟩
theorem zTl:FnSpec Tryz.prog 121 zUO:=by
 refine FnSpec.of_tri' (E:=know _ [] [] []) (zAl (kc zH5 (kc zGq all_nil)) all_nil all_nil) Tryz.func121 rfl rfl kr ?_
 intro C x hE hnl hfit hpre
 simp only [Tryz.ntmps121,Tryz.results121,maxLen,seval,push_cast] at hnl hfit hpre ⊢
 obtain ⟨(a:List Int),(b:List Int),(c:List (List Int)),_⟩:=x
 dsimp only at hfit hpre ⊢
 have hne:zAH c=0->0<c.length:=fun h=>by have:=(zCa h).rows; omega
 repeat' (first|(refine goK (by assumption) ?_; iterate 4 (try clear hK K))|(refine zAb fun K hK=>?_)|((first|refine zAa hE rfl ?_|refine zAi ?_); simp +contextual only [hnl,↓kA,push_cast,seval,reduceCtorEq,cI])|(refine zAg ?_; simp only [thenQ,zAh,if_true,if_false,Nat.reduceEqDiff,reduceCtorEq])|(refine zAe (by rfl) (fun hb=>?_) (fun hb=>?_)<;>(try simp only [bq,reduceCtorEq] at hb)<;>(try omega))|refine andS ?_|(refine ⟨fun hc=>?_,fun hc=>?_⟩)|fail)
 ·exact zNS hb
 ·exact zNT hb
 ·exact zNU hb
 ·exact zNW (by omega)
 ·exact (zOV (by assumption) (by assumption) (by assumption) (by omega) (by omega)).symm
 ·exact zNV (by omega)
end Go.Proofs.YtekfodeknpnkbaaGreatDoor
namespace Go.Proofs.YtekfodeknpnkbaaGreatDoor
open Go.RowKit Go.VS Go.OT
def dotK (r s:List Int):Nat->Int
 | 0=>0
 | k+1=>dotK r s k+r.getD k 0*s.getD k 0
def zCW (c t:List (List Int)):Nat->Int
 | 0=>0
 | k+1=>zCW c t k+dotK (c.getD k []) (t.getD k []) (t.getD k []).length
def spend (c t:List (List Int)):Int:=zCW c t t.length
def Fit (c t:List (List Int)):Prop:=∃ R C,(R<=6/\C<=6)/\Tb R C 0 1000000 c/\Tb R C 0 200 t
theorem zRM {x y:Int} (h1:0<=x/\x<=1000000) (h2:0<=y/\y<=200):0<=x*y/\x*y<=200000000 :=
 ⟨Int.mul_nonneg h1.1 h2.1,by have:=Int.mul_le_mul h1.2 h2.2 h2.1 (by omega:(0:Int)<=1000000); omega⟩
theorem Fit.rows {c t:List (List Int)} (h:Fit c t):t.length=c.length/\t.length<=6:=by
 obtain ⟨R,C,h1,h2,h3⟩:=h
 rw [h2.rows,h3.rows]; omega
theorem Fit.cols {c t:List (List Int)} (h:Fit c t) {i:Nat} (hi:i<t.length):(t.getD i []).length=(c.getD i []).length/\(t.getD i []).length<=6:=by
 obtain ⟨R,C,h1,h2,h3⟩:=h
 rw [h3.rows] at hi
 rw [h2.cols i hi,h3.cols i hi]; omega
theorem Fit.term {c t:List (List Int)} (h:Fit c t) {i j:Nat} (hi:i<t.length) (hj:j<(t.getD i []).length):0<=(c.getD i []).getD j 0*(t.getD i []).getD j 0/\(c.getD i []).getD j 0*(t.getD i []).getD j 0<=200000000:=by
 obtain ⟨R,C,h1,h2,h3⟩:=h
 rw [h3.rows] at hi
 rw [h3.cols i hi] at hj
 exact zRM (h2.at' i j hi hj) (h3.at' i j hi hj)
theorem Fit.dot {c t:List (List Int)} (h:Fit c t) {i:Nat} (hi:i<t.length):∀ j,j<=(t.getD i []).length->0<=dotK (c.getD i []) (t.getD i []) j/\dotK (c.getD i []) (t.getD i []) j<=200000000*j
 | 0,_=>by simp [dotK]
 | j+1,hj=>by
  have h1:=h.dot hi j (by omega)
  have h2:=h.term hi (j:=j) (by omega)
  simp only [dotK]
  omega
theorem Fit.spend {c t:List (List Int)} (h:Fit c t):∀ k,k<=t.length->0<=zCW c t k/\zCW c t k<=1200000000*k
 | 0,_=>by simp [zCW]
 | k+1,hk=>by
  have h1:=h.spend k (by omega)
  have h2:=h.dot (i:=k) (by omega) _ (ap _)
  have h3:=h.cols (i:=k) (by omega)
  simp only [zCW]
  omega
@[push_cast] def zOs:Con:=⟨[.dat (.sl (.sl .int)),.dat (.sl (.sl .int))],fun (x:List (List Int)×List (List Int)×Unit)=>Fit x.1 x.2.1,fun (x:List (List Int)×List (List Int)×Unit)=>{res:=[.val .int (spend x.1 x.2.1)]}⟩
theorem zPJ:FnSpec Tryz.prog 72 zOs:=by
 refine FnSpec.of_tri' (E:=know [] [] [] []) (zAl all_nil all_nil all_nil) Tryz.func72 rfl rfl kr ?_
 intro C x hE hnl hfit hpre
 simp only [Tryz.ntmps72,Tryz.results72,maxLen,seval,push_cast] at hnl hfit hpre ⊢
 obtain ⟨(c:List (List Int)),(t:List (List Int)),_⟩:=x
 dsimp only at hfit hpre ⊢
 have hlc:=hpre.rows
 repeat' (first|(refine goK (by assumption) ?_; iterate 4 (try clear hK K))|(refine zAb fun K hK=>?_)|(refine zAa hE rfl ?_; simp +contextual only [hnl,↓kA,push_cast,seval,reduceCtorEq,cI])|refine zAc ?_|fail)
 refine zAk (fun k:Nat=>AS.of [(0,.one (.val (.sl (.sl .int)) c)),(5,.I (zCW c t k)),(10,.one (.val (.sl (.sl .int)) t)),(11,.I t.length),(12,.I k)] [] []) (fun k=>k<=t.length) (fun k=>t.length - k) 0 (aq _) ?_ ?_
 ·refine zAf ?_ ?_ ?_<;>simp only [push_cast,seval,reduceCtorEq,cI]
  rfl
 intro k hk K' hL
 repeat' (first|(refine goK (by assumption) ?_; iterate 4 (try clear hK K))|(refine zAb fun K hK=>?_)|((first|refine zAa hE rfl ?_|refine zAi ?_); simp +contextual only [hnl,↓kA,push_cast,seval,reduceCtorEq,cI])|refine zAc ?_|((first|refine zAg ?_|refine zAj ?_); simp only [thenQ,zAh,if_true,if_false,Nat.reduceEqDiff,reduceCtorEq])|(refine zAe (by rfl) (fun hb=>?_) (fun hb=>?_)<;>(try simp only [bq,reduceCtorEq] at hb)<;>(try omega))|refine andS ?_|fail)
 ·have hk':k<t.length:=by omega
  have h3:=hpre.cols hk'
  refine zAk (fun j:Nat=>AS.of [(0,.one (.val (.sl (.sl .int)) c)),(5,.I (zCW c t k+dotK (c.getD k []) (t.getD k []) j)),(6,.I k),(10,.one (.val (.sl (.sl .int)) t)),(11,.I t.length),(12,.I k),(17,.one (.val (.sl .int) (t.getD k []))),(18,.I (t.getD k []).length),(19,.I j)] [] []) (fun j=>j<=(t.getD k []).length) (fun j=>(t.getD k []).length - j) 0 (aq _) ?_ ?_
  ·refine zAf ?_ ?_ ?_<;>simp only [push_cast,seval,reduceCtorEq,cI]
   simp [dotK]
  intro j hj K2 hL2
  have h4:=hpre.spend k (by omega)
  have h5:=hpre.dot hk' j (by omega)
  have h6:j<(t.getD k []).length->_:=fun h=>hpre.term hk' (j:=j) h
  repeat' (first|(refine goK (by assumption) ?_; iterate 4 (try clear hK K))|(refine zAb fun K hK=>?_)|(refine zAa hE rfl ?_; simp +contextual only [hnl,↓kA,push_cast,seval,reduceCtorEq,cI])|refine zAc ?_|((first|refine zAg ?_|refine zAj ?_); simp only [thenQ,zAh,if_true,if_false,Nat.reduceEqDiff,reduceCtorEq])|(refine zAe (by rfl) (fun hb=>?_) (fun hb=>?_)<;>(try simp only [bq,reduceCtorEq] at hb)<;>(try omega))|refine andS ?_|fail)
  ·have h7:=h6 (by omega)
   rw [bN] at h7
   refine ⟨by unfold InR; omega,by unfold InR; omega,?_⟩
   repeat' (first|(refine goK (by assumption) ?_; iterate 4 (try clear hK K))|(refine zAa hE rfl ?_; simp +contextual only [hnl,↓kA,push_cast,seval,reduceCtorEq,cI])|refine andS ?_|fail)
   refine hL2 _ (j+1) (by omega) (by omega) ?_
   refine zAf ?_ ?_ ?_<;>simp only [push_cast,seval,reduceCtorEq,cI]
   rw [dotK,bN,Int.add_assoc]
  ·obtain rfl:j=(t.getD k []).length:=by omega
   refine hL _ (k+1) (by omega) (by omega) ?_
   refine zAf ?_ ?_ ?_<;>simp only [push_cast,seval,reduceCtorEq,cI]
   rfl
 ·obtain rfl:k=t.length:=by omega
  rfl
theorem zJa:FnSpec Tryz.prog 128 zOs:=by
 refine FnSpec.of_tri' (E:=know [] [] [] []) (zAl all_nil all_nil all_nil) Tryz.func128 rfl rfl kr ?_
 intro C x hE hnl hfit hpre
 simp only [Tryz.ntmps128,Tryz.results128,maxLen,seval,push_cast] at hnl hfit hpre ⊢
 obtain ⟨(c:List (List Int)),(t:List (List Int)),_⟩:=x
 dsimp only at hfit hpre ⊢
 have hlc:=hpre.rows
 repeat' (first|(refine goK (by assumption) ?_; iterate 4 (try clear hK K))|(refine zAb fun K hK=>?_)|(refine zAa hE rfl ?_; simp +contextual only [hnl,↓kA,push_cast,seval,reduceCtorEq,cI])|refine zAc ?_|fail)
 refine zAk (fun k:Nat=>AS.of [(0,.one (.val (.sl (.sl .int)) c)),(1,.one (.val (.sl (.sl .int)) t)),(5,.I (zCW c t k)),(6,.I k)] [] []) (fun k=>k<=t.length) (fun k=>t.length - k) 0 (aq _) ?_ ?_
 ·refine zAf ?_ ?_ ?_<;>simp only [push_cast,seval,reduceCtorEq,cI]
  rfl
 intro k hk K' hL
 repeat' (first|(refine goK (by assumption) ?_; iterate 4 (try clear hK K))|(refine zAb fun K hK=>?_)|((first|refine zAa hE rfl ?_|refine zAi ?_); simp +contextual only [hnl,↓kA,push_cast,seval,reduceCtorEq,cI])|refine zAc ?_|((first|refine zAg ?_|refine zAj ?_); simp only [thenQ,zAh,if_true,if_false,Nat.reduceEqDiff,reduceCtorEq])|(refine zAe (by rfl) (fun hb=>?_) (fun hb=>?_)<;>(try simp only [bq,reduceCtorEq] at hb)<;>(try omega))|fail)
 ·have hk':k<t.length:=by omega
  have h3:=hpre.cols hk'
  refine zAk (fun j:Nat=>AS.of [(0,.one (.val (.sl (.sl .int)) c)),(1,.one (.val (.sl (.sl .int)) t)),(5,.I (zCW c t k+dotK (c.getD k []) (t.getD k []) j)),(6,.I k),(7,.I j)] [] []) (fun j=>j<=(t.getD k []).length) (fun j=>(t.getD k []).length - j) 0 (aq _) ?_ ?_
  ·refine zAf ?_ ?_ ?_<;>simp only [push_cast,seval,reduceCtorEq,cI]
   simp [dotK]
  intro j hj K2 hL2
  have h4:=hpre.spend k (by omega)
  have h5:=hpre.dot hk' j (by omega)
  have h6:j<(t.getD k []).length->_:=fun h=>hpre.term hk' (j:=j) h
  repeat' (first|(refine goK (by assumption) ?_; iterate 4 (try clear hK K))|(refine zAb fun K hK=>?_)|((first|refine zAa hE rfl ?_|((first|refine zAd hE 1 rfl rfl kr ?_|refine zAd hE 2 rfl rfl kr ?_|refine zAd hE 3 rfl rfl kr ?_|refine zAd hE 4 rfl rfl kr ?_); simp only [ao,List.length_nil,Nat.reduceAdd,Nat.reduceSub,ak,List.take_zero,al,ar])); simp +contextual only [hnl,↓kA,push_cast,seval,reduceCtorEq,cI])|refine zAc ?_|((first|refine zAg ?_|refine zAj ?_); simp only [thenQ,zAh,if_true,if_false,Nat.reduceEqDiff,reduceCtorEq])|(refine zAe (by rfl) (fun hb=>?_) (fun hb=>?_)<;>(try simp only [bq,reduceCtorEq] at hb)<;>(try omega))|refine andS ?_|fail)
  ·refine hL2 _ (j+1) (by omega) (by omega) ?_
   refine zAf ?_ ?_ ?_<;>simp only [push_cast,seval,reduceCtorEq,cI]
   rw [dotK,Int.add_assoc]
  ·obtain rfl:j=(t.getD k []).length:=by omega
   refine hL _ (k+1) (by omega) (by omega) ?_
   refine zAf ?_ ?_ ?_<;>simp only [push_cast,seval,reduceCtorEq,cI]
   rfl
 ·obtain rfl:k=t.length:=by omega
  rfl
theorem InTab.tb {lo hi lo' hi':Int} {p:List (List Int)} (h:InTab lo hi p) (h1:lo'<=lo) (h2:hi<=hi'):Tb p.length (wid p) lo' hi' p:=⟨rfl,fun i hi=>h.len hi,fun i j hi hj=>by have:=h.at hi hj; omega⟩
theorem InPlan.tab {p:List (List Int)} (h:InPlan p):InTab 0 150 p:=zJR h.rows h.cols fun i hi=>⟨h.row hi,fun j hj=>h.at hi hj⟩
section
variable {c t:List (List Int)}
end
end Go.Proofs.YtekfodeknpnkbaaGreatDoor
namespace Go.Proofs.YtekfodeknpnkbaaGreatDoor
open Go.RowKit Go.VS
abbrev zBp:=List Int×List Int
def wideV (p:List (List Int)):Bool:=p.any (fun r=>decide (50<r.length)) || decide (50<p.length)
@[push_cast] def zWx:Con:=⟨[.dat (.sl (.sl .int))],fun _=>True,fun (x:List (List Int)×Unit)=>{res:=[.val .bool (decide (wideV x.1=true))]}⟩
theorem zSS:FnSpec Tryz.prog 13 zWx:=by
 refine FnSpec.of_tri' (E:=know [] [] [] []) (zAl all_nil all_nil all_nil) Tryz.func13 rfl rfl kr ?_
 intro C x hE hnl hfit hpre
 simp only [Tryz.ntmps13,Tryz.results13,maxLen,seval,push_cast] at hnl hfit hpre ⊢
 obtain ⟨(p:List (List Int)),_⟩:=x
 dsimp only at hfit hpre ⊢
 repeat' (first|(refine goK (by assumption) ?_; iterate 4 (try clear hK K))|(refine zAb fun K hK=>?_)|(refine zAa hE rfl ?_; simp +contextual only [hnl,↓kA,push_cast,seval,reduceCtorEq,cI])|refine zAc ?_|fail)
 refine zAk (fun k:Nat=>AS.of [(0,.one (.val (.sl (.sl .int)) p)),(3,.I k)] [] []) (fun k=>k<=p.length/\(p.take k).any (fun r=>decide (50<r.length))=false) (fun k=>p.length - k) 0 ⟨aq _,by simp⟩ ?_ ?_
 ·refine zAf ?_ ?_ ?_<;>simp only [push_cast,seval,reduceCtorEq,cI]
 intro k ⟨hk,hj⟩ K' hL
 repeat' (first|(refine goK (by assumption) ?_; iterate 4 (try clear hK K))|(refine zAb fun K hK=>?_)|((first|refine zAa hE rfl ?_|refine zAi ?_); simp +contextual only [hnl,↓kA,push_cast,seval,reduceCtorEq,cI])|refine zAc ?_|((first|refine zAg ?_|refine zAj ?_); simp only [thenQ,zAh,if_true,if_false,Nat.reduceEqDiff,reduceCtorEq])|(refine zAe (by rfl) (fun hb=>?_) (fun hb=>?_)<;>(try simp only [bq,reduceCtorEq] at hb)<;>(try omega))|refine andS ?_|fail)
 ·have hk':k<p.length:=by omega
  have h1:=zFx [] (fun r=>decide (50<r.length)) hk'
  have h2:(p.any fun r=>decide (50<r.length))=true:=by
   rw [<-List.take_append_drop (k+1) p,List.any_append,h1,hj,aD (by omega)]
   simp
  exact (aD (by simp [wideV,h2])).symm
 ·have hk':k<p.length:=by omega
  refine hL _ (k+1) ⟨by omega,?_⟩ (by omega) ?_
  ·rw [zFx [] _ hk',hj,aF (by omega)]
   rfl
  refine zAf ?_ ?_ ?_<;>simp only [push_cast,seval,reduceCtorEq,cI]
 ·rw [aS (by omega)] at hj
  simp only [wideV,hj,bC,au,decide_eq_decide]
  omega
end Go.Proofs.YtekfodeknpnkbaaGreatDoor
namespace Go.Proofs.YtekfodeknpnkbaaGreatDoor
open Go.RowKit Go.VS
@[push_cast] def zFC:Con:=⟨[.dat (.sl .int)],fun (x:List Int×Unit)=>x.1.length<=1000,fun (x:List Int×Unit)=>{res:=[.own (.flat 3 .int x.1)]}⟩
theorem zUn {α:Type} (A B:α) (n k:Nat) (hk:k<n):(List.replicate k A++List.replicate (n - k) B).set k A=List.replicate (k+1) A++List.replicate (n - (k+1)) B:=by
 have e:n - k=(n - (k+1))+1:=by omega
 rw [e,List.replicate_succ,List.set_append_right _ _ (by simp),aE,Nat.sub_self,List.set_cons_zero,List.replicate_succ']
 simp
theorem zIz:FnSpec Tryz.prog 103 zFC:=by
 refine FnSpec.of_tri' (E:=know [] [] [] [5]) (zAl all_nil all_nil all_nil) Tryz.func103 rfl rfl kr ?_
 intro C x hE hnl hfit hpre
 simp only [Tryz.ntmps103,Tryz.results103,maxLen,seval,push_cast] at hnl hfit hpre ⊢
 obtain ⟨(l:List Int),_⟩:=x
 dsimp only at hfit hpre ⊢
 cases l with
 | nil =>
  exact auA
  skip
 | cons y l =>
  simp only [ao] at hpre
  exact auA
end Go.Proofs.YtekfodeknpnkbaaGreatDoor
namespace Go.Proofs.YtekfodeknpnkbaaGreatDoor
open Go.RowKit Go.VS Go.OT
@[push_cast] def zNR:Con:=⟨[.dat (.sl .int),.dat (.sl .int)],fun (x:List Int×List Int×Unit)=>x.1.length<=6/\x.2.1.length<=6,fun (x:List Int×List Int×Unit)=>{res:=[.own (.deep 38 3 .int (List.replicate x.1.length (List.replicate x.2.1.length 0)))]}⟩
theorem zID:FnSpec Tryz.prog 171 zNR:=by
 refine FnSpec.of_tri' (E:=know [] [] [] []) (zAl all_nil all_nil all_nil) Tryz.func171 rfl rfl kr ?_
 intro C x hE hnl hfit hpre
 simp only [Tryz.ntmps171,Tryz.results171,maxLen,seval,push_cast] at hnl hfit hpre ⊢
 obtain ⟨(a:List Int),(b:List Int),_⟩:=x
 dsimp only at hfit hpre ⊢
 repeat' (first|(refine goK (by assumption) ?_; iterate 4 (try clear hK K))|(refine zAb fun K hK=>?_)|(refine zAa hE rfl ?_; simp +contextual only [hnl,↓kA,push_cast,seval,reduceCtorEq,cI])|refine zAc ?_|refine andS ?_|fail)
 refine zAk (fun k:Nat=>AS.of [(1,.one (.val (.sl .int) b)),(5,.one (.ref 9)),(11,.I a.length),(12,.I k)] [(9,.deep 38 3 .int (List.replicate k (List.replicate b.length 0)++List.replicate (a.length - k) []))] []) (fun k=>k<=a.length) (fun k=>a.length - k) 0 (aq _) ?_ ?_
 ·refine zAf ?_ ?_ ?_<;>simp only [push_cast,seval,reduceCtorEq,cI]
  all_goals first|(left; simp; done)|simp
 intro k hk K' hL
 have hlen:(List.replicate k (List.replicate b.length (0:Int))++List.replicate (a.length - k) []).length=a.length:=by simp; omega
 repeat' (first|(refine goK (by assumption) ?_; iterate 4 (try clear hK K))|(refine zAb fun K hK=>?_)|((first|refine zAa hE rfl ?_|refine zAi ?_); simp +contextual only [hnl,↓kA,push_cast,seval,reduceCtorEq,cI])|refine zAc ?_|((first|refine zAg ?_|refine zAj ?_); simp only [thenQ,zAh,if_true,if_false,Nat.reduceEqDiff,reduceCtorEq])|(refine zAe (by rfl) (fun hb=>?_) (fun hb=>?_)<;>(try simp only [bq,reduceCtorEq] at hb)<;>(try omega))|refine andS ?_|fail)
 ·refine hL _ (k+1) (by omega) (by omega) ?_
  refine zAf ?_ ?_ ?_<;>simp only [push_cast,seval,reduceCtorEq,cI]
  left
  rw [zUn _ _ _ _ (by omega)]
 ·obtain rfl:k=a.length:=by omega
  simp
@[push_cast] def zVT:Con:=⟨[.dat (.sl .int),.dat (.sl .int),.dat (.sl (.sl .int))],fun (x:List Int×List Int×List (List Int)×Unit)=>Shp x.1 x.2.1 x.2.2.1,
 fun (x:List Int×List Int×List (List Int)×Unit)=>{res:=[.own (.flat 3 .int (leftV x.1 x.2.1 x.2.2.1).1),.own (.flat 3 .int (leftV x.1 x.2.1 x.2.2.1).2)]}⟩
theorem zRq:FnSpec Tryz.prog 206 zVT:=by
 refine FnSpec.of_tri' (E:=know [] [] [] []) (zAl all_nil all_nil all_nil) Tryz.func206 rfl rfl kr ?_
 intro C x hE hnl hfit hpre
 simp only [Tryz.ntmps206,Tryz.results206,maxLen,seval,push_cast] at hnl hfit hpre ⊢
 obtain ⟨(a:List Int),(b:List Int),(p:List (List Int)),_⟩:=x
 dsimp only at hfit hpre ⊢
 have ha5:=hpre.a5
 have hb5:=hpre.b5
 have hrw:=hpre.rows
 repeat' (first|(refine goK (by assumption) ?_; iterate 4 (try clear hK K))|(refine zAb fun K hK=>?_)|(refine zAa hE rfl ?_; simp +contextual only [hnl,↓kA,push_cast,seval,reduceCtorEq,cI])|refine zAc ?_|refine andS ?_|fail)
 refine zAk (fun k:Nat=>AS.of [(6,.one (.ref 14)),(7,.one (.ref 17)),(18,.one (.val (.sl (.sl .int)) p)),(19,.I p.length),(20,.I k)] [(14,.flat 3 .int (upto (zBP p) k (a,b)).1),(17,.flat 3 .int (upto (zBP p) k (a,b)).2)] []) (fun k=>k<=p.length) (fun k=>p.length - k) 0 (aq _) ?_ ?_
 ·refine zAf ?_ ?_ ?_<;>simp only [push_cast,seval,reduceCtorEq,cI]
  exact ⟨.inl rfl,.inl rfl⟩
 intro k hk K' hL
 repeat' (first|(refine goK (by assumption) ?_; iterate 4 (try clear hK K))|(refine zAb fun K hK=>?_)|((first|refine zAa hE rfl ?_|refine zAi ?_); simp +contextual only [hnl,↓kA,push_cast,seval,reduceCtorEq,cI])|refine zAc ?_|((first|refine zAg ?_|refine zAj ?_); simp only [thenQ,zAh,if_true,if_false,Nat.reduceEqDiff,reduceCtorEq])|(refine zAe (by rfl) (fun hb=>?_) (fun hb=>?_)<;>(try simp only [bq,reduceCtorEq] at hb)<;>(try omega))|refine andS ?_|fail)
 ·have hk':k<p.length:=by omega
  have hcl:=hpre.cols k hk'
  refine zAk (fun j:Nat=>AS.of [(6,.one (.ref 14)),(7,.one (.ref 17)),(8,.I k),(18,.one (.val (.sl (.sl .int)) p)),(19,.I p.length),(20,.I k),(25,.one (.val (.sl .int) (p.getD k []))),(26,.I (p.getD k []).length),(27,.I j)] [(14,.flat 3 .int (upto (zA1 p k) j (upto (zBP p) k (a,b))).1),(17,.flat 3 .int (upto (zA1 p k) j (upto (zBP p) k (a,b))).2)] []) (fun j=>j<=(p.getD k []).length) (fun j=>(p.getD k []).length - j) 0 (aq _) ?_ ?_
  ·refine zAf ?_ ?_ ?_<;>simp only [push_cast,seval,reduceCtorEq,cI]
   exact ⟨.inl rfl,.inl rfl⟩
  intro j hj K2 hL2
  have hs:=LSt.row hpre (LSt.all hpre k (by omega)) hk' j (by omega)
  have hs1:=hs.l1
  have hs2:=hs.l2
  have hn:j<b.length->_:=fun h=>(hpre.mem k hk').at (i:=j) (by omega)
  have hx1:=hs.b1.at (i:=k) (by omega)
  have hx2:j<b.length->_:=fun h=>hs.b2.at (i:=j) (by omega)
  have hup:upto (zA1 p k) (j+1) (upto (zBP p) k (a,b))=zA1 p k j (upto (zA1 p k) j (upto (zBP p) k (a,b))):=rfl
  generalize hse:upto (zA1 p k) j (upto (zBP p) k (a,b))=s at hs1 hs2 hx1 hx2 hup ⊢
  repeat' (first|(refine goK (by assumption) ?_; iterate 4 (try clear hK K))|(refine zAb fun K hK=>?_)|(refine zAa hE rfl ?_; simp +contextual only [hnl,↓kA,push_cast,seval,reduceCtorEq,cI])|refine zAc ?_|((first|refine zAg ?_|refine zAj ?_); simp only [thenQ,zAh,if_true,if_false,Nat.reduceEqDiff,reduceCtorEq])|(refine zAe (by rfl) (fun hb=>?_) (fun hb=>?_)<;>(try simp only [bq,reduceCtorEq] at hb)<;>(try omega))|refine andS ?_|fail)
  ·refine hL2 _ (j+1) (by omega) (by omega) ?_
   refine zAf ?_ ?_ ?_<;>simp only [push_cast,seval,reduceCtorEq,cI]
   rw [hup]
   exact ⟨.inl rfl,.inl rfl⟩
  ·obtain rfl:j=(p.getD k []).length:=by omega
   have hnx:upto (zBP p) (k+1) (a,b)=s:=hse
   refine hL _ (k+1) (by omega) (by omega) ?_
   refine zAf ?_ ?_ ?_<;>simp only [push_cast,seval,reduceCtorEq,cI]
   rw [hnx]
   exact ⟨.inl rfl,.inl rfl⟩
 ·obtain rfl:k=p.length:=by omega
  exact ⟨rfl,rfl⟩
end Go.Proofs.YtekfodeknpnkbaaGreatDoor
namespace Go.Proofs.YtekfodeknpnkbaaGreatDoor
open Go.RowKit Go.VS Go.OT
def deepI:RC->List (List Int)
 | .deep _ _ s xss=>(zAQ (.sl (.sl s)) (.sl (.sl .int)) xss).getD []
 | _=>[]
@[push_cast] theorem zC8 (e e2:TypeId) (p:List (List Int)):deepI (.deep e e2 .int p)=p:=by
 simp only [deepI,zDA,bB]
abbrev zNx:=List Int×List Int×List (List Int)×RC×Unit
structure NextPre (a b:List Int) (c:List (List Int)) (rc:RC):Prop where
 hrc:rc=.deep 38 3 .int (deepI rc)
 shp:Shp a b (deepI rc)
 hc:Tb a.length b.length 0 99 c
 ends:(nextP a b c (deepI rc)).isSome=true
@[push_cast] def zRN:Con:=⟨[.dat (.sl .int),.dat (.sl .int),.dat (.sl (.sl .int)),.lend],fun (x:zNx)=>NextPre x.1 x.2.1 x.2.2.1 x.2.2.2.1,
 fun (x:zNx)=>Out.mk [.val .int (nextN x.1 x.2.1 x.2.2.1 (deepI x.2.2.2.1)),.val .bool (decide (0<=bestV x.1 x.2.1 x.2.2.1 (deepI x.2.2.2.1)))]
  [(0,.deep 38 3 .int ((nextP x.1 x.2.1 x.2.2.1 (deepI x.2.2.2.1)).getD []))] []⟩
section
variable {c p:List (List Int)} {i j:Nat} {s:Dst}
theorem zUj (h1:s.ra.getD i 0<far) (h2:s.ra.getD i 0+(c.getD i []).getD j 0<s.ca.getD j 0) (hj:j<s.ca.length) :
 relax c p i j s=⟨s.ra,s.rf,s.ca.set j (s.ra.getD i 0+(c.getD i []).getD j 0),s.cf.set j (i:Int)⟩:=by
 unfold relax relaxC
 rw [ah ⟨h1,h2⟩]
 unfold relaxR
 dsimp only
 rw [zBj hj,ah rfl,ae (by omega)]
theorem zUi (h1:¬(s.ra.getD i 0<far/\s.ra.getD i 0+(c.getD i []).getD j 0<s.ca.getD j 0)) (h2:0<(p.getD i []).getD j 0) (h3:s.ca.getD j 0<far) (h4:s.ca.getD j 0 - (c.getD i []).getD j 0<s.ra.getD i 0) :
 relax c p i j s=⟨s.ra.set i (s.ca.getD j 0 - (c.getD i []).getD j 0),s.rf.set i (j:Int),s.ca,s.cf⟩:=by
 unfold relax relaxC
 rw [ae h1]
 unfold relaxR
 rw [ah ⟨h2,h3,h4⟩]
theorem zUh (h1:¬(s.ra.getD i 0<far/\s.ra.getD i 0+(c.getD i []).getD j 0<s.ca.getD j 0)) (h2:¬(0<(p.getD i []).getD j 0/\s.ca.getD j 0<far/\s.ca.getD j 0 - (c.getD i []).getD j 0<s.ra.getD i 0)) :
 relax c p i j s=s:=by
 unfold relax relaxC
 rw [ae h1]
 unfold relaxR
 rw [ae h2]
end
structure ChI (x:Dst) (R C:Nat) (p':List (List Int)) (y:Nat×Int×List (List Int)):Prop where
 n12:y.1<=12
 tab:Tb R C (-(12 - (y.1:Int))) (200+(12 - (y.1:Int))) y.2.2
 lo : -1<=y.2.1
 hi:y.2.1<C
 fol:Go.OT.follow x.rf x.cf y.1 y.2.1 y.2.2=some p'
theorem Tb.addAt {R C:Nat} {lo hi d:Int} {q:List (List Int)} (h:Tb R C lo hi q) {i j:Nat} (hi':i<R) (hj:j<C) (hd : -1<=d/\d<=1):Tb R C (lo - 1) (hi+1) (Go.OT.addAt q i j d):=by
 have h1:=h.sz.add (j:=j) (d:=d) hi'
 refine ⟨h1.rows,h1.cols,fun i' j' h2 h3=>?_⟩
 have h4:=congrFun (congrFun (zCY (d:=d) h.sz hi' hj) i') j'
 unfold gt bump at h4
 dsimp only at h4
 rw [h4]
 have:=h.at' i' j' h2 h3
 split<;>omega
theorem Tb.mono {R C:Nat} {lo hi lo' hi':Int} {q:List (List Int)} (h:Tb R C lo hi q) (h1:lo'<=lo) (h2:hi<=hi'):Tb R C lo' hi' q:=⟨h.rows,h.cols,fun i j a b=>by have:=h.at' i j a b; omega⟩
theorem Tb.addAt2 {R C:Nat} {lo hi d e:Int} {q:List (List Int)} (h:Tb R C lo hi q) {i j j':Nat} (hi':i<R) (hj:j<C) (hj':j'<C):Tb R C (lo - 1) (hi+1) (Go.OT.addAt (Go.OT.addAt q i j 1) i j' (-1)):=by
 have h1:=(h.sz.add (j:=j) (d:=1) hi').add (j:=j') (d := -1) hi'
 refine ⟨h1.rows,h1.cols,fun i' j2 h2 h3=>?_⟩
 have h4:=congrFun (congrFun (zCY (d := -1) (h.sz.add (j:=j) (d:=1) hi') hi' hj') i') j2
 rw [zCY h.sz hi' hj] at h4
 unfold gt bump at h4
 dsimp only at h4
 rw [h4]
 have:=h.at' i' j2 h2 h3
 split<;>split<;>omega
theorem zO3 {rf cf:List Int} {n:Nat} {j:Int} {q p':List (List Int)} (hj:0<=j) (h:Go.OT.follow rf cf n j q=some p'):∃ m,n=m+1/\Go.OT.follow rf cf m (zDd rf cf j) (zBF rf cf j q)=some p':=by
 cases n with
 | zero =>
  have e:Go.OT.follow rf cf 0 j q=if j<0 then some q else none:=rfl
  rw [e,ae (by omega)] at h
  exact absurd h (by simp)
 | succ n =>
  have e:Go.OT.follow rf cf (n+1) j q=if j<0 then some q else Go.OT.follow rf cf n (zDd rf cf j) (zBF rf cf j q):=rfl
  rw [e,ae (by omega)] at h
  exact ⟨n,rfl,h⟩
set_option maxHeartbeats 4000000 in
theorem zK6:FnSpec Tryz.prog 172 zRN:=by
 refine FnSpec.of_tri' (E:=know _ [] [] [37,40,43,46]) (zAl (kc zRq all_nil) all_nil all_nil) Tryz.func172 rfl rfl kr ?_
 intro C x hE hnl hfit hpre
 simp only [Tryz.ntmps172,Tryz.results172,maxLen,seval,push_cast] at hnl hfit hpre ⊢
 obtain ⟨(a:List Int),(b:List Int),(c:List (List Int)),(rc:RC),_⟩:=x
 dsimp only at hfit hpre ⊢
 obtain ⟨h1,h2,h3,h6⟩:=hpre
 generalize deepI rc=p at *
 subst h1
 have ha5:=h2.a5
 have hb5:=h2.b5
 have hrw:=h2.rows
 have hcr:=h3.rows
 have hls:=LSt.all h2 p.length (ap _)
 have hl1:(leftV a b p).1.length=a.length:=hls.l1
 have hl2:(leftV a b p).2.length=b.length:=hls.l2
 repeat' (first|(refine goK (by assumption) ?_; iterate 4 (try clear hK K))|(refine zAb fun K hK=>?_)|((first|refine zAa hE rfl ?_|((first|refine zAd hE 1 rfl rfl kr ?_|refine zAd hE 2 rfl rfl kr ?_|refine zAd hE 3 rfl rfl kr ?_|refine zAd hE 4 rfl rfl kr ?_); simp only [ao,List.length_nil,Nat.reduceAdd,Nat.reduceSub,ak,List.take_zero,al,ar])); simp +contextual only [hnl,↓kA,push_cast,seval,reduceCtorEq,cI])|refine zAc ?_|refine andS ?_|fail)
 refine zCH 12 37 37 (by simp only [push_cast,seval,reduceCtorEq,cI]; rfl) (by omega) ?_
 refine zCH 13 40 40 (by simp only [push_cast,seval,reduceCtorEq,cI]; rfl) (by omega) ?_
 refine zCH 14 43 43 (by simp only [push_cast,seval,reduceCtorEq,cI]; rfl) (by omega) ?_
 refine zCH 15 46 46 (by simp only [push_cast,seval,reduceCtorEq,cI]; rfl) (by omega) ?_
 refine zAk (fun k:Nat=>AS.of [(0,.one (.val (.sl .int) a)),(1,.one (.val (.sl .int) b)),(2,.one (.val (.sl (.sl .int)) c)),(3,.one (.ref 0)),(11,.one (.ref 1032)),(10,.one (.ref 32)),(12,.one (.ref 37)),(13,.one (.ref 40)),(14,.one (.ref 43)),(15,.one (.ref 46)),(47,.one (.ref 32)),(48,.I (leftV a b p).1.length),(49,.I k)]
  [(0,.deep 38 3 .int p),(1032,.flat 3 .int (leftV a b p).2),(32,.flat 3 .int (leftV a b p).1),(37,.flat 3 .int (zB2 (leftV a b p).1 a.length k).1),(40,.flat 3 .int (zB2 (leftV a b p).1 a.length k).2),(43,.flat 3 .int (List.replicate b.length 0)),(46,.flat 3 .int (List.replicate b.length 0))] [])
  (fun k=>k<=a.length) (fun k=>a.length - k) 0 (aq _) ?_ ?_
 ·refine zAf ?_ ?_ ?_<;>simp only [push_cast,seval,reduceCtorEq,cI]
  exact ⟨.inl rfl,.inl rfl⟩
 intro k hk K' hL
 have hsr:=zDS (leftV a b p).1 a.length k
 have hst:zB2 (leftV a b p).1 a.length (k+1)=zCp (leftV a b p).1 k (zB2 (leftV a b p).1 a.length k):=rfl
 repeat' (first|(refine goK (by assumption) ?_; iterate 4 (try clear hK K))|(refine zAb fun K hK=>?_)|(refine zAa hE rfl ?_; simp +contextual only [hnl,↓kA,push_cast,seval,reduceCtorEq,cI])|refine zAc ?_|((first|refine zAg ?_|refine zAj ?_); simp only [thenQ,zAh,if_true,if_false,Nat.reduceEqDiff,reduceCtorEq])|(refine zAe (by rfl) (fun hb=>?_) (fun hb=>?_)<;>(try simp only [bq,reduceCtorEq] at hb)<;>(try omega))|refine andS ?_|fail)
 ·refine hL _ (k+1) (by omega) (by omega) ?_
  refine zAf ?_ ?_ ?_<;>simp only [push_cast,seval,reduceCtorEq,cI]
  rw [hst,zCp,ah hb]
  exact ⟨.inl rfl,.inl rfl⟩
 ·refine hL _ (k+1) (by omega) (by omega) ?_
  refine zAf ?_ ?_ ?_<;>simp only [push_cast,seval,reduceCtorEq,cI]
  rw [hst,zCp,ae hb]
  exact ⟨.inl rfl,.inl rfl⟩
 obtain rfl:k=a.length:=by omega
 clear hb hL hst
 refine zAk (fun k:Nat=>AS.of [(0,.one (.val (.sl .int) a)),(1,.one (.val (.sl .int) b)),(2,.one (.val (.sl (.sl .int)) c)),(3,.one (.ref 0)),(11,.one (.ref 1032)),(12,.one (.ref 37)),(13,.one (.ref 40)),(14,.one (.ref 43)),(15,.one (.ref 46)),(64,.I (leftV a b p).2.length),(65,.I k)]
  [(0,.deep 38 3 .int p),(1032,.flat 3 .int (leftV a b p).2),(37,.flat 3 .int (zB2 (leftV a b p).1 a.length a.length).1),(40,.flat 3 .int (zB2 (leftV a b p).1 a.length a.length).2),(43,.flat 3 .int (zFc b.length k)),(46,.flat 3 .int (List.replicate b.length 0))] [])
  (fun k=>k<=b.length) (fun k=>b.length - k) 0 (aq _) ?_ ?_
 ·refine zAf ?_ ?_ ?_<;>simp only [push_cast,seval,reduceCtorEq,cI]
  exact .inl rfl
 intro k hk K2 hL
 have hsc:=zE4 b.length k
 have hst:zFc b.length (k+1)=(zFc b.length k).set k far:=rfl
 repeat' (first|(refine goK (by assumption) ?_; iterate 4 (try clear hK K))|(refine zAb fun K hK=>?_)|(refine zAa hE rfl ?_; simp +contextual only [hnl,↓kA,push_cast,seval,reduceCtorEq,cI])|refine zAc ?_|((first|refine zAg ?_|refine zAj ?_); simp only [thenQ,zAh,if_true,if_false,Nat.reduceEqDiff,reduceCtorEq])|(refine zAe (by rfl) (fun hb=>?_) (fun hb=>?_)<;>(try simp only [bq,reduceCtorEq] at hb)<;>(try omega))|refine andS ?_|fail)
 ·refine hL _ (k+1) (by omega) (by omega) ?_
  refine zAf ?_ ?_ ?_<;>simp only [push_cast,seval,reduceCtorEq,cI]
  rw [hst]
  exact .inl rfl
 obtain rfl:k=b.length:=by omega
 clear hb hL hst
 refine zAk (fun k:Nat=>AS.of [(0,.one (.val (.sl .int) a)),(1,.one (.val (.sl .int) b)),(2,.one (.val (.sl (.sl .int)) c)),(3,.one (.ref 0)),(11,.one (.ref 1032)),(12,.one (.ref 37)),(13,.one (.ref 40)),(14,.one (.ref 43)),(15,.one (.ref 46)),(76,.I (a.length+b.length:Nat)),(77,.I k)]
  [(0,.deep 38 3 .int p),(1032,.flat 3 .int (leftV a b p).2),(37,.flat 3 .int (distK a b c p k).ra),(40,.flat 3 .int (distK a b c p k).rf),(43,.flat 3 .int (distK a b c p k).ca),(46,.flat 3 .int (distK a b c p k).cf)] [])
  (fun k=>k<=a.length+b.length) (fun k=>a.length+b.length - k) 0 (aq _) ?_ ?_
 ·refine zAf ?_ ?_ ?_<;>simp only [push_cast,seval,reduceCtorEq,cI]
  exact ⟨.inl rfl,.inl rfl,.inl rfl,.inl rfl⟩
 intro k hk K3 hL
 have hD:=zG5 h3 h2 k
 repeat' (first|(refine goK (by assumption) ?_; iterate 4 (try clear hK K))|(refine zAb fun K hK=>?_)|(refine zAa hE rfl ?_; simp +contextual only [hnl,↓kA,push_cast,seval,reduceCtorEq,cI])|refine zAc ?_|((first|refine zAg ?_|refine zAj ?_); simp only [thenQ,zAh,if_true,if_false,Nat.reduceEqDiff,reduceCtorEq])|(refine zAe (by rfl) (fun hb=>?_) (fun hb=>?_)<;>(try simp only [bq,reduceCtorEq] at hb)<;>(try omega))|fail)
 ·have hDn:distK a b c p (k+1)=upto (zBm c p) c.length (distK a b c p k):=rfl
  generalize distK a b c p k=s0 at hD hDn ⊢
  refine zAk (fun i:Nat=>AS.of [(0,.one (.val (.sl .int) a)),(1,.one (.val (.sl .int) b)),(2,.one (.val (.sl (.sl .int)) c)),(3,.one (.ref 0)),(11,.one (.ref 1032)),(12,.one (.ref 37)),(13,.one (.ref 40)),(14,.one (.ref 43)),(15,.one (.ref 46)),(76,.I (a.length+b.length:Nat)),(77,.I k),(79,.one (.val (.sl (.sl .int)) c)),(80,.I c.length),(81,.I i)]
   [(0,.deep 38 3 .int p),(1032,.flat 3 .int (leftV a b p).2),(37,.flat 3 .int (upto (zBm c p) i s0).ra),(40,.flat 3 .int (upto (zBm c p) i s0).rf),(43,.flat 3 .int (upto (zBm c p) i s0).ca),(46,.flat 3 .int (upto (zBm c p) i s0).cf)] [])
   (fun i=>i<=c.length) (fun i=>c.length - i) 0 (aq _) ?_ ?_
  ·refine zAf ?_ ?_ ?_<;>simp only [push_cast,seval,reduceCtorEq,cI]
   exact ⟨.inl rfl,.inl rfl,.inl rfl,.inl rfl⟩
  intro i hi K4 hL4
  repeat' (first|(refine goK (by assumption) ?_; iterate 4 (try clear hK K))|(refine zAb fun K hK=>?_)|(refine zAa hE rfl ?_; simp +contextual only [hnl,↓kA,push_cast,seval,reduceCtorEq,cI])|refine zAc ?_|((first|refine zAg ?_|refine zAj ?_); simp only [thenQ,zAh,if_true,if_false,Nat.reduceEqDiff,reduceCtorEq])|(refine zAe (by rfl) (fun hb=>?_) (fun hb=>?_)<;>(try simp only [bq,reduceCtorEq] at hb)<;>(try omega))|refine andS ?_|fail)
  ·have hi':i<a.length:=by omega
   have hci:=h3.cols i hi'
   have hpi:=h2.tab.cols i hi'
   have hQ:=DSt.tab p h3 hb5.2 hD i (by omega)
   have hQn:upto (zBm c p) (i+1) s0=upto (relax c p i) (c.getD i []).length (upto (zBm c p) i s0):=rfl
   generalize upto (zBm c p) i s0=s1 at hQ hQn ⊢
   refine zAk (fun j:Nat=>AS.of [(0,.one (.val (.sl .int) a)),(1,.one (.val (.sl .int) b)),(2,.one (.val (.sl (.sl .int)) c)),(3,.one (.ref 0)),(11,.one (.ref 1032)),(12,.one (.ref 37)),(13,.one (.ref 40)),(14,.one (.ref 43)),(15,.one (.ref 46)),(19,.I i),(76,.I (a.length+b.length:Nat)),(77,.I k),(79,.one (.val (.sl (.sl .int)) c)),(80,.I c.length),(81,.I i),(86,.one (.val (.sl .int) (c.getD i []))),(87,.I (c.getD i []).length),(88,.I j)]
    [(0,.deep 38 3 .int p),(1032,.flat 3 .int (leftV a b p).2),(37,.flat 3 .int (upto (relax c p i) j s1).ra),(40,.flat 3 .int (upto (relax c p i) j s1).rf),(43,.flat 3 .int (upto (relax c p i) j s1).ca),(46,.flat 3 .int (upto (relax c p i) j s1).cf)] [])
    (fun j=>j<=(c.getD i []).length) (fun j=>(c.getD i []).length - j) 0 (aq _) ?_ ?_
   ·refine zAf ?_ ?_ ?_<;>simp only [push_cast,seval,reduceCtorEq,cI]
    exact ⟨.inl rfl,.inl rfl,.inl rfl,.inl rfl⟩
   intro j hj K5 hL5
   have hF:=DSt.row p h3 hQ hi' j (by omega)
   have hFn:upto (relax c p i) (j+1) s1=relax c p i j (upto (relax c p i) j s1):=rfl
   generalize hs2:upto (relax c p i) j s1=s2 at hF hFn ⊢
   have g1:=hF.l1
   have g2:=hF.l2
   have g3:=hF.l3
   have g4:=hF.l4
   have g5:=hF.b1.at (i:=i) (by omega)
   have hfar:far=1099511627776:=rfl
   rcases ai j b.length with hjb|hjb
   ·have g6:=hF.b3.at (i:=j) (by omega)
    have g7:=h3.at' i j hi' hjb
    have g8:∀ x:Int,(s2.ca.set j x).getD j 0=x:=fun x=>by rw [zBj (by omega),ah rfl]
    have g9:∀ x:Int,(s2.ca.set j x).length=s2.ca.length:=fun x=>be
    replace hnl:=aa hnl (aa g8 g9)
    repeat' (first|(refine goK (by assumption) ?_; iterate 4 (try clear hK K))|(refine zAb fun K hK=>?_)|((first|refine zAa hE rfl ?_|((first|refine zAd hE 1 rfl rfl kr ?_|refine zAd hE 2 rfl rfl kr ?_|refine zAd hE 3 rfl rfl kr ?_|refine zAd hE 4 rfl rfl kr ?_); simp only [ao,List.length_nil,Nat.reduceAdd,Nat.reduceSub,ak,List.take_zero,al,ar])); simp +contextual only [hnl,↓kA,push_cast,seval,reduceCtorEq,cI])|refine zAc ?_|(refine zAg ?_; simp only [thenQ,zAh,if_true,if_false,Nat.reduceEqDiff,reduceCtorEq])|(refine zAe (by rfl) (fun hb=>?_) (fun hb=>?_)<;>(try simp only [bq,reduceCtorEq] at hb)<;>(try omega))|refine andS ?_|(refine ⟨fun hc=>?_,fun hc=>?_⟩)|fail)
    all_goals refine hL5 _ (j+1) (by omega) (by omega) ?_
    all_goals refine zAf ?_ ?_ ?_<;>simp only [push_cast,seval,reduceCtorEq,cI]
    all_goals rw [hFn]
    all_goals first|rw [zUj (by omega) (by omega) (by omega)]|rw [zUi (by omega) (by omega) (by omega) (by omega)]|rw [zUh (by omega) (by omega)]
    all_goals exact ⟨.inl rfl,.inl rfl,.inl rfl,.inl rfl⟩
   ·repeat' (first|(refine goK (by assumption) ?_; iterate 4 (try clear hK K))|(refine zAb fun K hK=>?_)|(refine zAa hE rfl ?_; simp +contextual only [hnl,↓kA,push_cast,seval,reduceCtorEq,cI])|(refine zAj ?_; simp only [thenQ,zAh,if_true,if_false,Nat.reduceEqDiff,reduceCtorEq])|(refine zAe (by rfl) (fun hb=>?_) (fun hb=>?_)<;>(try simp only [bq,reduceCtorEq] at hb)<;>(try omega))|refine andS ?_|fail)
    obtain rfl:j=(c.getD i []).length:=by omega
    rw [hs2] at hQn
    refine hL4 _ (i+1) (by omega) (by omega) ?_
    refine zAf ?_ ?_ ?_<;>simp only [push_cast,seval,reduceCtorEq,cI]
    rw [hQn]
    exact ⟨.inl rfl,.inl rfl,.inl rfl,.inl rfl⟩
  ·obtain rfl:i=c.length:=by omega
   refine hL _ (k+1) (by omega) (by omega) ?_
   refine zAf ?_ ?_ ?_<;>simp only [push_cast,seval,reduceCtorEq,cI]
   rw [hDn]
   exact ⟨.inl rfl,.inl rfl,.inl rfl,.inl rfl⟩
 obtain rfl:k=a.length+b.length:=by omega
 clear hb hL
 have hE0:distK a b c p (a.length+b.length)=dist a b c p:=rfl
 rw [hE0] at hD ⊢
 have hV0:bestV a b c p=zBI (leftV a b p).2 (dist a b c p).ca b.length:=rfl
 have hN0:nextN a b c p=if bestV a b c p<0 then 0 else (dist a b c p).ca.getD (bestV a b c p).toNat 0:=rfl
 have hP0:nextP a b c p=if bestV a b c p<0 then some p else Go.OT.follow (dist a b c p).rf (dist a b c p).cf (a.length+b.length) (bestV a b c p) p:=rfl
 generalize dist a b c p=x at hD hV0 hN0 hP0 ⊢
 have hfar:far=1099511627776:=rfl
 have hx1:=hD.l1
 have hx2:=hD.l2
 have hx3:=hD.l3
 have hx4:=hD.l4
 refine zAk (fun j:Nat=>AS.of [(0,.one (.val (.sl .int) a)),(1,.one (.val (.sl .int) b)),(2,.one (.val (.sl (.sl .int)) c)),(3,.one (.ref 0)),(11,.one (.ref 1032)),(12,.one (.ref 37)),(13,.one (.ref 40)),(14,.one (.ref 43)),(15,.one (.ref 46)),(23,.I (zBI (leftV a b p).2 x.ca j)),(168,.one (.ref 1032)),(169,.I (leftV a b p).2.length),(170,.I j)]
  [(0,.deep 38 3 .int p),(1032,.flat 3 .int (leftV a b p).2),(37,.flat 3 .int x.ra),(40,.flat 3 .int x.rf),(43,.flat 3 .int x.ca),(46,.flat 3 .int x.cf)] [])
  (fun j=>j<=b.length) (fun j=>b.length - j) 0 (aq _) ?_ ?_
 ·refine zAf ?_ ?_ ?_<;>simp only [push_cast,seval,reduceCtorEq,cI]
  rfl
 intro j hj K6 hL6
 have hbs:=zDs (leftV a b p).2 x.ca j
 have hbn:zBI (leftV a b p).2 x.ca (j+1)=if 0<(leftV a b p).2.getD j 0/\x.ca.getD j 0<far/\(zBI (leftV a b p).2 x.ca j<0\/x.ca.getD j 0<x.ca.getD (zBI (leftV a b p).2 x.ca j).toNat 0) then (j:Int) else zBI (leftV a b p).2 x.ca j:=rfl
 have hbl : -1<=zBI (leftV a b p).2 x.ca j/\zBI (leftV a b p).2 x.ca j<b.length:=by
  rcases hbs with ⟨h,_⟩|⟨m,h,h',_⟩<;>omega
 repeat' (first|(refine goK (by assumption) ?_; iterate 4 (try clear hK K))|(refine zAb fun K hK=>?_)|((first|refine zAa hE rfl ?_|refine zAi ?_|((first|refine zAd hE 1 rfl rfl kr ?_|refine zAd hE 2 rfl rfl kr ?_|refine zAd hE 3 rfl rfl kr ?_|refine zAd hE 4 rfl rfl kr ?_); simp only [ao,List.length_nil,Nat.reduceAdd,Nat.reduceSub,ak,List.take_zero,al,ar])); simp +contextual only [hnl,↓kA,push_cast,seval,reduceCtorEq,cI])|refine zAc ?_|((first|refine zAg ?_|refine zAj ?_); simp only [thenQ,zAh,if_true,if_false,Nat.reduceEqDiff,reduceCtorEq])|(refine zAe (by rfl) (fun hb=>?_) (fun hb=>?_)<;>(try simp only [bq,reduceCtorEq] at hb)<;>(try omega))|refine andS ?_|(refine ⟨fun hc=>?_,fun hc=>?_⟩)|fail)
 iterate 5
  ·refine hL6 _ (j+1) (by omega) (by omega) ?_
   refine zAf ?_ ?_ ?_<;>simp only [push_cast,seval,reduceCtorEq,cI]
   rw [hbn]
   first|rw [ah (by omega)]|rw [ae (by omega)]
 ·obtain rfl:j=b.length:=by omega
  have hbv:bestV a b c p<0:=by rw [hV0]; exact hb
  rw [hN0,hP0,ah hbv,ah hbv]
  exact ⟨⟨rfl,(aF (by omega)).symm⟩,rfl⟩
 obtain rfl:j=b.length:=by omega
 have hbv:¬bestV a b c p<0:=by rw [hV0]; exact hb
 obtain ⟨m,hm,hbm⟩:∃ m:Nat,m<b.length/\bestV a b c p=m:=by
  rcases hbs with ⟨h,_⟩|⟨m,h,h',_⟩
  ·omega
  ·exact ⟨m,h,by rw [hV0,h']⟩
 rw [ae hbv,hbm] at hP0 hN0
 rw [aW] at hN0
 rw [<-hV0,hbm]
 obtain ⟨p',hp'⟩:=cN.1 h6
 rw [hP0] at hp'
 clear hbs hbn hbl hL6
 refine zAk (fun y:Nat×Int×List (List Int)=>AS.of [(0,.one (.val (.sl .int) a)),(1,.one (.val (.sl .int) b)),(2,.one (.val (.sl (.sl .int)) c)),(3,.one (.ref 0)),(11,.one (.ref 1032)),(12,.one (.ref 37)),(13,.one (.ref 40)),(14,.one (.ref 43)),(15,.one (.ref 46)),(23,.I m),(26,.I y.2.1)]
  [(0,.deep 38 3 .int y.2.2),(37,.flat 3 .int x.ra),(40,.flat 3 .int x.rf),(43,.flat 3 .int x.ca),(46,.flat 3 .int x.cf)] [])
  (ChI x a.length b.length p') (fun y=>y.1) (a.length+b.length,(m:Int),p) ⟨by dsimp only; omega,Tb.mono h2.tab (by dsimp only; omega) (by dsimp only; omega),by dsimp only; omega,by dsimp only; omega,hp'⟩ ?_ ?_
 ·refine zAf ?_ ?_ ?_<;>simp only [push_cast,seval,reduceCtorEq,cI]
 intro y hI K7 hL7
 obtain ⟨n,j,q⟩:=y
 obtain ⟨i1,i2,i3,i4,i5⟩:=hI
 dsimp only at i1 i2 i3 i4 i5 ⊢
 have hql:=i2.rows
 by_cases hj0:0<=j
 ·obtain ⟨n,rfl,hfol⟩:=zO3 hj0 i5
  obtain ⟨jn,rfl⟩:=Int.eq_ofNat_of_zero_le hj0
  have hc4:=hD.b4.at (i:=jn) (by omega)
  obtain ⟨i,hi⟩:=Int.eq_ofNat_of_zero_le hc4.1
  rw [hi] at hc4
  have hr2:=hD.b2.at (i:=i) (by omega)
  have hqi:=i2.cols i (by omega)
  have hqe:=i2.at' i jn (by omega) (by omega)
  have hq1:∀ r:List Int,(q.set i r).getD i []=r:=fun r=>by rw [zG8,ah ⟨rfl,by omega⟩]
  have hq2:∀ r:List Int,(q.set i r).length=q.length:=fun r=>be
  have hq3:∀ v:Int,((q.getD i []).set jn v).length=(q.getD i []).length:=fun v=>be
  have hnx:zDd x.rf x.cf (jn:Int)=x.rf.getD i 0:=by
   unfold zDd
   rw [aW,hi,aW]
  rw [hnx] at hfol
  by_cases hr0:0<=x.rf.getD i 0
  ·obtain ⟨j2,hj2⟩:=Int.eq_ofNat_of_zero_le hr0
   have hst:zBF x.rf x.cf (jn:Int) q=Go.OT.addAt (Go.OT.addAt q i jn 1) i j2 (-1):=by
    unfold zBF
    dsimp only
    rw [aW,hi,aW,hj2,ah (by omega),aW]
   rw [hst,hj2] at hfol
   rw [hj2] at hr2 hr0
   have hAA:Go.OT.addAt (Go.OT.addAt q i jn 1) i j2 (-1)=(q.set i ((q.getD i []).set jn ((q.getD i []).getD jn 0+1))).set i (((q.getD i []).set jn ((q.getD i []).getD jn 0+1)).set j2 (((q.getD i []).set jn ((q.getD i []).getD jn 0+1)).getD j2 0 - 1)):=by
    unfold Go.OT.addAt
    rw [hq1]
    rfl
   have hq4 : -14<=((q.getD i []).set jn ((q.getD i []).getD jn 0+1)).getD j2 0/\((q.getD i []).set jn ((q.getD i []).getD jn 0+1)).getD j2 0<=214:=by
    have:=i2.at' i j2 (by omega) (by omega)
    rw [zBj (by omega)]
    split<;>omega
   have hI':ChI x a.length b.length p' (n,(j2:Int),Go.OT.addAt (Go.OT.addAt q i jn 1) i j2 (-1)):=⟨by dsimp only; omega,Tb.mono (Tb.addAt2 (d:=0) (e:=0) (i:=i) (j:=jn) (j':=j2) i2 (by omega) (by omega) (by omega)) (by dsimp only; omega) (by dsimp only; omega),by dsimp only; omega,by dsimp only; omega,hfol⟩
   replace hnl:=aa hnl (aa hi (aa hj2 (aa hq1 (aa hq2 hq3))))
   repeat' (first|(refine goK (by assumption) ?_; iterate 4 (try clear hK K))|(refine zAb fun K hK=>?_)|(refine zAa hE rfl ?_; simp +contextual only [hnl,↓kA,push_cast,seval,reduceCtorEq,cI])|refine zAc ?_|(refine zAg ?_; simp only [thenQ,zAh,if_true,if_false,Nat.reduceEqDiff,reduceCtorEq])|(refine zAe (by rfl) (fun hb=>?_) (fun hb=>?_)<;>(try simp only [bq,reduceCtorEq] at hb)<;>(try omega))|refine andS ?_|fail)
   refine hL7 _ _ hI' (bT n) ?_
   refine zAf ?_ ?_ ?_<;>simp only [push_cast,seval,reduceCtorEq,cI]
   rw [hAA]
   exact .inl rfl
  ·have hst:zBF x.rf x.cf (jn:Int) q=Go.OT.addAt q i jn 1:=by
    unfold zBF
    dsimp only
    rw [aW,hi,aW,ae hr0]
   rw [hst] at hfol
   have hI':ChI x a.length b.length p' (n,x.rf.getD i 0,Go.OT.addAt q i jn 1):=⟨by dsimp only; omega,Tb.mono (Tb.addAt (d:=1) (i:=i) (j:=jn) i2 (by omega) (by omega) (by omega)) (by dsimp only; omega) (by dsimp only; omega),by dsimp only; omega,by dsimp only; omega,hfol⟩
   replace hnl:=aa hnl (aa hi (aa hq1 (aa hq2 hq3)))
   repeat' (first|(refine goK (by assumption) ?_; iterate 4 (try clear hK K))|(refine zAb fun K hK=>?_)|(refine zAa hE rfl ?_; simp +contextual only [hnl,↓kA,push_cast,seval,reduceCtorEq,cI])|refine zAc ?_|(refine zAg ?_; simp only [thenQ,zAh,if_true,if_false,Nat.reduceEqDiff,reduceCtorEq])|(refine zAe (by rfl) (fun hb=>?_) (fun hb=>?_)<;>(try simp only [bq,reduceCtorEq] at hb)<;>(try omega))|refine andS ?_|fail)
   refine hL7 _ _ hI' (bT n) ?_
   refine zAf ?_ ?_ ?_<;>simp only [push_cast,seval,reduceCtorEq,cI]
   exact .inl rfl
 ·rw [zIM _ _ (by omega)] at i5
  repeat' (first|(refine goK (by assumption) ?_; iterate 4 (try clear hK K))|(refine zAb fun K hK=>?_)|((first|refine zAa hE rfl ?_|refine zAi ?_); simp +contextual only [hnl,↓kA,push_cast,seval,reduceCtorEq,cI])|(refine zAj ?_; simp only [thenQ,zAh,if_true,if_false,Nat.reduceEqDiff,reduceCtorEq])|(refine zAe (by rfl) (fun hb=>?_) (fun hb=>?_)<;>(try simp only [bq,reduceCtorEq] at hb)<;>(try omega))|refine andS ?_|fail)
  rw [hN0,hP0,hp',bB,<-bP i5,hbm]
  exact ⟨⟨rfl,(aD (by omega)).symm⟩,rfl⟩
end Go.Proofs.YtekfodeknpnkbaaGreatDoor
namespace Go.Proofs.YtekfodeknpnkbaaGreatDoor
open Go.RowKit Go.VS Go.OT
@[push_cast] def zS4:Con:=⟨[.dat (.sl .int),.dat (.sl .int),.dat (.sl (.sl .int))],fun (x:List Int×List Int×List (List Int)×Unit)=>MC x.1 x.2.1 x.2.2.1,
 fun (x:List Int×List Int×List (List Int)×Unit)=>{res:=[.own (.deep 38 3 .int (cheapV x.1 x.2.1 x.2.2.1))]}⟩
structure ItI (a b:List Int) (c:List (List Int)) (y:Nat×List (List Int)×Bool):Prop where
 go:y.2.2=true->iterV a b c y.1 y.2.1=cheapV a b c/\∃ V,Way2 a b c y.2.1 V/\sumL a - units a.length b.length (gt y.2.1)<y.1
 stop:y.2.2=false->y.2.1=cheapV a b c
theorem zOO:FnSpec Tryz.prog 132 zS4:=by
 refine FnSpec.of_tri' (E:=know _ [] [] []) (zAl (kc zID (kc zK6 all_nil)) all_nil all_nil) Tryz.func132 rfl rfl kr ?_
 intro C x hE hnl hfit hpre
 simp only [Tryz.ntmps132,Tryz.results132,maxLen,seval,push_cast] at hnl hfit hpre ⊢
 obtain ⟨(a:List Int),(b:List Int),(c:List (List Int)),_⟩:=x
 dsimp only at hfit hpre ⊢
 have ha5:=hpre.a5
 have hb5:=hpre.b5
 repeat' (first|(refine goK (by assumption) ?_; iterate 4 (try clear hK K))|(refine zAb fun K hK=>?_)|(refine zAa hE rfl ?_; simp +contextual only [hnl,↓kA,push_cast,seval,reduceCtorEq,cI])|refine zAc ?_|refine andS ?_|fail)
 refine zAk (fun y:Nat×List (List Int)×Bool=>AS.of [(0,.one (.val (.sl .int) a)),(1,.one (.val (.sl .int) b)),(2,.one (.val (.sl (.sl .int)) c)),(7,.one (.ref 11)),(8,.one (.val .bool y.2.2))] [(11,.deep 38 3 .int y.2.1)] [])
  (ItI a b c) (fun y=>2*y.1+if y.2.2=true then 1 else 0) ((sumL a).toNat+1,zDf a b,true) ⟨fun _=>⟨rfl,0,hpre.start,by rw [zCD,zGz]; dsimp only; omega⟩,fun h=>Bool.noConfusion h⟩ ?_ ?_
 ·refine zAf ?_ ?_ ?_<;>simp only [push_cast,seval,reduceCtorEq,cI]
  exact .inl rfl
 intro y hI K' hL
 obtain ⟨n,p,more⟩:=y
 cases more with
 | false =>
  have hp:=hI.stop rfl
  dsimp only at hp ⊢
  subst hp
  exact auA
 | true =>
  obtain ⟨h1,V,h2,h3⟩:=hI.go rfl
  dsimp only at h1 h2 h3 ⊢
  have hends:(nextP a b c p).isSome=true:=by
   by_cases hb:bestV a b c p<0
   ·rw [(zEU hpre.hc h2 hb).1]; rfl
   ·obtain ⟨p',h4,_⟩:=zDM hpre.hc h2 hb
    rw [h4]; rfl
  have hpre2:NextPre a b c (.deep 38 3 .int p):=⟨by rw [zC8],by rw [zC8]; exact h2.shp,hpre.hc,by rw [zC8]; exact hends⟩
  repeat' (first|(refine goK (by assumption) ?_; iterate 4 (try clear hK K))|(refine zAb fun K hK=>?_)|(refine zAa hE rfl ?_; simp +contextual only [hnl,↓kA,push_cast,seval,reduceCtorEq,cI])|refine zAc ?_|(refine zAg ?_; simp only [thenQ,zAh,if_true,if_false,Nat.reduceEqDiff,reduceCtorEq])|(refine zAe (by rfl) (fun hb=>?_) (fun hb=>?_)<;>(try simp only [bq,reduceCtorEq] at hb)<;>(try omega))|refine andS ?_|fail)
  have hu:=h2.part.units_le
  obtain ⟨m,rfl⟩:∃ m,n=m+1:=⟨n - 1,by omega⟩
  by_cases hb0:bestV a b c p<0
  ·obtain ⟨e1,_,_⟩:=zEU hpre.hc h2 hb0
   have e2:p=cheapV a b c:=by
    rw [<-h1]
    exact (ah hb0).symm
   refine hL _ (m+1,p,false) ⟨fun h=>Bool.noConfusion h,fun _=>e2⟩ (by simp) ?_
   refine zAf ?_ ?_ ?_<;>simp only [push_cast,seval,reduceCtorEq,cI]
   ·first|omega|exact Int.not_le.2 hb0|exact hb0
   ·rw [e1]
    exact .inl rfl
  ·obtain ⟨p',e1,e2,e3,e4,e5,e6,e7⟩:=zDM hpre.hc h2 hb0
   have e8:iterV a b c m p'=cheapV a b c:=by
    rw [<-h1]
    show _=(if _ then _ else _)
    rw [ae hb0,e1]
    rfl
   refine hL _ (m,p',true) ⟨fun _=>⟨e8,_,e2,by dsimp only; omega⟩,fun h=>Bool.noConfusion h⟩ (by dsimp only; omega) ?_
   refine zAf ?_ ?_ ?_<;>simp only [push_cast,seval,reduceCtorEq,cI]
   ·omega
   ·rw [e1]
    exact .inl rfl
end Go.Proofs.YtekfodeknpnkbaaGreatDoor
