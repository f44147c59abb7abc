import Derived.Test.YtlgkplnifaoeeaaGreatDoorW5
set_option linter.unusedSimpArgs false
set_option linter.unusedVariables false
namespace Go.Proofs.YtlgkplnifaoeeaaGreatDoor
open Go.RowKit Go.VS
def InL (n lo hi:Int) (l:List Int):Prop:=l.length=n∧∀ x∈l,lo≤x∧x≤hi
instance (n lo hi:Int) (l:List Int):Decidable (InL n lo hi l):=by unfold InL; infer_instance
structure InTab (lo hi:Int) (p:List (List Int)):Prop where
 rows:1≤p.length∧p.length≤5
 cols:1≤wid p∧wid p≤5
 row:∀ r∈p,InL (wid p) lo hi r
theorem inTab_iff {lo hi:Int} {p:List (List Int)}:InTab lo hi p↔((1≤p.length∧p.length≤5)∧(1≤wid p∧wid p≤5)∧∀ r∈p,InL (wid p) lo hi r):=⟨fun ⟨a,b,c⟩=>⟨a,b,c⟩,fun ⟨a,b,c⟩=>⟨a,b,c⟩⟩
instance (lo hi:Int) (p:List (List Int)):Decidable (InTab lo hi p):=decidable_of_iff _ inTab_iff.symm
theorem InTab.len {lo hi:Int} {p:List (List Int)} (h:InTab lo hi p) {i:Nat} (hi:i<p.length):(p.getD i []).length=wid p:=by
 have:=(h.row _ (zAR [] hi)).1
 omega
theorem InTab.at {lo hi:Int} {p:List (List Int)} (h:InTab lo hi p) {i j:Nat} (h1:i<p.length) (h2:j<wid p):lo≤(p.getD i []).getD j 0∧(p.getD i []).getD j 0≤hi :=
 (h.row _ (zAR [] h1)).2 _ (zAR 0 (by rw [h.len h1]; exact h2))
theorem zKS {lo hi:Int} {p:List (List Int)} (h1:1≤p.length∧p.length≤5) (h2:1≤wid p∧wid p≤5) (h:∀ i,i<p.length→(p.getD i []).length=wid p∧∀ j,j<wid p→lo≤(p.getD i []).getD j 0∧(p.getD i []).getD j 0≤hi):InTab lo hi p:=by
 refine ⟨h1,h2,fun r hr=>?_⟩
 obtain ⟨i,hi,rfl⟩:=List.getElem_of_mem hr
 have e:p.getD i []=p[i]:=by rw [List.getD_eq_getElem?_getD,List.getElem?_eq_getElem hi]; rfl
 have:=h i hi
 rw [e] at this
 refine ⟨by rw [this.1],fun x hx=>?_⟩
 obtain ⟨j,hj,rfl⟩:=List.getElem_of_mem hx
 have h3:=this.2 j (by rw [←this.1]; exact hj)
 rwa [List.getD_eq_getElem?_getD,List.getElem?_eq_getElem hj] at h3
def zAs (p:List (List Int)):Int:=if InTab 0 99 p then 0 else 1
theorem zEc {p:List (List Int)} (h:InTab 0 99 p):zAs p=0:=if_pos h
theorem zDF {p:List (List Int)} (h:¬InTab 0 99 p):zAs p=1:=if_neg h
theorem zAK {p:List (List Int)} (h:zAs p=0):InTab 0 99 p:=by
 by_cases h2:InTab 0 99 p
 ·exact h2
 ·rw [zDF h2] at h; omega
theorem zJy (p:List (List Int)):zAs p=0∨zAs p=1:=by
 unfold zAs
 split<;>simp
@[push_cast] def zVk:Clo:=⟨[.int,.int],[.int],.bool,fun _ _=>True,fun (y:Int×Int×Unit) (x:Int×Unit)=>!decide (y.1≤x.1∧x.1≤y.2.1)⟩
@[push_cast] def zVJ:Con:=⟨[.dat .int,.ptr .int,.ptr .int],fun _=>True,fun (x:Int×Int×Int×Unit)=>{res:=[.val .bool (!decide (x.2.1≤x.1∧x.1≤x.2.2.1))]}⟩
@[push_cast] def zXj:Con:=⟨[.dat (.sl .int),.dat .int,.dat .int,.dat .int],fun _=>True,fun (x:List Int×Int×Int×Int×Unit)=>{res:=[.val .bool (decide (InL x.2.1 x.2.2.1 x.2.2.2.1 x.1))]}⟩
@[push_cast] def zIj:Con:=⟨[.dat (.sl (.sl .int))],fun _=>True,fun (x:List (List Int)×Unit)=>{res:=[.val .int (zAs x.1)]}⟩
theorem zVK:FnSpec Tryz.prog 158 zVJ:=by
 refine FnSpec.of_tri' (E:=know _ [] [] []) (zAl (kc zHE all_nil) all_nil all_nil) Tryz.func158 rfl rfl (by kernel_rfl) ?_
 intro C x hE hnl hfit hpre
 simp only [Tryz.ntmps158,Tryz.results158,maxLen,seval,push_cast] at hnl hfit hpre ⊢
 obtain ⟨(n:Int),(lo:Int),(hi:Int),_⟩:=x
 dsimp only at hfit hpre ⊢
 exact auA
theorem zRg:CloSpec Tryz.prog 158 zVk:=CloSpec.of zVK
theorem zWg {n lo hi:Int} {l:List Int} (h:(l.length:Int)=n):(!l.any fun y=>!decide (lo≤y∧y≤hi))=decide (InL n lo hi l):=by
 by_cases hl:InL n lo hi l
 ·rw [decide_eq_true hl,Bool.not_eq_true',List.any_eq_false]
  intro x hx
  simpa using hl.2 x hx
 ·rw [decide_eq_false hl,Bool.not_eq_false',List.any_eq_true]
  apply Classical.byContradiction
  intro h2
  refine hl ⟨h,fun x hx=>?_⟩
  apply Classical.byContradiction
  intro h3
  exact h2 ⟨x,hx,by simp only [Bool.not_eq_true',decide_eq_false_iff_not]; exact h3⟩
theorem zOo:FnSpec Tryz.prog 118 zXj:=by
 refine FnSpec.of_tri' (E:=know [(110,zCS)] [(158,zVk)] [] []) (zAl (all_cons zCB all_nil) (all_cons zRg all_nil) all_nil) Tryz.func118 rfl rfl (by kernel_rfl) ?_
 intro C x hE hnl hfit hpre
 simp only [Tryz.ntmps118,Tryz.results118,maxLen,seval,push_cast] at hnl hfit hpre ⊢
 obtain ⟨(l:List Int),(n:Int),(lo:Int),(hi:Int),_⟩:=x
 dsimp only at hfit hpre ⊢
 repeat' (first|(refine goK (by assumption) ?_; iterate 4 (try clear hK K))|(refine zAc fun K hK=>?_)|((first|refine zAa hE rfl ?_|refine zAh ?_); simp +contextual only [hnl,↓kN,↓kP,↓kG,↓qN,↓qP,↓qG,push_cast,seval,reduceCtorEq,Int.cast_ofNat_Int])|(refine ⟨fun hc=>?_,fun hc=>?_⟩)|fail)
 ·exact zWg (by assumption)
 ·exact (decide_eq_false fun h=>by have:=h.1; omega).symm
theorem zFD:FnSpec Tryz.prog 73 zIj:=by
 refine FnSpec.of_tri' (E:=know _ [] [] []) (zAl (kc zHE (kc zOo all_nil)) all_nil all_nil) Tryz.func73 rfl rfl (by kernel_rfl) ?_
 intro C x hE hnl hfit hpre
 simp only [Tryz.ntmps73,Tryz.results73,maxLen,seval,push_cast] at hnl hfit hpre ⊢
 obtain ⟨(p:List (List Int)),_⟩:=x
 dsimp only at hfit hpre ⊢
 repeat' (first|(refine goK (by assumption) ?_; iterate 4 (try clear hK K))|(refine zAc fun K hK=>?_)|((first|refine zAa hE rfl ?_|refine zAh ?_); simp +contextual only [hnl,↓kN,↓kP,↓kG,↓qN,↓qP,↓qG,push_cast,seval,reduceCtorEq,Int.cast_ofNat_Int])|refine zAd ?_|(refine zAf ?_; simp only [thenQ,zAi,if_true,if_false,Nat.reduceEqDiff,reduceCtorEq])|(refine zAe (by rfl) (fun hb=>?_) (fun hb=>?_)<;>(try simp only [bqa,bqb,bqc,bqd,reduceCtorEq,bqe,bqf] at hb)<;>(try omega))|refine andS ?_|(refine ⟨fun hc=>?_,fun hc=>?_⟩)|fail)
 ·exact (zDF fun h=>hb (by have:=h.cols; unfold wid at this; omega)).symm
 ·have hw:(p.getD 0 []).length=wid p:=rfl
  refine zAk (fun k:Nat=>AS.of [(0,.one (.val (.sl (.sl .int)) p)),(17,.one (.val (.sl (.sl .int)) p)),(18,.I p.length),(19,.I k)] [] []) (fun k=>k≤p.length∧∀ i,i<k→InL (wid p) 0 99 (p.getD i [])) (fun k=>p.length - k) 0 ⟨Nat.zero_le _,by omega⟩ ?_ ?_
  ·refine zAg ?_ ?_ ?_<;>simp only [push_cast,seval,reduceCtorEq,Int.cast_ofNat_Int]
  intro k ⟨hk,hi⟩ K' hL
  repeat' (first|(refine goK (by assumption) ?_; iterate 4 (try clear hK K))|(refine zAc fun K hK=>?_)|((first|refine zAa hE rfl ?_|refine zAh ?_); simp +contextual only [hnl,↓kN,↓kP,↓kG,↓qN,↓qP,↓qG,push_cast,seval,reduceCtorEq,Int.cast_ofNat_Int])|refine zAd ?_|((first|refine zAf ?_|refine zAj ?_); simp only [thenQ,zAi,if_true,if_false,Nat.reduceEqDiff,reduceCtorEq])|(refine zAe (by rfl) (fun hb=>?_) (fun hb=>?_)<;>(try simp only [bqa,bqb,bqc,bqd,reduceCtorEq,bqe,bqf] at hb)<;>(try omega))|refine andS ?_|fail)
  ·exact (zDF fun h=>hb (by have:=h.row _ (zAR [] (by omega:k<p.length)); rw [hw]; exact this)).symm
  ·refine hL _ (k+1) ⟨by omega,fun i h1=>?_⟩ (by omega) ?_
   ·rcases Nat.lt_or_ge i k with h3|h3
    ·exact hi i h3
    ·obtain rfl:i=k:=by omega
     rw [hw] at hb
     exact hb
   refine zAg ?_ ?_ ?_<;>simp only [push_cast,seval,reduceCtorEq,Int.cast_ofNat_Int]
  ·refine (zEc ⟨by omega,by omega,fun r hr=>?_⟩).symm
   obtain ⟨i,h1,rfl⟩:=List.getElem_of_mem hr
   have:=hi i (by omega)
   rwa [List.getD_eq_getElem?_getD,List.getElem?_eq_getElem h1] at this
 ·exact (zDF fun h=>by have:=h.rows; omega).symm
end Go.Proofs.YtlgkplnifaoeeaaGreatDoor
namespace Go.Proofs.YtlgkplnifaoeeaaGreatDoor
open Go.RowKit Go.VS
def orV:List Int→Int
 | []=>0
 | x::l=>if x=0 then orV l else x
@[push_cast] theorem zII:orV []=0:=rfl
theorem zEO (x:Int) (l:List Int):orV (x::l)=if x=0 then orV l else x:=rfl
theorem zK2:∀ (l:List Int) (k:Nat),k≤l.length→(∀ j,j<k→l.getD j 0=0)→orV l=orV (l.drop k)
 | l,0,_,_=>rfl
 | [],k+1,h,_=>by simp at h
 | x::l,k+1,h,hz=>by
  have h0:x=0:=by simpa using hz 0 (by omega)
  rw [zEO,if_pos h0,List.drop_succ_cons]
  exact zK2 l k (by simpa using h) fun j hj=>by simpa using hz (j+1) (by omega)
@[push_cast] def orCon:Con:=⟨[.dat (.sl .int)],fun _=>True,fun (x:List Int×Unit)=>{res:=[.val .int (orV x.1)]}⟩
theorem zIJ:FnSpec Tryz.prog 95 orCon:=by
 refine FnSpec.of_tri' (E:=know [] [] [] []) (zAl all_nil all_nil all_nil) Tryz.func95 rfl rfl (by kernel_rfl) ?_
 intro C x hE hnl hfit hpre
 simp only [Tryz.ntmps95,Tryz.results95,maxLen,seval,push_cast] at hnl hfit hpre ⊢
 obtain ⟨(l:List Int),_⟩:=x
 dsimp only at hfit hpre ⊢
 repeat' (first|(refine goK (by assumption) ?_; iterate 4 (try clear hK K))|(refine zAc fun K hK=>?_)|(refine zAa hE rfl ?_; simp +contextual only [hnl,↓kN,↓kP,↓kG,↓qN,↓qP,↓qG,push_cast,seval,reduceCtorEq,Int.cast_ofNat_Int])|refine zAd ?_|fail)
 refine zAk (fun k:Nat=>AS.of [(0,.one (.val (.sl .int) l)),(3,.I 0),(6,.one (.val (.sl .int) l)),(7,.I l.length),(8,.I k)] [] []) (fun k=>k≤l.length∧∀ j,j<k→l.getD j 0=0) (fun k=>l.length - k) 0 ⟨Nat.zero_le _,by omega⟩ ?_ ?_
 ·refine zAg ?_ ?_ ?_<;>simp only [push_cast,seval,reduceCtorEq,Int.cast_ofNat_Int]
 intro k ⟨hk,hz⟩ K' hL
 repeat' (first|(refine goK (by assumption) ?_; iterate 4 (try clear hK K))|(refine zAc fun K hK=>?_)|((first|refine zAa hE rfl ?_|refine zAh ?_); simp +contextual only [hnl,↓kN,↓kP,↓kG,↓qN,↓qP,↓qG,push_cast,seval,reduceCtorEq,Int.cast_ofNat_Int])|refine zAd ?_|((first|refine zAf ?_|refine zAj ?_); simp only [thenQ,zAi,if_true,if_false,Nat.reduceEqDiff,reduceCtorEq])|(refine zAe (by rfl) (fun hb=>?_) (fun hb=>?_)<;>(try simp only [bqa,bqb,bqc,bqd,reduceCtorEq,bqe,bqf] at hb)<;>(try omega))|refine andS ?_|fail)
 ·rw [zK2 l k hk hz,zLC 0 (by omega),zEO,if_neg hb]
 ·refine hL _ (k+1) ⟨by omega,fun j hj=>?_⟩ (by omega) ?_
  ·rcases Nat.lt_or_ge j k with h3|h3
   ·exact hz j h3
   ·obtain rfl:j=k:=by omega
    exact hb
  refine zAg ?_ ?_ ?_<;>simp only [push_cast,seval,reduceCtorEq,Int.cast_ofNat_Int]
 ·rw [zK2 l k hk hz,List.drop_of_length_le (by omega)]
  rfl
structure ForOK (a b:List Int) (c:List (List Int)):Prop where
 ha:zB0 a=true
 hb:zB0 b=true
 hc:InTab 0 99 c
 rows:c.length=a.length
 cols:wid c=b.length
theorem forOK_iff {a b:List Int} {c:List (List Int)}:ForOK a b c↔(zB0 a=true∧zB0 b=true∧InTab 0 99 c∧c.length=a.length∧wid c=b.length) :=
 ⟨fun ⟨a,b,c,d,e⟩=>⟨a,b,c,d,e⟩,fun ⟨a,b,c,d,e⟩=>⟨a,b,c,d,e⟩⟩
instance (a b:List Int) (c:List (List Int)):Decidable (ForOK a b c):=decidable_of_iff _ forOK_iff.symm
def zDi (a b:List Int) (c:List (List Int)):Int:=if ForOK a b c then 0 else 1
def zE8 (a b:List Int) (c:List (List Int)):Int:=if ForOK a b c then if lsum a=lsum b then 0 else 5 else 1
section
variable {a b:List Int} {c:List (List Int)}
theorem zKM (h:ForOK a b c):zDi a b c=0:=if_pos h
theorem zFr (h:¬ForOK a b c):zDi a b c=1:=if_neg h
theorem zRO (h:zDi a b c=0):ForOK a b c:=by
 by_cases h2:ForOK a b c
 ·exact h2
 ·rw [zFr h2] at h; omega
theorem zPM (h:zE8 a b c=0):ForOK a b c∧lsum a=lsum b:=by
 unfold zE8 at h
 split at h
 ·split at h
  ·exact ⟨by assumption,by assumption⟩
  ·omega
 ·omega
theorem zOL (h:¬zAu a=0):zAu a=zDi a b c:=by
 rw [zFr fun h2=>h (by rw [zAu,if_pos h2.ha])]
 rw [zAu,zJz h]; rfl
theorem zOM (h:¬zAu b=0):zAu b=zDi a b c:=by
 rw [zFr fun h2=>h (by rw [zAu,if_pos h2.hb])]
 rw [zAu,zJz h]; rfl
theorem zON (h:¬zAs c=0):zAs c=zDi a b c:=by
 rw [zFr fun h2=>h (zEc h2.hc)]
 exact (zJy c).resolve_left h
theorem zOO (h:¬c.length=a.length):(1:Int)=zDi a b c:=(zFr fun h2=>h h2.rows).symm
theorem zOP (h:¬(c.getD 0 []).length=b.length):(1:Int)=zDi a b c:=(zFr fun h2=>h h2.cols).symm
theorem zWC (h:¬orV [zAu a,zAu b,zAs c]=0):orV [zAu a,zAu b,zAs c]=zDi a b c:=by
 simp only [zEO,zII] at h ⊢
 split
 ·split
  ·rename_i h1 h2
   rw [if_pos h1,if_pos h2] at h
   split
   ·rename_i h3; rw [if_pos h3] at h; omega
   ·exact zON (by assumption)
  ·exact zOM (by assumption)
 ·exact zOL (by assumption)
theorem zHZ (h:orV [zAu a,zAu b,zAs c]=0):zAu a=0∧zAu b=0∧zAs c=0:=by
 simp only [zEO,zII] at h
 split at h
 ·split at h
  ·split at h
   ·exact ⟨by assumption,by assumption,by assumption⟩
   ·contradiction
  ·contradiction
 ·contradiction
end
@[push_cast] def zVq:Con:=⟨[.dat (.sl .int),.dat (.sl .int),.dat (.sl (.sl .int))],fun _=>True,fun (x:List Int×List Int×List (List Int)×Unit)=>{res:=[.val .int (zDi x.1 x.2.1 x.2.2.1)]}⟩
end Go.Proofs.YtlgkplnifaoeeaaGreatDoor
namespace Go.Proofs.YtlgkplnifaoeeaaGreatDoor
open Go.RowKit Go.VS Go.OT
def dotK (r s:List Int):Nat→Int
 | 0=>0
 | k+1=>dotK r s k+r.getD k 0*s.getD k 0
def zCP (c t:List (List Int)):Nat→Int
 | 0=>0
 | k+1=>zCP c t k+dotK (c.getD k []) (t.getD k []) (t.getD k []).length
def spend (c t:List (List Int)):Int:=zCP c t t.length
def Fit (c t:List (List Int)):Prop:=∃ R C,(R≤6∧C≤6)∧Tb R C 0 1000000 c∧Tb R C 0 200 t
theorem zSu {x y:Int} (h1:0≤x∧x≤1000000) (h2:0≤y∧y≤200):0≤x*y∧x*y≤200000000 :=
 ⟨Int.mul_nonneg h1.1 h2.1,by have:=Int.mul_le_mul h1.2 h2.2 h2.1 (by omega:(0:Int)≤1000000); omega⟩
theorem Fit.rows {c t:List (List Int)} (h:Fit c t):t.length=c.length∧t.length≤6:=by
 obtain ⟨R,C,h1,h2,h3⟩:=h
 rw [h2.rows,h3.rows]; omega
theorem Fit.cols {c t:List (List Int)} (h:Fit c t) {i:Nat} (hi:i<t.length):(t.getD i []).length=(c.getD i []).length∧(t.getD i []).length≤6:=by
 obtain ⟨R,C,h1,h2,h3⟩:=h
 rw [h3.rows] at hi
 rw [h2.cols i hi,h3.cols i hi]; omega
theorem Fit.term {c t:List (List Int)} (h:Fit c t) {i j:Nat} (hi:i<t.length) (hj:j<(t.getD i []).length):0≤(c.getD i []).getD j 0*(t.getD i []).getD j 0∧(c.getD i []).getD j 0*(t.getD i []).getD j 0≤200000000:=by
 obtain ⟨R,C,h1,h2,h3⟩:=h
 rw [h3.rows] at hi
 rw [h3.cols i hi] at hj
 exact zSu (h2.at' i j hi hj) (h3.at' i j hi hj)
theorem Fit.dot {c t:List (List Int)} (h:Fit c t) {i:Nat} (hi:i<t.length):∀ j,j≤(t.getD i []).length→0≤dotK (c.getD i []) (t.getD i []) j∧dotK (c.getD i []) (t.getD i []) j≤200000000*j
 | 0,_=>by simp [dotK]
 | j+1,hj=>by
  have h1:=h.dot hi j (by omega)
  have h2:=h.term hi (j:=j) (by omega)
  simp only [dotK]
  omega
theorem Fit.spend {c t:List (List Int)} (h:Fit c t):∀ k,k≤t.length→0≤zCP c t k∧zCP c t k≤1200000000*k
 | 0,_=>by simp [zCP]
 | k+1,hk=>by
  have h1:=h.spend k (by omega)
  have h2:=h.dot (i:=k) (by omega) _ (Nat.le_refl _)
  have h3:=h.cols (i:=k) (by omega)
  simp only [zCP]
  omega
theorem InTab.tb {lo hi lo' hi':Int} {p:List (List Int)} (h:InTab lo hi p) (h1:lo'≤lo) (h2:hi≤hi'):Tb p.length (wid p) lo' hi' p:=⟨rfl,fun i hi=>h.len hi,fun i j hi hj=>by have:=h.at hi hj; omega⟩
theorem InPlan.tab {p:List (List Int)} (h:InPlan p):InTab 0 150 p:=zKS h.rows h.cols fun i hi=>⟨h.row hi,fun j hj=>h.at hi hj⟩
section
variable {c t:List (List Int)}
end
end Go.Proofs.YtlgkplnifaoeeaaGreatDoor
namespace Go.Proofs.YtlgkplnifaoeeaaGreatDoor
open Go.RowKit Go.VS
abbrev zBh:=List Int×List Int
def wideV (p:List (List Int)):Bool:=p.any (fun r=>decide (50<r.length)) || decide (50<p.length)
@[push_cast] def zTu:Con:=⟨[.dat (.sl (.sl .int))],fun _=>True,fun (x:List (List Int)×Unit)=>{res:=[.val .bool (decide (wideV x.1=true))]}⟩
theorem zCL:FnSpec Tryz.prog 24 zTu:=by
 refine FnSpec.of_tri' (E:=know [] [] [] []) (zAl all_nil all_nil all_nil) Tryz.func24 rfl rfl (by kernel_rfl) ?_
 intro C x hE hnl hfit hpre
 simp only [Tryz.ntmps24,Tryz.results24,maxLen,seval,push_cast] at hnl hfit hpre ⊢
 obtain ⟨(p:List (List Int)),_⟩:=x
 dsimp only at hfit hpre ⊢
 repeat' (first|(refine goK (by assumption) ?_; iterate 4 (try clear hK K))|(refine zAc fun K hK=>?_)|(refine zAa hE rfl ?_; simp +contextual only [hnl,↓kN,↓kP,↓kG,↓qN,↓qP,↓qG,push_cast,seval,reduceCtorEq,Int.cast_ofNat_Int])|refine zAd ?_|fail)
 refine zAk (fun k:Nat=>AS.of [(0,.one (.val (.sl (.sl .int)) p)),(3,.I k)] [] []) (fun k=>k≤p.length∧(p.take k).any (fun r=>decide (50<r.length))=false) (fun k=>p.length - k) 0 ⟨Nat.zero_le _,by simp⟩ ?_ ?_
 ·refine zAg ?_ ?_ ?_<;>simp only [push_cast,seval,reduceCtorEq,Int.cast_ofNat_Int]
 intro k ⟨hk,hj⟩ K' hL
 repeat' (first|(refine goK (by assumption) ?_; iterate 4 (try clear hK K))|(refine zAc fun K hK=>?_)|((first|refine zAa hE rfl ?_|refine zAh ?_); simp +contextual only [hnl,↓kN,↓kP,↓kG,↓qN,↓qP,↓qG,push_cast,seval,reduceCtorEq,Int.cast_ofNat_Int])|refine zAd ?_|((first|refine zAf ?_|refine zAj ?_); simp only [thenQ,zAi,if_true,if_false,Nat.reduceEqDiff,reduceCtorEq])|(refine zAe (by rfl) (fun hb=>?_) (fun hb=>?_)<;>(try simp only [bqa,bqb,bqc,bqd,reduceCtorEq,bqe,bqf] at hb)<;>(try omega))|refine andS ?_|fail)
 ·have hk':k<p.length:=by omega
  have h1:=zGd [] (fun r=>decide (50<r.length)) hk'
  have h2:(p.any fun r=>decide (50<r.length))=true:=by
   rw [←List.take_append_drop (k+1) p,List.any_append,h1,hj,decide_eq_true (by omega)]
   simp
  exact (decide_eq_true (by simp [wideV,h2])).symm
 ·have hk':k<p.length:=by omega
  refine hL _ (k+1) ⟨by omega,?_⟩ (by omega) ?_
  ·rw [zGd [] _ hk',hj,decide_eq_false (by omega)]
   rfl
  refine zAg ?_ ?_ ?_<;>simp only [push_cast,seval,reduceCtorEq,Int.cast_ofNat_Int]
 ·rw [List.take_of_length_le (by omega)] at hj
  simp only [wideV,hj,Bool.false_or,decide_eq_true_eq,decide_eq_decide]
  omega
end Go.Proofs.YtlgkplnifaoeeaaGreatDoor
namespace Go.Proofs.YtlgkplnifaoeeaaGreatDoor
open Go.RowKit Go.VS
@[push_cast] def zGi:Con:=⟨[.dat (.sl .int)],fun (x:List Int×Unit)=>x.1.length≤1000,fun (x:List Int×Unit)=>{res:=[.own (.flat 3 .int x.1)]}⟩
theorem zUX {α:Type} (A B:α) (n k:Nat) (hk:k<n):(List.replicate k A++List.replicate (n - k) B).set k A=List.replicate (k+1) A++List.replicate (n - (k+1)) B:=by
 have e:n - k=(n - (k+1))+1:=by omega
 rw [e,List.replicate_succ,List.set_append_right _ _ (by simp),List.length_replicate,Nat.sub_self,List.set_cons_zero,List.replicate_succ']
 simp
theorem zJt:FnSpec Tryz.prog 119 zGi:=by
 refine FnSpec.of_tri' (E:=know [] [] [] [5]) (zAl all_nil all_nil all_nil) Tryz.func119 rfl rfl (by kernel_rfl) ?_
 intro C x hE hnl hfit hpre
 simp only [Tryz.ntmps119,Tryz.results119,maxLen,seval,push_cast] at hnl hfit hpre ⊢
 obtain ⟨(l:List Int),_⟩:=x
 dsimp only at hfit hpre ⊢
 cases l with
 | nil =>
  exact auA
  skip
 | cons y l =>
  simp only [List.length_cons] at hpre
  exact auA
end Go.Proofs.YtlgkplnifaoeeaaGreatDoor
namespace Go.Proofs.YtlgkplnifaoeeaaGreatDoor
open Go.RowKit Go.VS Go.OT
@[push_cast] def zOJ:Con:=⟨[.dat (.sl .int),.dat (.sl .int)],fun (x:List Int×List Int×Unit)=>x.1.length≤6∧x.2.1.length≤6,fun (x:List Int×List Int×Unit)=>{res:=[.own (.deep 25 3 .int (List.replicate x.1.length (List.replicate x.2.1.length 0)))]}⟩
theorem zJx:FnSpec Tryz.prog 188 zOJ:=by
 refine FnSpec.of_tri' (E:=know [] [] [] []) (zAl all_nil all_nil all_nil) Tryz.func188 rfl rfl (by kernel_rfl) ?_
 intro C x hE hnl hfit hpre
 simp only [Tryz.ntmps188,Tryz.results188,maxLen,seval,push_cast] at hnl hfit hpre ⊢
 obtain ⟨(a:List Int),(b:List Int),_⟩:=x
 dsimp only at hfit hpre ⊢
 repeat' (first|(refine goK (by assumption) ?_; iterate 4 (try clear hK K))|(refine zAc fun K hK=>?_)|(refine zAa hE rfl ?_; simp +contextual only [hnl,↓kN,↓kP,↓kG,↓qN,↓qP,↓qG,push_cast,seval,reduceCtorEq,Int.cast_ofNat_Int])|refine zAd ?_|refine andS ?_|fail)
 refine zAk (fun k:Nat=>AS.of [(1,.one (.val (.sl .int) b)),(5,.one (.ref 9)),(11,.I a.length),(12,.I k)] [(9,.deep 25 3 .int (List.replicate k (List.replicate b.length 0)++List.replicate (a.length - k) []))] []) (fun k=>k≤a.length) (fun k=>a.length - k) 0 (Nat.zero_le _) ?_ ?_
 ·refine zAg ?_ ?_ ?_<;>simp only [push_cast,seval,reduceCtorEq,Int.cast_ofNat_Int]
  all_goals first|(left; simp; done)|simp
 intro k hk K' hL
 have hlen:(List.replicate k (List.replicate b.length (0:Int))++List.replicate (a.length - k) []).length=a.length:=by simp; omega
 repeat' (first|(refine goK (by assumption) ?_; iterate 4 (try clear hK K))|(refine zAc fun K hK=>?_)|((first|refine zAa hE rfl ?_|refine zAh ?_); simp +contextual only [hnl,↓kN,↓kP,↓kG,↓qN,↓qP,↓qG,push_cast,seval,reduceCtorEq,Int.cast_ofNat_Int])|refine zAd ?_|((first|refine zAf ?_|refine zAj ?_); simp only [thenQ,zAi,if_true,if_false,Nat.reduceEqDiff,reduceCtorEq])|(refine zAe (by rfl) (fun hb=>?_) (fun hb=>?_)<;>(try simp only [bqa,bqb,bqc,bqd,reduceCtorEq,bqe,bqf] at hb)<;>(try omega))|refine andS ?_|fail)
 ·refine hL _ (k+1) (by omega) (by omega) ?_
  refine zAg ?_ ?_ ?_<;>simp only [push_cast,seval,reduceCtorEq,Int.cast_ofNat_Int]
  left
  rw [zUX _ _ _ _ (by omega)]
 ·obtain rfl:k=a.length:=by omega
  simp
@[push_cast] def zWo:Con:=⟨[.dat (.sl .int),.dat (.sl .int),.dat (.sl (.sl .int))],fun (x:List Int×List Int×List (List Int)×Unit)=>Shp x.1 x.2.1 x.2.2.1,
 fun (x:List Int×List Int×List (List Int)×Unit)=>{res:=[.own (.flat 3 .int (leftV x.1 x.2.1 x.2.2.1).1),.own (.flat 3 .int (leftV x.1 x.2.1 x.2.2.1).2)]}⟩
theorem zSb:FnSpec Tryz.prog 218 zWo:=by
 refine FnSpec.of_tri' (E:=know [] [] [] []) (zAl all_nil all_nil all_nil) Tryz.func218 rfl rfl (by kernel_rfl) ?_
 intro C x hE hnl hfit hpre
 simp only [Tryz.ntmps218,Tryz.results218,maxLen,seval,push_cast] at hnl hfit hpre ⊢
 obtain ⟨(a:List Int),(b:List Int),(p:List (List Int)),_⟩:=x
 dsimp only at hfit hpre ⊢
 have ha5:=hpre.a5
 have hb5:=hpre.b5
 have hrw:=hpre.rows
 repeat' (first|(refine goK (by assumption) ?_; iterate 4 (try clear hK K))|(refine zAc fun K hK=>?_)|(refine zAa hE rfl ?_; simp +contextual only [hnl,↓kN,↓kP,↓kG,↓qN,↓qP,↓qG,push_cast,seval,reduceCtorEq,Int.cast_ofNat_Int])|refine zAd ?_|refine andS ?_|fail)
 refine zAk (fun k:Nat=>AS.of [(6,.one (.ref 14)),(7,.one (.ref 17)),(18,.one (.val (.sl (.sl .int)) p)),(19,.I p.length),(20,.I k)] [(14,.flat 3 .int (upto (zB4 p) k (a,b)).1),(17,.flat 3 .int (upto (zB4 p) k (a,b)).2)] []) (fun k=>k≤p.length) (fun k=>p.length - k) 0 (Nat.zero_le _) ?_ ?_
 ·refine zAg ?_ ?_ ?_<;>simp only [push_cast,seval,reduceCtorEq,Int.cast_ofNat_Int]
  exact ⟨.inl rfl,.inl rfl⟩
 intro k hk K' hL
 repeat' (first|(refine goK (by assumption) ?_; iterate 4 (try clear hK K))|(refine zAc fun K hK=>?_)|((first|refine zAa hE rfl ?_|refine zAh ?_); simp +contextual only [hnl,↓kN,↓kP,↓kG,↓qN,↓qP,↓qG,push_cast,seval,reduceCtorEq,Int.cast_ofNat_Int])|refine zAd ?_|((first|refine zAf ?_|refine zAj ?_); simp only [thenQ,zAi,if_true,if_false,Nat.reduceEqDiff,reduceCtorEq])|(refine zAe (by rfl) (fun hb=>?_) (fun hb=>?_)<;>(try simp only [bqa,bqb,bqc,bqd,reduceCtorEq,bqe,bqf] at hb)<;>(try omega))|refine andS ?_|fail)
 ·have hk':k<p.length:=by omega
  have hcl:=hpre.cols k hk'
  refine zAk (fun j:Nat=>AS.of [(6,.one (.ref 14)),(7,.one (.ref 17)),(8,.I k),(18,.one (.val (.sl (.sl .int)) p)),(19,.I p.length),(20,.I k),(25,.one (.val (.sl .int) (p.getD k []))),(26,.I (p.getD k []).length),(27,.I j)] [(14,.flat 3 .int (upto (zA9 p k) j (upto (zB4 p) k (a,b))).1),(17,.flat 3 .int (upto (zA9 p k) j (upto (zB4 p) k (a,b))).2)] []) (fun j=>j≤(p.getD k []).length) (fun j=>(p.getD k []).length - j) 0 (Nat.zero_le _) ?_ ?_
  ·refine zAg ?_ ?_ ?_<;>simp only [push_cast,seval,reduceCtorEq,Int.cast_ofNat_Int]
   exact ⟨.inl rfl,.inl rfl⟩
  intro j hj K2 hL2
  have hs:=LSt.row hpre (LSt.all hpre k (by omega)) hk' j (by omega)
  have hs1:=hs.l1
  have hs2:=hs.l2
  have hn:j<b.length→_:=fun h=>(hpre.mem k hk').at (i:=j) (by omega)
  have hx1:=hs.b1.at (i:=k) (by omega)
  have hx2:j<b.length→_:=fun h=>hs.b2.at (i:=j) (by omega)
  have hup:upto (zA9 p k) (j+1) (upto (zB4 p) k (a,b))=zA9 p k j (upto (zA9 p k) j (upto (zB4 p) k (a,b))):=rfl
  generalize hse:upto (zA9 p k) j (upto (zB4 p) k (a,b))=s at hs1 hs2 hx1 hx2 hup ⊢
  repeat' (first|(refine goK (by assumption) ?_; iterate 4 (try clear hK K))|(refine zAc fun K hK=>?_)|(refine zAa hE rfl ?_; simp +contextual only [hnl,↓kN,↓kP,↓kG,↓qN,↓qP,↓qG,push_cast,seval,reduceCtorEq,Int.cast_ofNat_Int])|refine zAd ?_|((first|refine zAf ?_|refine zAj ?_); simp only [thenQ,zAi,if_true,if_false,Nat.reduceEqDiff,reduceCtorEq])|(refine zAe (by rfl) (fun hb=>?_) (fun hb=>?_)<;>(try simp only [bqa,bqb,bqc,bqd,reduceCtorEq,bqe,bqf] at hb)<;>(try omega))|refine andS ?_|fail)
  ·refine hL2 _ (j+1) (by omega) (by omega) ?_
   refine zAg ?_ ?_ ?_<;>simp only [push_cast,seval,reduceCtorEq,Int.cast_ofNat_Int]
   rw [hup]
   exact ⟨.inl rfl,.inl rfl⟩
  ·obtain rfl:j=(p.getD k []).length:=by omega
   have hnx:upto (zB4 p) (k+1) (a,b)=s:=hse
   refine hL _ (k+1) (by omega) (by omega) ?_
   refine zAg ?_ ?_ ?_<;>simp only [push_cast,seval,reduceCtorEq,Int.cast_ofNat_Int]
   rw [hnx]
   exact ⟨.inl rfl,.inl rfl⟩
 ·obtain rfl:k=p.length:=by omega
  exact ⟨rfl,rfl⟩
end Go.Proofs.YtlgkplnifaoeeaaGreatDoor
namespace Go.Proofs.YtlgkplnifaoeeaaGreatDoor
open Go.RowKit Go.VS Go.OT
def deepI:RC→List (List Int)
 | .deep _ _ s xss=>(zAT (.sl (.sl s)) (.sl (.sl .int)) xss).getD []
 | _=>[]
@[push_cast] theorem zDw (e e2:TypeId) (p:List (List Int)):deepI (.deep e e2 .int p)=p:=by
 simp only [deepI,zD3,Option.getD_some]
abbrev zOm:=List Int×List Int×List (List Int)×RC×Unit
structure NextPre (a b:List Int) (c:List (List Int)) (rc:RC):Prop where
 hrc:rc=.deep 25 3 .int (deepI rc)
 shp:Shp a b (deepI rc)
 hc:Tb a.length b.length 0 99 c
 ends:(nextP a b c (deepI rc)).isSome=true
@[push_cast] def zSv:Con:=⟨[.dat (.sl .int),.dat (.sl .int),.dat (.sl (.sl .int)),.lend],fun (x:zOm)=>NextPre x.1 x.2.1 x.2.2.1 x.2.2.2.1,
 fun (x:zOm)=>Out.mk [.val .int (nextN x.1 x.2.1 x.2.2.1 (deepI x.2.2.2.1)),.val .bool (decide (0≤bestV x.1 x.2.1 x.2.2.1 (deepI x.2.2.2.1)))]
  [(0,.deep 25 3 .int ((nextP x.1 x.2.1 x.2.2.1 (deepI x.2.2.2.1)).getD []))] []⟩
section
variable {c p:List (List Int)} {i j:Nat} {s:Dst}
theorem zUS (h1:s.ra.getD i 0<far) (h2:s.ra.getD i 0+(c.getD i []).getD j 0<s.ca.getD j 0) (hj:j<s.ca.length) :
 relax c p i j s=⟨s.ra,s.rf,s.ca.set j (s.ra.getD i 0+(c.getD i []).getD j 0),s.cf.set j (i:Int)⟩:=by
 unfold relax relaxC
 rw [if_pos ⟨h1,h2⟩]
 unfold relaxR
 dsimp only
 rw [zBu hj,if_pos rfl,if_neg (by omega)]
theorem zUR (h1:¬(s.ra.getD i 0<far∧s.ra.getD i 0+(c.getD i []).getD j 0<s.ca.getD j 0)) (h2:0<(p.getD i []).getD j 0) (h3:s.ca.getD j 0<far) (h4:s.ca.getD j 0 - (c.getD i []).getD j 0<s.ra.getD i 0) :
 relax c p i j s=⟨s.ra.set i (s.ca.getD j 0 - (c.getD i []).getD j 0),s.rf.set i (j:Int),s.ca,s.cf⟩:=by
 unfold relax relaxC
 rw [if_neg h1]
 unfold relaxR
 rw [if_pos ⟨h2,h3,h4⟩]
theorem zUQ (h1:¬(s.ra.getD i 0<far∧s.ra.getD i 0+(c.getD i []).getD j 0<s.ca.getD j 0)) (h2:¬(0<(p.getD i []).getD j 0∧s.ca.getD j 0<far∧s.ca.getD j 0 - (c.getD i []).getD j 0<s.ra.getD i 0)) :
 relax c p i j s=s:=by
 unfold relax relaxC
 rw [if_neg h1]
 unfold relaxR
 rw [if_neg h2]
end
structure ChI (x:Dst) (R C:Nat) (p':List (List Int)) (y:Nat×Int×List (List Int)):Prop where
 n12:y.1≤12
 tab:Tb R C (-(12 - (y.1:Int))) (200+(12 - (y.1:Int))) y.2.2
 lo : -1≤y.2.1
 hi:y.2.1<C
 fol:Go.OT.follow x.rf x.cf y.1 y.2.1 y.2.2=some p'
theorem Tb.addAt {R C:Nat} {lo hi d:Int} {q:List (List Int)} (h:Tb R C lo hi q) {i j:Nat} (hi':i<R) (hj:j<C) (hd : -1≤d∧d≤1):Tb R C (lo - 1) (hi+1) (Go.OT.addAt q i j d):=by
 have h1:=h.sz.add (j:=j) (d:=d) hi'
 refine ⟨h1.rows,h1.cols,fun i' j' h2 h3=>?_⟩
 have h4:=congrFun (congrFun (zDm (d:=d) h.sz hi' hj) i') j'
 unfold gt bump at h4
 dsimp only at h4
 rw [h4]
 have:=h.at' i' j' h2 h3
 split<;>omega
theorem Tb.mono {R C:Nat} {lo hi lo' hi':Int} {q:List (List Int)} (h:Tb R C lo hi q) (h1:lo'≤lo) (h2:hi≤hi'):Tb R C lo' hi' q:=⟨h.rows,h.cols,fun i j a b=>by have:=h.at' i j a b; omega⟩
theorem Tb.addAt2 {R C:Nat} {lo hi d e:Int} {q:List (List Int)} (h:Tb R C lo hi q) {i j j':Nat} (hi':i<R) (hj:j<C) (hj':j'<C):Tb R C (lo - 1) (hi+1) (Go.OT.addAt (Go.OT.addAt q i j 1) i j' (-1)):=by
 have h1:=(h.sz.add (j:=j) (d:=1) hi').add (j:=j') (d := -1) hi'
 refine ⟨h1.rows,h1.cols,fun i' j2 h2 h3=>?_⟩
 have h4:=congrFun (congrFun (zDm (d := -1) (h.sz.add (j:=j) (d:=1) hi') hi' hj') i') j2
 rw [zDm h.sz hi' hj] at h4
 unfold gt bump at h4
 dsimp only at h4
 rw [h4]
 have:=h.at' i' j2 h2 h3
 split<;>split<;>omega
theorem zPV {rf cf:List Int} {n:Nat} {j:Int} {q p':List (List Int)} (hj:0≤j) (h:Go.OT.follow rf cf n j q=some p'):∃ m,n=m+1∧Go.OT.follow rf cf m (zDC rf cf j) (zBT rf cf j q)=some p':=by
 cases n with
 | zero =>
  have e:Go.OT.follow rf cf 0 j q=if j<0 then some q else none:=rfl
  rw [e,if_neg (by omega)] at h
  exact absurd h (by simp)
 | succ n =>
  have e:Go.OT.follow rf cf (n+1) j q=if j<0 then some q else Go.OT.follow rf cf n (zDC rf cf j) (zBT rf cf j q):=rfl
  rw [e,if_neg (by omega)] at h
  exact ⟨n,rfl,h⟩
set_option maxHeartbeats 4000000 in
theorem zL6:FnSpec Tryz.prog 189 zSv:=by
 refine FnSpec.of_tri' (E:=know _ [] [] [37,40,43,46]) (zAl (kc zSb all_nil) all_nil all_nil) Tryz.func189 rfl rfl (by kernel_rfl) ?_
 intro C x hE hnl hfit hpre
 simp only [Tryz.ntmps189,Tryz.results189,maxLen,seval,push_cast] at hnl hfit hpre ⊢
 obtain ⟨(a:List Int),(b:List Int),(c:List (List Int)),(rc:RC),_⟩:=x
 dsimp only at hfit hpre ⊢
 obtain ⟨h1,h2,h3,h6⟩:=hpre
 generalize deepI rc=p at *
 subst h1
 have ha5:=h2.a5
 have hb5:=h2.b5
 have hrw:=h2.rows
 have hcr:=h3.rows
 have hls:=LSt.all h2 p.length (Nat.le_refl _)
 have hl1:(leftV a b p).1.length=a.length:=hls.l1
 have hl2:(leftV a b p).2.length=b.length:=hls.l2
 repeat' (first|(refine goK (by assumption) ?_; iterate 4 (try clear hK K))|(refine zAc fun K hK=>?_)|((first|refine zAa hE rfl ?_|((first|refine zAb hE 1 rfl rfl (by kernel_rfl) ?_|refine zAb hE 2 rfl rfl (by kernel_rfl) ?_|refine zAb hE 3 rfl rfl (by kernel_rfl) ?_|refine zAb hE 4 rfl rfl (by kernel_rfl) ?_); simp only [List.length_cons,List.length_nil,Nat.reduceAdd,Nat.reduceSub,List.take_succ_cons,List.take_zero,List.drop_succ_cons,List.drop_zero])); simp +contextual only [hnl,↓kN,↓kP,↓kG,↓qN,↓qP,↓qG,push_cast,seval,reduceCtorEq,Int.cast_ofNat_Int])|refine zAd ?_|refine andS ?_|fail)
 refine zC8 12 37 37 (by simp only [push_cast,seval,reduceCtorEq,Int.cast_ofNat_Int]; rfl) (by omega) ?_
 refine zC8 13 40 40 (by simp only [push_cast,seval,reduceCtorEq,Int.cast_ofNat_Int]; rfl) (by omega) ?_
 refine zC8 14 43 43 (by simp only [push_cast,seval,reduceCtorEq,Int.cast_ofNat_Int]; rfl) (by omega) ?_
 refine zC8 15 46 46 (by simp only [push_cast,seval,reduceCtorEq,Int.cast_ofNat_Int]; rfl) (by omega) ?_
 refine zAk (fun k:Nat=>AS.of [(0,.one (.val (.sl .int) a)),(1,.one (.val (.sl .int) b)),(2,.one (.val (.sl (.sl .int)) c)),(3,.one (.ref 0)),(11,.one (.ref 1032)),(10,.one (.ref 32)),(12,.one (.ref 37)),(13,.one (.ref 40)),(14,.one (.ref 43)),(15,.one (.ref 46)),(47,.one (.ref 32)),(48,.I (leftV a b p).1.length),(49,.I k)]
  [(0,.deep 25 3 .int p),(1032,.flat 3 .int (leftV a b p).2),(32,.flat 3 .int (leftV a b p).1),(37,.flat 3 .int (zCj (leftV a b p).1 a.length k).1),(40,.flat 3 .int (zCj (leftV a b p).1 a.length k).2),(43,.flat 3 .int (List.replicate b.length 0)),(46,.flat 3 .int (List.replicate b.length 0))] [])
  (fun k=>k≤a.length) (fun k=>a.length - k) 0 (Nat.zero_le _) ?_ ?_
 ·refine zAg ?_ ?_ ?_<;>simp only [push_cast,seval,reduceCtorEq,Int.cast_ofNat_Int]
  exact ⟨.inl rfl,.inl rfl⟩
 intro k hk K' hL
 have hsr:=zEq (leftV a b p).1 a.length k
 have hst:zCj (leftV a b p).1 a.length (k+1)=zCI (leftV a b p).1 k (zCj (leftV a b p).1 a.length k):=rfl
 repeat' (first|(refine goK (by assumption) ?_; iterate 4 (try clear hK K))|(refine zAc fun K hK=>?_)|(refine zAa hE rfl ?_; simp +contextual only [hnl,↓kN,↓kP,↓kG,↓qN,↓qP,↓qG,push_cast,seval,reduceCtorEq,Int.cast_ofNat_Int])|refine zAd ?_|((first|refine zAf ?_|refine zAj ?_); simp only [thenQ,zAi,if_true,if_false,Nat.reduceEqDiff,reduceCtorEq])|(refine zAe (by rfl) (fun hb=>?_) (fun hb=>?_)<;>(try simp only [bqa,bqb,bqc,bqd,reduceCtorEq,bqe,bqf] at hb)<;>(try omega))|refine andS ?_|fail)
 ·refine hL _ (k+1) (by omega) (by omega) ?_
  refine zAg ?_ ?_ ?_<;>simp only [push_cast,seval,reduceCtorEq,Int.cast_ofNat_Int]
  rw [hst,zCI,if_pos hb]
  exact ⟨.inl rfl,.inl rfl⟩
 ·refine hL _ (k+1) (by omega) (by omega) ?_
  refine zAg ?_ ?_ ?_<;>simp only [push_cast,seval,reduceCtorEq,Int.cast_ofNat_Int]
  rw [hst,zCI,if_neg hb]
  exact ⟨.inl rfl,.inl rfl⟩
 obtain rfl:k=a.length:=by omega
 clear hb hL hst
 refine zAk (fun k:Nat=>AS.of [(0,.one (.val (.sl .int) a)),(1,.one (.val (.sl .int) b)),(2,.one (.val (.sl (.sl .int)) c)),(3,.one (.ref 0)),(11,.one (.ref 1032)),(12,.one (.ref 37)),(13,.one (.ref 40)),(14,.one (.ref 43)),(15,.one (.ref 46)),(64,.I (leftV a b p).2.length),(65,.I k)]
  [(0,.deep 25 3 .int p),(1032,.flat 3 .int (leftV a b p).2),(37,.flat 3 .int (zCj (leftV a b p).1 a.length a.length).1),(40,.flat 3 .int (zCj (leftV a b p).1 a.length a.length).2),(43,.flat 3 .int (zFS b.length k)),(46,.flat 3 .int (List.replicate b.length 0))] [])
  (fun k=>k≤b.length) (fun k=>b.length - k) 0 (Nat.zero_le _) ?_ ?_
 ·refine zAg ?_ ?_ ?_<;>simp only [push_cast,seval,reduceCtorEq,Int.cast_ofNat_Int]
  exact .inl rfl
 intro k hk K2 hL
 have hsc:=zFM b.length k
 have hst:zFS b.length (k+1)=(zFS b.length k).set k far:=rfl
 repeat' (first|(refine goK (by assumption) ?_; iterate 4 (try clear hK K))|(refine zAc fun K hK=>?_)|(refine zAa hE rfl ?_; simp +contextual only [hnl,↓kN,↓kP,↓kG,↓qN,↓qP,↓qG,push_cast,seval,reduceCtorEq,Int.cast_ofNat_Int])|refine zAd ?_|((first|refine zAf ?_|refine zAj ?_); simp only [thenQ,zAi,if_true,if_false,Nat.reduceEqDiff,reduceCtorEq])|(refine zAe (by rfl) (fun hb=>?_) (fun hb=>?_)<;>(try simp only [bqa,bqb,bqc,bqd,reduceCtorEq,bqe,bqf] at hb)<;>(try omega))|refine andS ?_|fail)
 ·refine hL _ (k+1) (by omega) (by omega) ?_
  refine zAg ?_ ?_ ?_<;>simp only [push_cast,seval,reduceCtorEq,Int.cast_ofNat_Int]
  rw [hst]
  exact .inl rfl
 obtain rfl:k=b.length:=by omega
 clear hb hL hst
 refine zAk (fun k:Nat=>AS.of [(0,.one (.val (.sl .int) a)),(1,.one (.val (.sl .int) b)),(2,.one (.val (.sl (.sl .int)) c)),(3,.one (.ref 0)),(11,.one (.ref 1032)),(12,.one (.ref 37)),(13,.one (.ref 40)),(14,.one (.ref 43)),(15,.one (.ref 46)),(76,.I (a.length+b.length:Nat)),(77,.I k)]
  [(0,.deep 25 3 .int p),(1032,.flat 3 .int (leftV a b p).2),(37,.flat 3 .int (distK a b c p k).ra),(40,.flat 3 .int (distK a b c p k).rf),(43,.flat 3 .int (distK a b c p k).ca),(46,.flat 3 .int (distK a b c p k).cf)] [])
  (fun k=>k≤a.length+b.length) (fun k=>a.length+b.length - k) 0 (Nat.zero_le _) ?_ ?_
 ·refine zAg ?_ ?_ ?_<;>simp only [push_cast,seval,reduceCtorEq,Int.cast_ofNat_Int]
  exact ⟨.inl rfl,.inl rfl,.inl rfl,.inl rfl⟩
 intro k hk K3 hL
 have hD:=zHU h3 h2 k
 repeat' (first|(refine goK (by assumption) ?_; iterate 4 (try clear hK K))|(refine zAc fun K hK=>?_)|(refine zAa hE rfl ?_; simp +contextual only [hnl,↓kN,↓kP,↓kG,↓qN,↓qP,↓qG,push_cast,seval,reduceCtorEq,Int.cast_ofNat_Int])|refine zAd ?_|((first|refine zAf ?_|refine zAj ?_); simp only [thenQ,zAi,if_true,if_false,Nat.reduceEqDiff,reduceCtorEq])|(refine zAe (by rfl) (fun hb=>?_) (fun hb=>?_)<;>(try simp only [bqa,bqb,bqc,bqd,reduceCtorEq,bqe,bqf] at hb)<;>(try omega))|fail)
 ·have hDn:distK a b c p (k+1)=upto (zBy c p) c.length (distK a b c p k):=rfl
  generalize distK a b c p k=s0 at hD hDn ⊢
  refine zAk (fun i:Nat=>AS.of [(0,.one (.val (.sl .int) a)),(1,.one (.val (.sl .int) b)),(2,.one (.val (.sl (.sl .int)) c)),(3,.one (.ref 0)),(11,.one (.ref 1032)),(12,.one (.ref 37)),(13,.one (.ref 40)),(14,.one (.ref 43)),(15,.one (.ref 46)),(76,.I (a.length+b.length:Nat)),(77,.I k),(79,.one (.val (.sl (.sl .int)) c)),(80,.I c.length),(81,.I i)]
   [(0,.deep 25 3 .int p),(1032,.flat 3 .int (leftV a b p).2),(37,.flat 3 .int (upto (zBy c p) i s0).ra),(40,.flat 3 .int (upto (zBy c p) i s0).rf),(43,.flat 3 .int (upto (zBy c p) i s0).ca),(46,.flat 3 .int (upto (zBy c p) i s0).cf)] [])
   (fun i=>i≤c.length) (fun i=>c.length - i) 0 (Nat.zero_le _) ?_ ?_
  ·refine zAg ?_ ?_ ?_<;>simp only [push_cast,seval,reduceCtorEq,Int.cast_ofNat_Int]
   exact ⟨.inl rfl,.inl rfl,.inl rfl,.inl rfl⟩
  intro i hi K4 hL4
  repeat' (first|(refine goK (by assumption) ?_; iterate 4 (try clear hK K))|(refine zAc fun K hK=>?_)|(refine zAa hE rfl ?_; simp +contextual only [hnl,↓kN,↓kP,↓kG,↓qN,↓qP,↓qG,push_cast,seval,reduceCtorEq,Int.cast_ofNat_Int])|refine zAd ?_|((first|refine zAf ?_|refine zAj ?_); simp only [thenQ,zAi,if_true,if_false,Nat.reduceEqDiff,reduceCtorEq])|(refine zAe (by rfl) (fun hb=>?_) (fun hb=>?_)<;>(try simp only [bqa,bqb,bqc,bqd,reduceCtorEq,bqe,bqf] at hb)<;>(try omega))|refine andS ?_|fail)
  ·have hi':i<a.length:=by omega
   have hci:=h3.cols i hi'
   have hpi:=h2.tab.cols i hi'
   have hQ:=DSt.tab p h3 hb5.2 hD i (by omega)
   have hQn:upto (zBy c p) (i+1) s0=upto (relax c p i) (c.getD i []).length (upto (zBy c p) i s0):=rfl
   generalize upto (zBy c p) i s0=s1 at hQ hQn ⊢
   refine zAk (fun j:Nat=>AS.of [(0,.one (.val (.sl .int) a)),(1,.one (.val (.sl .int) b)),(2,.one (.val (.sl (.sl .int)) c)),(3,.one (.ref 0)),(11,.one (.ref 1032)),(12,.one (.ref 37)),(13,.one (.ref 40)),(14,.one (.ref 43)),(15,.one (.ref 46)),(19,.I i),(76,.I (a.length+b.length:Nat)),(77,.I k),(79,.one (.val (.sl (.sl .int)) c)),(80,.I c.length),(81,.I i),(86,.one (.val (.sl .int) (c.getD i []))),(87,.I (c.getD i []).length),(88,.I j)]
    [(0,.deep 25 3 .int p),(1032,.flat 3 .int (leftV a b p).2),(37,.flat 3 .int (upto (relax c p i) j s1).ra),(40,.flat 3 .int (upto (relax c p i) j s1).rf),(43,.flat 3 .int (upto (relax c p i) j s1).ca),(46,.flat 3 .int (upto (relax c p i) j s1).cf)] [])
    (fun j=>j≤(c.getD i []).length) (fun j=>(c.getD i []).length - j) 0 (Nat.zero_le _) ?_ ?_
   ·refine zAg ?_ ?_ ?_<;>simp only [push_cast,seval,reduceCtorEq,Int.cast_ofNat_Int]
    exact ⟨.inl rfl,.inl rfl,.inl rfl,.inl rfl⟩
   intro j hj K5 hL5
   have hF:=DSt.row p h3 hQ hi' j (by omega)
   have hFn:upto (relax c p i) (j+1) s1=relax c p i j (upto (relax c p i) j s1):=rfl
   generalize hs2:upto (relax c p i) j s1=s2 at hF hFn ⊢
   have g1:=hF.l1
   have g2:=hF.l2
   have g3:=hF.l3
   have g4:=hF.l4
   have g5:=hF.b1.at (i:=i) (by omega)
   have hfar:far=1099511627776:=rfl
   rcases Nat.lt_or_ge j b.length with hjb|hjb
   ·have g6:=hF.b3.at (i:=j) (by omega)
    have g7:=h3.at' i j hi' hjb
    have g8:∀ x:Int,(s2.ca.set j x).getD j 0=x:=fun x=>by rw [zBu (by omega),if_pos rfl]
    have g9:∀ x:Int,(s2.ca.set j x).length=s2.ca.length:=fun x=>List.length_set
    replace hnl:=And.intro hnl (And.intro g8 g9)
    repeat' (first|(refine goK (by assumption) ?_; iterate 4 (try clear hK K))|(refine zAc fun K hK=>?_)|((first|refine zAa hE rfl ?_|((first|refine zAb hE 1 rfl rfl (by kernel_rfl) ?_|refine zAb hE 2 rfl rfl (by kernel_rfl) ?_|refine zAb hE 3 rfl rfl (by kernel_rfl) ?_|refine zAb hE 4 rfl rfl (by kernel_rfl) ?_); simp only [List.length_cons,List.length_nil,Nat.reduceAdd,Nat.reduceSub,List.take_succ_cons,List.take_zero,List.drop_succ_cons,List.drop_zero])); simp +contextual only [hnl,↓kN,↓kP,↓kG,↓qN,↓qP,↓qG,push_cast,seval,reduceCtorEq,Int.cast_ofNat_Int])|refine zAd ?_|(refine zAf ?_; simp only [thenQ,zAi,if_true,if_false,Nat.reduceEqDiff,reduceCtorEq])|(refine zAe (by rfl) (fun hb=>?_) (fun hb=>?_)<;>(try simp only [bqa,bqb,bqc,bqd,reduceCtorEq,bqe,bqf] at hb)<;>(try omega))|refine andS ?_|(refine ⟨fun hc=>?_,fun hc=>?_⟩)|fail)
    all_goals refine hL5 _ (j+1) (by omega) (by omega) ?_
    all_goals refine zAg ?_ ?_ ?_<;>simp only [push_cast,seval,reduceCtorEq,Int.cast_ofNat_Int]
    all_goals rw [hFn]
    all_goals first|rw [zUS (by omega) (by omega) (by omega)]|rw [zUR (by omega) (by omega) (by omega) (by omega)]|rw [zUQ (by omega) (by omega)]
    all_goals exact ⟨.inl rfl,.inl rfl,.inl rfl,.inl rfl⟩
   ·repeat' (first|(refine goK (by assumption) ?_; iterate 4 (try clear hK K))|(refine zAc fun K hK=>?_)|(refine zAa hE rfl ?_; simp +contextual only [hnl,↓kN,↓kP,↓kG,↓qN,↓qP,↓qG,push_cast,seval,reduceCtorEq,Int.cast_ofNat_Int])|(refine zAj ?_; simp only [thenQ,zAi,if_true,if_false,Nat.reduceEqDiff,reduceCtorEq])|(refine zAe (by rfl) (fun hb=>?_) (fun hb=>?_)<;>(try simp only [bqa,bqb,bqc,bqd,reduceCtorEq,bqe,bqf] at hb)<;>(try omega))|refine andS ?_|fail)
    obtain rfl:j=(c.getD i []).length:=by omega
    rw [hs2] at hQn
    refine hL4 _ (i+1) (by omega) (by omega) ?_
    refine zAg ?_ ?_ ?_<;>simp only [push_cast,seval,reduceCtorEq,Int.cast_ofNat_Int]
    rw [hQn]
    exact ⟨.inl rfl,.inl rfl,.inl rfl,.inl rfl⟩
  ·obtain rfl:i=c.length:=by omega
   refine hL _ (k+1) (by omega) (by omega) ?_
   refine zAg ?_ ?_ ?_<;>simp only [push_cast,seval,reduceCtorEq,Int.cast_ofNat_Int]
   rw [hDn]
   exact ⟨.inl rfl,.inl rfl,.inl rfl,.inl rfl⟩
 obtain rfl:k=a.length+b.length:=by omega
 clear hb hL
 have hE0:distK a b c p (a.length+b.length)=dist a b c p:=rfl
 rw [hE0] at hD ⊢
 have hV0:bestV a b c p=zBW (leftV a b p).2 (dist a b c p).ca b.length:=rfl
 have hN0:nextN a b c p=if bestV a b c p<0 then 0 else (dist a b c p).ca.getD (bestV a b c p).toNat 0:=rfl
 have hP0:nextP a b c p=if bestV a b c p<0 then some p else Go.OT.follow (dist a b c p).rf (dist a b c p).cf (a.length+b.length) (bestV a b c p) p:=rfl
 generalize dist a b c p=x at hD hV0 hN0 hP0 ⊢
 have hfar:far=1099511627776:=rfl
 have hx1:=hD.l1
 have hx2:=hD.l2
 have hx3:=hD.l3
 have hx4:=hD.l4
 refine zAk (fun j:Nat=>AS.of [(0,.one (.val (.sl .int) a)),(1,.one (.val (.sl .int) b)),(2,.one (.val (.sl (.sl .int)) c)),(3,.one (.ref 0)),(11,.one (.ref 1032)),(12,.one (.ref 37)),(13,.one (.ref 40)),(14,.one (.ref 43)),(15,.one (.ref 46)),(23,.I (zBW (leftV a b p).2 x.ca j)),(168,.one (.ref 1032)),(169,.I (leftV a b p).2.length),(170,.I j)]
  [(0,.deep 25 3 .int p),(1032,.flat 3 .int (leftV a b p).2),(37,.flat 3 .int x.ra),(40,.flat 3 .int x.rf),(43,.flat 3 .int x.ca),(46,.flat 3 .int x.cf)] [])
  (fun j=>j≤b.length) (fun j=>b.length - j) 0 (Nat.zero_le _) ?_ ?_
 ·refine zAg ?_ ?_ ?_<;>simp only [push_cast,seval,reduceCtorEq,Int.cast_ofNat_Int]
  rfl
 intro j hj K6 hL6
 have hbs:=zDT (leftV a b p).2 x.ca j
 have hbn:zBW (leftV a b p).2 x.ca (j+1)=if 0<(leftV a b p).2.getD j 0∧x.ca.getD j 0<far∧(zBW (leftV a b p).2 x.ca j<0∨x.ca.getD j 0<x.ca.getD (zBW (leftV a b p).2 x.ca j).toNat 0) then (j:Int) else zBW (leftV a b p).2 x.ca j:=rfl
 have hbl : -1≤zBW (leftV a b p).2 x.ca j∧zBW (leftV a b p).2 x.ca j<b.length:=by
  rcases hbs with ⟨h,_⟩|⟨m,h,h',_⟩<;>omega
 repeat' (first|(refine goK (by assumption) ?_; iterate 4 (try clear hK K))|(refine zAc fun K hK=>?_)|((first|refine zAa hE rfl ?_|refine zAh ?_|((first|refine zAb hE 1 rfl rfl (by kernel_rfl) ?_|refine zAb hE 2 rfl rfl (by kernel_rfl) ?_|refine zAb hE 3 rfl rfl (by kernel_rfl) ?_|refine zAb hE 4 rfl rfl (by kernel_rfl) ?_); simp only [List.length_cons,List.length_nil,Nat.reduceAdd,Nat.reduceSub,List.take_succ_cons,List.take_zero,List.drop_succ_cons,List.drop_zero])); simp +contextual only [hnl,↓kN,↓kP,↓kG,↓qN,↓qP,↓qG,push_cast,seval,reduceCtorEq,Int.cast_ofNat_Int])|refine zAd ?_|((first|refine zAf ?_|refine zAj ?_); simp only [thenQ,zAi,if_true,if_false,Nat.reduceEqDiff,reduceCtorEq])|(refine zAe (by rfl) (fun hb=>?_) (fun hb=>?_)<;>(try simp only [bqa,bqb,bqc,bqd,reduceCtorEq,bqe,bqf] at hb)<;>(try omega))|refine andS ?_|(refine ⟨fun hc=>?_,fun hc=>?_⟩)|fail)
 iterate 5
  ·refine hL6 _ (j+1) (by omega) (by omega) ?_
   refine zAg ?_ ?_ ?_<;>simp only [push_cast,seval,reduceCtorEq,Int.cast_ofNat_Int]
   rw [hbn]
   first|rw [if_pos (by omega)]|rw [if_neg (by omega)]
 ·obtain rfl:j=b.length:=by omega
  have hbv:bestV a b c p<0:=by rw [hV0]; exact hb
  rw [hN0,hP0,if_pos hbv,if_pos hbv]
  exact ⟨⟨rfl,(decide_eq_false (by omega)).symm⟩,rfl⟩
 obtain rfl:j=b.length:=by omega
 have hbv:¬bestV a b c p<0:=by rw [hV0]; exact hb
 obtain ⟨m,hm,hbm⟩:∃ m:Nat,m<b.length∧bestV a b c p=m:=by
  rcases hbs with ⟨h,_⟩|⟨m,h,h',_⟩
  ·omega
  ·exact ⟨m,h,by rw [hV0,h']⟩
 rw [if_neg hbv,hbm] at hP0 hN0
 rw [Int.toNat_natCast] at hN0
 rw [←hV0,hbm]
 obtain ⟨p',hp'⟩:=Option.isSome_iff_exists.1 h6
 rw [hP0] at hp'
 clear hbs hbn hbl hL6
 refine zAk (fun y:Nat×Int×List (List Int)=>AS.of [(0,.one (.val (.sl .int) a)),(1,.one (.val (.sl .int) b)),(2,.one (.val (.sl (.sl .int)) c)),(3,.one (.ref 0)),(11,.one (.ref 1032)),(12,.one (.ref 37)),(13,.one (.ref 40)),(14,.one (.ref 43)),(15,.one (.ref 46)),(23,.I m),(26,.I y.2.1)]
  [(0,.deep 25 3 .int y.2.2),(37,.flat 3 .int x.ra),(40,.flat 3 .int x.rf),(43,.flat 3 .int x.ca),(46,.flat 3 .int x.cf)] [])
  (ChI x a.length b.length p') (fun y=>y.1) (a.length+b.length,(m:Int),p) ⟨by dsimp only; omega,Tb.mono h2.tab (by dsimp only; omega) (by dsimp only; omega),by dsimp only; omega,by dsimp only; omega,hp'⟩ ?_ ?_
 ·refine zAg ?_ ?_ ?_<;>simp only [push_cast,seval,reduceCtorEq,Int.cast_ofNat_Int]
 intro y hI K7 hL7
 obtain ⟨n,j,q⟩:=y
 obtain ⟨i1,i2,i3,i4,i5⟩:=hI
 dsimp only at i1 i2 i3 i4 i5 ⊢
 have hql:=i2.rows
 by_cases hj0:0≤j
 ·obtain ⟨n,rfl,hfol⟩:=zPV hj0 i5
  obtain ⟨jn,rfl⟩:=Int.eq_ofNat_of_zero_le hj0
  have hc4:=hD.b4.at (i:=jn) (by omega)
  obtain ⟨i,hi⟩:=Int.eq_ofNat_of_zero_le hc4.1
  rw [hi] at hc4
  have hr2:=hD.b2.at (i:=i) (by omega)
  have hqi:=i2.cols i (by omega)
  have hqe:=i2.at' i jn (by omega) (by omega)
  have hq1:∀ r:List Int,(q.set i r).getD i []=r:=fun r=>by rw [zHX,if_pos ⟨rfl,by omega⟩]
  have hq2:∀ r:List Int,(q.set i r).length=q.length:=fun r=>List.length_set
  have hq3:∀ v:Int,((q.getD i []).set jn v).length=(q.getD i []).length:=fun v=>List.length_set
  have hnx:zDC x.rf x.cf (jn:Int)=x.rf.getD i 0:=by
   unfold zDC
   rw [Int.toNat_natCast,hi,Int.toNat_natCast]
  rw [hnx] at hfol
  by_cases hr0:0≤x.rf.getD i 0
  ·obtain ⟨j2,hj2⟩:=Int.eq_ofNat_of_zero_le hr0
   have hst:zBT x.rf x.cf (jn:Int) q=Go.OT.addAt (Go.OT.addAt q i jn 1) i j2 (-1):=by
    unfold zBT
    dsimp only
    rw [Int.toNat_natCast,hi,Int.toNat_natCast,hj2,if_pos (by omega),Int.toNat_natCast]
   rw [hst,hj2] at hfol
   rw [hj2] at hr2 hr0
   have hAA:Go.OT.addAt (Go.OT.addAt q i jn 1) i j2 (-1)=(q.set i ((q.getD i []).set jn ((q.getD i []).getD jn 0+1))).set i (((q.getD i []).set jn ((q.getD i []).getD jn 0+1)).set j2 (((q.getD i []).set jn ((q.getD i []).getD jn 0+1)).getD j2 0 - 1)):=by
    unfold Go.OT.addAt
    rw [hq1]
    rfl
   have hq4 : -14≤((q.getD i []).set jn ((q.getD i []).getD jn 0+1)).getD j2 0∧((q.getD i []).set jn ((q.getD i []).getD jn 0+1)).getD j2 0≤214:=by
    have:=i2.at' i j2 (by omega) (by omega)
    rw [zBu (by omega)]
    split<;>omega
   have hI':ChI x a.length b.length p' (n,(j2:Int),Go.OT.addAt (Go.OT.addAt q i jn 1) i j2 (-1)):=⟨by dsimp only; omega,Tb.mono (Tb.addAt2 (d:=0) (e:=0) (i:=i) (j:=jn) (j':=j2) i2 (by omega) (by omega) (by omega)) (by dsimp only; omega) (by dsimp only; omega),by dsimp only; omega,by dsimp only; omega,hfol⟩
   replace hnl:=And.intro hnl (And.intro hi (And.intro hj2 (And.intro hq1 (And.intro hq2 hq3))))
   repeat' (first|(refine goK (by assumption) ?_; iterate 4 (try clear hK K))|(refine zAc fun K hK=>?_)|(refine zAa hE rfl ?_; simp +contextual only [hnl,↓kN,↓kP,↓kG,↓qN,↓qP,↓qG,push_cast,seval,reduceCtorEq,Int.cast_ofNat_Int])|refine zAd ?_|(refine zAf ?_; simp only [thenQ,zAi,if_true,if_false,Nat.reduceEqDiff,reduceCtorEq])|(refine zAe (by rfl) (fun hb=>?_) (fun hb=>?_)<;>(try simp only [bqa,bqb,bqc,bqd,reduceCtorEq,bqe,bqf] at hb)<;>(try omega))|refine andS ?_|fail)
   refine hL7 _ _ hI' (Nat.lt_succ_self n) ?_
   refine zAg ?_ ?_ ?_<;>simp only [push_cast,seval,reduceCtorEq,Int.cast_ofNat_Int]
   rw [hAA]
   exact .inl rfl
  ·have hst:zBT x.rf x.cf (jn:Int) q=Go.OT.addAt q i jn 1:=by
    unfold zBT
    dsimp only
    rw [Int.toNat_natCast,hi,Int.toNat_natCast,if_neg hr0]
   rw [hst] at hfol
   have hI':ChI x a.length b.length p' (n,x.rf.getD i 0,Go.OT.addAt q i jn 1):=⟨by dsimp only; omega,Tb.mono (Tb.addAt (d:=1) (i:=i) (j:=jn) i2 (by omega) (by omega) (by omega)) (by dsimp only; omega) (by dsimp only; omega),by dsimp only; omega,by dsimp only; omega,hfol⟩
   replace hnl:=And.intro hnl (And.intro hi (And.intro hq1 (And.intro hq2 hq3)))
   repeat' (first|(refine goK (by assumption) ?_; iterate 4 (try clear hK K))|(refine zAc fun K hK=>?_)|(refine zAa hE rfl ?_; simp +contextual only [hnl,↓kN,↓kP,↓kG,↓qN,↓qP,↓qG,push_cast,seval,reduceCtorEq,Int.cast_ofNat_Int])|refine zAd ?_|(refine zAf ?_; simp only [thenQ,zAi,if_true,if_false,Nat.reduceEqDiff,reduceCtorEq])|(refine zAe (by rfl) (fun hb=>?_) (fun hb=>?_)<;>(try simp only [bqa,bqb,bqc,bqd,reduceCtorEq,bqe,bqf] at hb)<;>(try omega))|refine andS ?_|fail)
   refine hL7 _ _ hI' (Nat.lt_succ_self n) ?_
   refine zAg ?_ ?_ ?_<;>simp only [push_cast,seval,reduceCtorEq,Int.cast_ofNat_Int]
   exact .inl rfl
 ·rw [zJG _ _ (by omega)] at i5
  repeat' (first|(refine goK (by assumption) ?_; iterate 4 (try clear hK K))|(refine zAc fun K hK=>?_)|((first|refine zAa hE rfl ?_|refine zAh ?_); simp +contextual only [hnl,↓kN,↓kP,↓kG,↓qN,↓qP,↓qG,push_cast,seval,reduceCtorEq,Int.cast_ofNat_Int])|(refine zAj ?_; simp only [thenQ,zAi,if_true,if_false,Nat.reduceEqDiff,reduceCtorEq])|(refine zAe (by rfl) (fun hb=>?_) (fun hb=>?_)<;>(try simp only [bqa,bqb,bqc,bqd,reduceCtorEq,bqe,bqf] at hb)<;>(try omega))|refine andS ?_|fail)
  rw [hN0,hP0,hp',Option.getD_some,←Option.some.inj i5,hbm]
  exact ⟨⟨rfl,(decide_eq_true (by omega)).symm⟩,rfl⟩
end Go.Proofs.YtlgkplnifaoeeaaGreatDoor
namespace Go.Proofs.YtlgkplnifaoeeaaGreatDoor
open Go.RowKit Go.VS
def tbl {α:Type} (n:Nat) (f:Nat→α):List α:=(List.range n).map f
theorem zAZ {α:Type} (n:Nat) (f:Nat→α):(tbl n f).length=n:=by simp [tbl]
theorem zBD {α:Type} {n i:Nat} (f:Nat→α) (d:α) (h:i<n):(tbl n f).getD i d=f i:=by simp [tbl,List.getD_eq_getElem?_getD,h]
theorem zAH {α:Type} {n:Nat} {f g:Nat→α} (h:∀ i,i<n→f i=g i):tbl n f=tbl n g:=List.map_congr_left fun i hi=>h i (List.mem_range.1 hi)
theorem zD2 {α:Type} (n:Nat) (f:Nat→α):tbl (n+1) f=tbl n f++[f n]:=by simp [tbl,List.range_succ]
theorem zFm {α:Type} {n i:Nat} (f:Nat→α) (v:α):(tbl n f).set i v=tbl n (fun j=>if j=i then v else f j):=by
 apply List.ext_getElem?
 intro j
 rw [List.getElem?_set]
 simp only [tbl,List.length_map,List.length_range,List.getElem?_map]
 by_cases hj:j<n
 ·by_cases h:i=j
  ·subst h; simp [hj]
  ·have h':¬j=i:=fun e=>h e.symm
   simp [h,h',hj]
 ·have:(List.range n)[j]?=none:=by simp; omega
  by_cases h:i=j
  ·subst h; simp [hj]
  ·simp [h,hj]
theorem zGR {α:Type} (n:Nat) (v:α):tbl n (fun _=>v)=List.replicate n v:=by simp [tbl,List.map_const']
theorem zKY {α:Type} (l:List α) (d:α):l=tbl l.length (fun i=>l.getD i d):=by
 apply List.ext_getElem (by simp [tbl])
 intro i h1 h2
 simp [tbl,List.getD_eq_getElem?_getD,h1]
theorem zWu {α β:Type} (l:List α) (d:α) (g:α→β):l.map g=tbl l.length (fun i=>g (l.getD i d)):=by
 conv=>lhs; rw [zKY l d]
 simp [tbl]
def rowsP (p:List (List Int)):List Int:=p.map lsum
def colP (p:List (List Int)) (c:Nat):Int:=lsum (p.map fun r=>r.getD c 0)
def colsP (p:List (List Int)):List Int:=tbl (wid p) (colP p)
theorem zRy {p:List (List Int)} {i:Nat} (h:i<p.length) (c:Nat):colP (p.take (i+1)) c=colP (p.take i) c+(p.getD i []).getD c 0:=by
 unfold colP
 rw [List.map_take,List.map_take,zB6 _ _ (by simpa using h)]
 congr 1
 simp [List.getD_eq_getElem?_getD,h]
theorem InPlan.sumR {p:List (List Int)} (h:InPlan p) {i:Nat} (hi:i<p.length) (j:Nat):0≤lsum ((p.getD i []).take j)∧lsum ((p.getD i []).take j)≤750:=by
 have h1:=zEh 150 (by omega) ((p.getD i []).take j) (fun x hx=>h.mem _ (zAR [] hi) x (List.mem_of_mem_take hx))
 have h2:=h.row hi
 have h3:=h.cols
 have h4:((p.getD i []).take j).length≤5:=by rw [List.length_take]; omega
 omega
theorem InPlan.sumC {p:List (List Int)} (h:InPlan p) {c:Nat} (hc:c<wid p) (i:Nat):0≤colP (p.take i) c∧colP (p.take i) c≤750:=by
 unfold colP
 have h1:=zEh 150 (by omega) ((p.take i).map fun r=>r.getD c 0) (fun x hx=>by
  obtain ⟨r,hr,rfl⟩:=List.mem_map.1 hx
  have hr':=List.mem_of_mem_take hr
  exact h.mem r hr' _ (zAR 0 (by rw [h.len r hr']; exact hc)))
 have h3:=h.rows
 have h4:((p.take i).map fun r=>r.getD c 0).length≤5:=by rw [List.length_map,List.length_take]; omega
 omega
@[push_cast] def zV4:Con:=⟨[.dat (.sl (.sl .int))],fun (x:List (List Int)×Unit)=>InPlan x.1,fun (x:List (List Int)×Unit)=>{res:=[.own (.flat 3 .int (rowsP x.1)),.own (.flat 3 .int (colsP x.1))]}⟩
theorem zRN:FnSpec Tryz.prog 113 zV4:=by
 refine FnSpec.of_tri' (E:=know [] [] [] [12,17]) (zAl all_nil all_nil all_nil) Tryz.func113 rfl rfl (by kernel_rfl) ?_
 intro C x hE hnl hfit hpre
 simp only [Tryz.ntmps113,Tryz.results113,maxLen,seval,push_cast] at hnl hfit hpre ⊢
 obtain ⟨(p:List (List Int)),_⟩:=x
 dsimp only at hfit hpre ⊢
 have hr:=hpre.rows
 have hc:=hpre.cols
 have hw:(p.getD 0 []).length=wid p:=rfl
 repeat' (first|(refine goK (by assumption) ?_; iterate 4 (try clear hK K))|(refine zAc fun K hK=>?_)|((first|refine zAa hE rfl ?_|((first|refine zAb hE 1 rfl rfl (by kernel_rfl) ?_|refine zAb hE 2 rfl rfl (by kernel_rfl) ?_|refine zAb hE 3 rfl rfl (by kernel_rfl) ?_|refine zAb hE 4 rfl rfl (by kernel_rfl) ?_); simp only [List.length_cons,List.length_nil,Nat.reduceAdd,Nat.reduceSub,List.take_succ_cons,List.take_zero,List.drop_succ_cons,List.drop_zero])); simp +contextual only [hnl,↓kN,↓kP,↓kG,↓qN,↓qP,↓qG,push_cast,seval,reduceCtorEq,Int.cast_ofNat_Int])|refine zAd ?_|refine andS ?_|fail)
 refine zC8 4 12 12 (by simp only [push_cast,seval,reduceCtorEq,Int.cast_ofNat_Int]; rfl) (by omega) ?_
 refine zC8 5 17 17 (by simp only [push_cast,seval,reduceCtorEq,Int.cast_ofNat_Int]; rfl) (by omega) ?_
 refine zAk (fun i:Nat=>AS.of [(4,.one (.ref 12)),(5,.one (.ref 17)),(18,.one (.val (.sl (.sl .int)) p)),(19,.I p.length),(20,.I i)]
  [(12,.flat 3 .int (tbl p.length fun r=>if r<i then lsum (p.getD r []) else 0)),(17,.flat 3 .int (tbl (wid p) fun c=>colP (p.take i) c))] []) (fun i=>i≤p.length) (fun i=>p.length - i) 0 (Nat.zero_le _) ?_ ?_
 ·refine zAg ?_ ?_ ?_<;>simp only [push_cast,seval,reduceCtorEq,Int.cast_ofNat_Int]
  refine ⟨.inl (congrArg _ ?_),.inl (congrArg _ ?_)⟩
  ·rw [←zGR]
   exact zAH fun r _=>by rw [if_neg (Nat.not_lt_zero r)]
  ·rw [←zGR]
   exact zAH fun c _=>by simp [colP,lsum]
 intro i hi K' hL
 repeat' (first|(refine goK (by assumption) ?_; iterate 4 (try clear hK K))|(refine zAc fun K hK=>?_)|((first|refine zAa hE rfl ?_|refine zAh ?_); simp +contextual only [hnl,↓kN,↓kP,↓kG,↓qN,↓qP,↓qG,push_cast,seval,reduceCtorEq,Int.cast_ofNat_Int])|refine zAd ?_|((first|refine zAf ?_|refine zAj ?_); simp only [thenQ,zAi,if_true,if_false,Nat.reduceEqDiff,reduceCtorEq])|(refine zAe (by rfl) (fun hb=>?_) (fun hb=>?_)<;>(try simp only [bqa,bqb,bqc,bqd,reduceCtorEq,bqe,bqf] at hb)<;>(try omega))|refine andS ?_|fail)
 ·have hi':i<p.length:=by omega
  have hwi:=hpre.row hi'
  refine zAk (fun j:Nat=>AS.of [(4,.one (.ref 12)),(5,.one (.ref 17)),(6,.I i),(18,.one (.val (.sl (.sl .int)) p)),(19,.I p.length),(20,.I i),(25,.one (.val (.sl .int) (p.getD i []))),(26,.I (p.getD i []).length),(27,.I j)]
   [(12,.flat 3 .int (tbl p.length fun r=>if r<i then lsum (p.getD r []) else if r=i then lsum ((p.getD i []).take j) else 0)),(17,.flat 3 .int (tbl (wid p) fun c=>colP (p.take i) c+if c<j then (p.getD i []).getD c 0 else 0))] [])
   (fun j=>j≤wid p) (fun j=>wid p - j) 0 (Nat.zero_le _) ?_ ?_
  ·refine zAg ?_ ?_ ?_<;>simp only [push_cast,seval,reduceCtorEq,Int.cast_ofNat_Int]
   refine ⟨.inl (congrArg _ (zAH fun r _=>?_)),.inl (congrArg _ (zAH fun c _=>?_))⟩
   ·simp only [lsum,ite_self]
   ·rw [if_neg (Nat.not_lt_zero c),Int.add_zero]
  intro j hj K2 hL2
  have e1:(tbl p.length fun r=>if r<i then lsum (p.getD r []) else if r=i then lsum ((p.getD i []).take j) else 0).getD i 0=lsum ((p.getD i []).take j):=by
   rw [zBD _ _ hi',if_neg (Nat.lt_irrefl _),if_pos rfl]
  have e2:j<wid p→(tbl (wid p) fun c=>colP (p.take i) c+if c<j then (p.getD i []).getD c 0 else 0).getD j 0=colP (p.take i) j:=fun hj'=>by
   rw [zBD _ _ hj',if_neg (Nat.lt_irrefl _),Int.add_zero]
  have s1:=hpre.sumR hi' j
  replace hnl:=And.intro hnl (And.intro e1 (And.intro (zAZ p.length fun r=>if r<i then lsum (p.getD r []) else if r=i then lsum ((p.getD i []).take j) else 0) (zAZ (wid p) fun c=>colP (p.take i) c+if c<j then (p.getD i []).getD c 0 else 0)))
  repeat' (first|(refine goK (by assumption) ?_; iterate 4 (try clear hK K))|(refine zAc fun K hK=>?_)|(refine zAa hE rfl ?_; simp +contextual only [hnl,↓kN,↓kP,↓kG,↓qN,↓qP,↓qG,push_cast,seval,reduceCtorEq,Int.cast_ofNat_Int])|refine zAd ?_|((first|refine zAf ?_|refine zAj ?_); simp only [thenQ,zAi,if_true,if_false,Nat.reduceEqDiff,reduceCtorEq])|(refine zAe (by rfl) (fun hb=>?_) (fun hb=>?_)<;>(try simp only [bqa,bqb,bqc,bqd,reduceCtorEq,bqe,bqf] at hb)<;>(try omega))|refine andS ?_|fail)
  ·have hj':j<wid p:=by omega
   have s2:=hpre.at hi' hj'
   have s3:=hpre.sumC hj' i
   have s4:InR ((tbl (wid p) fun c=>colP (p.take i) c+if c<j then (p.getD i []).getD c 0 else 0).getD j 0+(p.getD i []).getD j 0):=by
    rw [e2 hj']
    unfold InR
    omega
   refine ⟨by unfold InR; omega,?_⟩
   repeat' (first|(refine goK (by assumption) ?_; iterate 4 (try clear hK K))|(refine zAa hE rfl ?_; simp +contextual only [hnl,↓kN,↓kP,↓kG,↓qN,↓qP,↓qG,push_cast,seval,reduceCtorEq,Int.cast_ofNat_Int])|refine andS ?_|fail)
   refine hL2 _ (j+1) (by omega) (by omega) ?_
   refine zAg ?_ ?_ ?_<;>simp only [push_cast,seval,reduceCtorEq,Int.cast_ofNat_Int]
   rw [e2 hj',zFm,zFm]
   refine ⟨.inl (congrArg _ (zAH fun r _=>?_)),.inl (congrArg _ (zAH fun c _=>?_))⟩
   ·by_cases h:r=i
    ·subst h
     rw [if_pos rfl,if_neg (Nat.lt_irrefl _),if_pos rfl,zB6 _ _ (by omega)]
    ·rw [if_neg h,if_neg h,if_neg h]
   ·by_cases h:c=j
    ·subst h
     rw [if_pos rfl,if_pos (Nat.lt_succ_self _)]
    ·rw [if_neg h]
     by_cases h2:c<j
     ·rw [if_pos h2,if_pos (by omega)]
     ·rw [if_neg h2,if_neg (by omega)]
  ·have hjw:j=wid p:=by omega
   refine hL _ (i+1) (by omega) (by omega) ?_
   refine zAg ?_ ?_ ?_<;>simp only [push_cast,seval,reduceCtorEq,Int.cast_ofNat_Int]
   refine ⟨.inl (congrArg _ (zAH fun r _=>?_)),.inl (congrArg _ (zAH fun c hc=>?_))⟩
   ·by_cases h:r=i
    ·subst h
     rw [if_neg (Nat.lt_irrefl _),if_pos rfl,if_pos (Nat.lt_succ_self _),List.take_of_length_le (by omega)]
    ·rw [if_neg h]
     by_cases h2:r<i
     ·rw [if_pos h2,if_pos (by omega)]
     ·rw [if_neg h2,if_neg (by omega)]
   ·rw [if_pos (by omega),zRy hi']
 ·obtain rfl:i=p.length:=by omega
  refine ⟨congrArg _ ?_,congrArg _ ?_⟩
  ·rw [rowsP,zWu p []]
   exact zAH fun r hr=>if_pos hr
  ·rw [List.take_of_length_le (Nat.le_refl _)]
   rfl
@[push_cast] def zOK:Con:=⟨[.dat (.sl .int),.dat (.sl .int)],fun _=>True,fun (x:List Int×List Int×Unit)=>{res:=[.val .bool (decide (x.1=x.2.1))]}⟩
theorem zG0:FnSpec Tryz.prog 67 zOK:=by
 refine FnSpec.of_tri' (E:=know [] [] [] []) (zAl all_nil all_nil all_nil) Tryz.func67 rfl rfl (by kernel_rfl) ?_
 intro C x hE hnl hfit hpre
 simp only [Tryz.ntmps67,Tryz.results67,maxLen,seval,push_cast] at hnl hfit hpre ⊢
 obtain ⟨(a:List Int),(b:List Int),_⟩:=x
 dsimp only at hfit hpre ⊢
 repeat' (first|(refine goK (by assumption) ?_; iterate 4 (try clear hK K))|(refine zAc fun K hK=>?_)|((first|refine zAa hE rfl ?_|refine zAh ?_); simp +contextual only [hnl,↓kN,↓kP,↓kG,↓qN,↓qP,↓qG,push_cast,seval,reduceCtorEq,Int.cast_ofNat_Int])|refine zAd ?_|(refine zAf ?_; simp only [thenQ,zAi,if_true,if_false,Nat.reduceEqDiff,reduceCtorEq])|(refine zAe (by rfl) (fun hb=>?_) (fun hb=>?_)<;>(try simp only [bqa,bqb,bqc,bqd,reduceCtorEq,bqe,bqf] at hb)<;>(try omega))|fail)
 ·exact (decide_eq_false fun e=>hb (by rw [e])).symm
 have hlen:=hb; clear hb
 refine zAk (fun k:Nat=>AS.of [(0,.one (.val (.sl .int) a)),(1,.one (.val (.sl .int) b)),(12,.I a.length),(13,.I k)] [] []) (fun k=>k≤a.length∧∀ j,j<k→a.getD j 0=b.getD j 0) (fun k=>a.length - k) 0 ⟨Nat.zero_le _,by omega⟩ ?_ ?_
 ·refine zAg ?_ ?_ ?_<;>simp only [push_cast,seval,reduceCtorEq,Int.cast_ofNat_Int]
 intro k ⟨hk,hj⟩ K' hL
 repeat' (first|(refine goK (by assumption) ?_; iterate 4 (try clear hK K))|(refine zAc fun K hK=>?_)|((first|refine zAa hE rfl ?_|refine zAh ?_|((first|refine zAb hE 1 rfl rfl (by kernel_rfl) ?_|refine zAb hE 2 rfl rfl (by kernel_rfl) ?_|refine zAb hE 3 rfl rfl (by kernel_rfl) ?_|refine zAb hE 4 rfl rfl (by kernel_rfl) ?_); simp only [List.length_cons,List.length_nil,Nat.reduceAdd,Nat.reduceSub,List.take_succ_cons,List.take_zero,List.drop_succ_cons,List.drop_zero])); simp +contextual only [hnl,↓kN,↓kP,↓kG,↓qN,↓qP,↓qG,push_cast,seval,reduceCtorEq,Int.cast_ofNat_Int])|refine zAd ?_|((first|refine zAf ?_|refine zAj ?_); simp only [thenQ,zAi,if_true,if_false,Nat.reduceEqDiff,reduceCtorEq])|(refine zAe (by rfl) (fun hb=>?_) (fun hb=>?_)<;>(try simp only [bqa,bqb,bqc,bqd,reduceCtorEq,bqe,bqf] at hb)<;>(try omega))|refine andS ?_|fail)
 ·exact (decide_eq_false (zFA 0 hb)).symm
 ·refine hL _ (k+1) ⟨by omega,fun j hj'=>?_⟩ (by omega) ?_
  ·rcases Nat.lt_or_ge j k with h3|h3
   ·exact hj j h3
   ·have:j=k:=by omega
    subst this
    exact hb
  refine zAg ?_ ?_ ?_<;>simp only [push_cast,seval,reduceCtorEq,Int.cast_ofNat_Int]
 ·exact (decide_eq_true (zFq 0 (by omega) fun j hj'=>hj j (by omega))).symm
end Go.Proofs.YtlgkplnifaoeeaaGreatDoor
namespace Go.Proofs.YtlgkplnifaoeeaaGreatDoor
open Go.RowKit Go.VS
theorem zRY {n lo hi:Int} {l:List Int} (h:InL n lo hi l):∀ j,j<l.length→lo≤l.getD j 0∧l.getD j 0≤hi:=fun j hj=>h.2 _ (zAR 0 hj)
section
variable {c:List (List Int)} {ps:List Int}
end
end Go.Proofs.YtlgkplnifaoeeaaGreatDoor
namespace Go.Proofs.YtlgkplnifaoeeaaGreatDoor
open Go.RowKit Go.VS
end Go.Proofs.YtlgkplnifaoeeaaGreatDoor
namespace Go.Proofs.YtlgkplnifaoeeaaGreatDoor
open Go.RowKit Go.VS
abbrev Pr:=Int×Int
def toP (l:List Pr) (i:Nat):Pr:=l.getD i (0,0)
end Go.Proofs.YtlgkplnifaoeeaaGreatDoor
namespace Go.Proofs.YtlgkplnifaoeeaaGreatDoor
open Go.RowKit Go.VS
structure InT (c:List (List Int)) (x:Pr):Prop where
 r0:0≤x.1
 r1:x.1<c.length
 c0:0≤x.2
 c1:x.2<wid c
theorem inT_iff {c:List (List Int)} {x:Pr}:InT c x↔(0≤x.1∧x.1<c.length∧0≤x.2∧x.2<wid c):=⟨fun ⟨a,b,c,d⟩=>⟨a,b,c,d⟩,fun ⟨a,b,c,d⟩=>⟨a,b,c,d⟩⟩
instance (c:List (List Int)) (x:Pr):Decidable (InT c x):=decidable_of_iff _ inT_iff.symm
def lexLt (x y:Pr):Prop:=x.1<y.1∨x.1=y.1∧x.2<y.2
instance (x y:Pr):Decidable (lexLt x y):=by unfold lexLt; infer_instance
structure Lnk (c:List (List Int)) (l:List Pr):Prop where
 at':∀ i,i<l.length→InT c (toP l i)
 inc:∀ i,i+1<l.length→lexLt (toP l i) (toP l (i+1))
theorem lnk_iff {c:List (List Int)} {l:List Pr}:Lnk c l↔((∀ i,i<l.length→InT c (toP l i))∧∀ i,i<l.length - 1→lexLt (toP l i) (toP l (i+1))) :=
 ⟨fun ⟨a,b⟩=>⟨a,fun i hi=>b i (by omega)⟩,fun ⟨a,b⟩=>⟨a,fun i hi=>b i (by omega)⟩⟩
instance (c:List (List Int)) (l:List Pr):Decidable (Lnk c l):=decidable_of_iff _ lnk_iff.symm
structure LnkK (c:List (List Int)) (l:List Pr) (k:Nat):Prop where
 at':∀ i,i<k→InT c (toP l i)
 inc:∀ i,i+1<k→lexLt (toP l i) (toP l (i+1))
theorem LnkK.all {c:List (List Int)} {l:List Pr} (h:LnkK c l l.length):Lnk c l:=⟨h.at',h.inc⟩
theorem LnkK.step {c:List (List Int)} {l:List Pr} {k:Nat} (h:LnkK c l k) (h1:InT c (toP l k)) (h2:0<k→lexLt (toP l (k - 1)) (toP l k)):LnkK c l (k+1):=by
 refine ⟨fun i hi=>?_,fun i hi=>?_⟩
 ·rcases Nat.lt_or_ge i k with h3|h3
  ·exact h.at' i h3
  ·obtain rfl:i=k:=by omega
   exact h1
 ·rcases Nat.lt_or_ge (i+1) k with h3|h3
  ·exact h.inc i h3
  ·obtain rfl:k=i+1:=by omega
   exact h2 (by omega)
end Go.Proofs.YtlgkplnifaoeeaaGreatDoor
namespace Go.Proofs.YtlgkplnifaoeeaaGreatDoor
open Go.RowKit Go.VS
end Go.Proofs.YtlgkplnifaoeeaaGreatDoor
namespace Go.Proofs.YtlgkplnifaoeeaaGreatDoor
open Go.RowKit Go.VS
section
variable {c:List (List Int)} {l r:List Pr}
end
end Go.Proofs.YtlgkplnifaoeeaaGreatDoor
namespace Go.Proofs.YtlgkplnifaoeeaaGreatDoor
open Go.RowKit Go.VS
theorem zJX {a:List Int} (h:zB0 a=true):(1≤a.length∧a.length≤6)∧Go.OT.Bnd 0 200 a :=
 ⟨by have:=zJY h; omega,fun x hx=>by have:=zHa h x hx; omega⟩
theorem ForOK.mc {a b:List Int} {c:List (List Int)} (h:ForOK a b c):Go.OT.MC a b c:=by
 have h1:=zJX h.ha
 have h2:=zJX h.hb
 have h3:=h.hc.tb (lo':=0) (hi':=99) (by omega) (by omega)
 rw [h.rows,h.cols] at h3
 exact ⟨h1.1,h2.1,h1.2,h2.2,h3⟩
def zO3 (a b:List Int) (c:List (List Int)):Int:=if zE8 a b c=0 then spend c (Go.OT.cheapV a b c) else 0
theorem zUh {a b:List Int} {c:List (List Int)} (h:zE8 a b c=0):zO3 a b c=spend c (Go.OT.cheapV a b c):=if_pos h
end Go.Proofs.YtlgkplnifaoeeaaGreatDoor
namespace Go.Proofs.YtlgkplnifaoeeaaGreatDoor
open Go.RowKit Go.VS
def ArePr (c:List (List Int)) (p:zBh):Prop:=InL c.length (-1000) 1000 p.1∧InL (wid c) (-1000) 1000 p.2
instance (c:List (List Int)) (p:zBh):Decidable (ArePr c p):=by unfold ArePr; infer_instance
section
variable {c:List (List Int)} {p:zBh}
theorem ArePr.row (h:ArePr c p):p.1.length=c.length∧∀ i,i<p.1.length → -1000≤p.1.getD i 0∧p.1.getD i 0≤1000:=⟨by have:=h.1.1; omega,zRY h.1⟩
theorem ArePr.col (h:ArePr c p):p.2.length=wid c∧∀ i,i<p.2.length → -1000≤p.2.getD i 0∧p.2.getD i 0≤1000:=⟨by have:=h.2.1; omega,zRY h.2⟩
end
end Go.Proofs.YtlgkplnifaoeeaaGreatDoor
namespace Go.Proofs.YtlgkplnifaoeeaaGreatDoor
open Go.RowKit Go.VS Go.OT
def zJe (a b:List Int) (p:zBh):Int:=dotK a p.1 a.length+dotK b p.2 b.length
section
variable {a b:List Int} {c:List (List Int)} {p:zBh}
end
end Go.Proofs.YtlgkplnifaoeeaaGreatDoor
namespace Go.Proofs.YtlgkplnifaoeeaaGreatDoor
open Go.RowKit Go.VS
@[push_cast] def zXF:Con:=⟨[.dat (.sl (.sl .int))],fun _=>True,fun (x:List (List Int)×Unit) =>
 {res:=[.own (.flat 3 .int (if zAW x.1=0 then rowsP x.1 else [])),.own (.flat 3 .int (if zAW x.1=0 then colsP x.1 else [])),.val .int (zAW x.1)]}⟩
section
variable {a b:List Int} {p:List (List Int)}
end
end Go.Proofs.YtlgkplnifaoeeaaGreatDoor
namespace Go.Proofs.YtlgkplnifaoeeaaGreatDoor
open Go.RowKit Go.VS
def Small (p:List (List Int)):Prop:=p.length≤1000∧∀ r∈p,r.length≤1000
theorem Small.row {p:List (List Int)} (h:Small p) {i:Nat} (hi:i<p.length):(p.getD i []).length≤1000:=h.2 _ (zAR [] hi)
end Go.Proofs.YtlgkplnifaoeeaaGreatDoor
