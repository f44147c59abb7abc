import Derived.Test.YtekfodeknpnkbaaGreatDoorT5
import Derived.Tactics2
import Derived.Laws.CopyOwn
import Derived.Laws.Bits64b
import Derived.WalkKit
set_option linter.unusedSimpArgs false
set_option linter.unusedVariables false
namespace Go.Proofs.YtekfodeknpnkbaaGreatDoor
open Go.RowKit Go.VS
def InL (n lo hi:Int) (l:List Int):Prop:=l.length=n∧∀ x∈l,lo≤x∧x≤hi
instance (n lo hi:Int) (l:List Int):Decidable (InL n lo hi l):=by unfold InL; infer_instance
structure InTab (lo hi:Int) (p:List (List Int)):Prop where
 rows:1≤p.length∧p.length≤5
 cols:1≤wid p∧wid p≤5
 row:∀ r∈p,InL (wid p) lo hi r
theorem inTab_iff {lo hi:Int} {p:List (List Int)}:InTab lo hi p↔((1≤p.length∧p.length≤5)∧(1≤wid p∧wid p≤5)∧∀ r∈p,InL (wid p) lo hi r):=⟨fun ⟨a,b,c⟩=>⟨a,b,c⟩,fun ⟨a,b,c⟩=>⟨a,b,c⟩⟩
instance (lo hi:Int) (p:List (List Int)):Decidable (InTab lo hi p):=decidable_of_iff _ inTab_iff.symm
theorem InTab.len {lo hi:Int} {p:List (List Int)} (h:InTab lo hi p) {i:Nat} (hi:i<p.length):(p.getD i []).length=wid p:=by
 have:=(h.row _ (zAJ [] hi)).1
 omega
theorem InTab.at {lo hi:Int} {p:List (List Int)} (h:InTab lo hi p) {i j:Nat} (h1:i<p.length) (h2:j<wid p):lo≤(p.getD i []).getD j 0∧(p.getD i []).getD j 0≤hi :=
 (h.row _ (zAJ [] h1)).2 _ (zAJ 0 (by rw [h.len h1]; exact h2))
theorem zLa {lo hi:Int} {p:List (List Int)} (h1:1≤p.length∧p.length≤5) (h2:1≤wid p∧wid p≤5) (h:∀ i,i<p.length→(p.getD i []).length=wid p∧∀ j,j<wid p→lo≤(p.getD i []).getD j 0∧(p.getD i []).getD j 0≤hi):InTab lo hi p:=by
 refine ⟨h1,h2,fun r hr=>?_⟩
 obtain ⟨i,hi,rfl⟩:=List.getElem_of_mem hr
 have e:p.getD i []=p[i]:=by rw [List.getD_eq_getElem?_getD,List.getElem?_eq_getElem hi]; rfl
 have:=h i hi
 rw [e] at this
 refine ⟨by rw [this.1],fun x hx=>?_⟩
 obtain ⟨j,hj,rfl⟩:=List.getElem_of_mem hx
 have h3:=this.2 j (by rw [←this.1]; exact hj)
 rwa [List.getD_eq_getElem?_getD,List.getElem?_eq_getElem hj] at h3
def zAu (p:List (List Int)):Int:=if InTab 0 99 p then 0 else 1
theorem zEj {p:List (List Int)} (h:InTab 0 99 p):zAu p=0:=if_pos h
theorem zDL {p:List (List Int)} (h:¬InTab 0 99 p):zAu p=1:=if_neg h
theorem zAR {p:List (List Int)} (h:zAu p=0):InTab 0 99 p:=by
 by_cases h2:InTab 0 99 p
 ·exact h2
 ·rw [zDL h2] at h; omega
theorem zJO (p:List (List Int)):zAu p=0∨zAu p=1:=by
 unfold zAu
 split<;>simp
@[push_cast] def zW7:Clo:=⟨[.int,.int],[.int],.bool,fun _ _=>True,fun (y:Int×Int×Unit) (x:Int×Unit)=>!decide (y.1≤x.1∧x.1≤y.2.1)⟩
@[push_cast] def zXA:Con:=⟨[.dat .int,.ptr .int,.ptr .int],fun _=>True,fun (x:Int×Int×Int×Unit)=>{res:=[.val .bool (!decide (x.2.1≤x.1∧x.1≤x.2.2.1))]}⟩
@[push_cast] def zZg:Con:=⟨[.dat (.sl .int),.dat .int,.dat .int,.dat .int],fun _=>True,fun (x:List Int×Int×Int×Int×Unit)=>{res:=[.val .bool (decide (InL x.2.1 x.2.2.1 x.2.2.2.1 x.1))]}⟩
@[push_cast] def zIu:Con:=⟨[.dat (.sl (.sl .int))],fun _=>True,fun (x:List (List Int)×Unit)=>{res:=[.val .int (zAu x.1)]}⟩
theorem zXB:FnSpec Tryz.prog 134 zXA:=by
 refine FnSpec.of_tri' (E:=know _ [] [] []) (zAl (kc zHP all_nil) all_nil all_nil) Tryz.func134 rfl rfl (by kernel_rfl) ?_
 intro C x hE hnl hfit hpre
 simp only [Tryz.ntmps134,Tryz.results134,maxLen,seval,push_cast] at hnl hfit hpre ⊢
 obtain ⟨(n:Int),(lo:Int),(hi:Int),_⟩:=x
 dsimp only at hfit hpre ⊢
 exact auA
theorem zSw:CloSpec Tryz.prog 134 zW7:=CloSpec.of zXB
theorem zX8 {n lo hi:Int} {l:List Int} (h:(l.length:Int)=n):(!l.any fun y=>!decide (lo≤y∧y≤hi))=decide (InL n lo hi l):=by
 by_cases hl:InL n lo hi l
 ·rw [decide_eq_true hl,Bool.not_eq_true',List.any_eq_false]
  intro x hx
  simpa using hl.2 x hx
 ·rw [decide_eq_false hl,Bool.not_eq_false',List.any_eq_true]
  apply Classical.byContradiction
  intro h2
  refine hl ⟨h,fun x hx=>?_⟩
  apply Classical.byContradiction
  intro h3
  exact h2 ⟨x,hx,by simp only [Bool.not_eq_true',decide_eq_false_iff_not]; exact h3⟩
theorem zPe:FnSpec Tryz.prog 87 zZg:=by
 refine FnSpec.of_tri' (E:=know [(133,zCS)] [(134,zW7)] [] []) (zAl (all_cons zCD all_nil) (all_cons zSw all_nil) all_nil) Tryz.func87 rfl rfl (by kernel_rfl) ?_
 intro C x hE hnl hfit hpre
 simp only [Tryz.ntmps87,Tryz.results87,maxLen,seval,push_cast] at hnl hfit hpre ⊢
 obtain ⟨(l:List Int),(n:Int),(lo:Int),(hi:Int),_⟩:=x
 dsimp only at hfit hpre ⊢
 repeat' (first|(refine goK (by assumption) ?_; iterate 4 (try clear hK K))|(refine zAb fun K hK=>?_)|((first|refine zAa hE rfl ?_|refine zAi ?_); simp +contextual only [hnl,↓kA,push_cast,seval,reduceCtorEq,cI])|(refine ⟨fun hc=>?_,fun hc=>?_⟩)|fail)
 ·exact zX8 (by assumption)
 ·exact (decide_eq_false fun h=>by have:=h.1; omega).symm
theorem zEq:FnSpec Tryz.prog 42 zIu:=by
 refine FnSpec.of_tri' (E:=know _ [] [] []) (zAl (kc zHP (kc zPe all_nil)) all_nil all_nil) Tryz.func42 rfl rfl (by kernel_rfl) ?_
 intro C x hE hnl hfit hpre
 simp only [Tryz.ntmps42,Tryz.results42,maxLen,seval,push_cast] at hnl hfit hpre ⊢
 obtain ⟨(p:List (List Int)),_⟩:=x
 dsimp only at hfit hpre ⊢
 repeat' (first|(refine goK (by assumption) ?_; iterate 4 (try clear hK K))|(refine zAb fun K hK=>?_)|((first|refine zAa hE rfl ?_|refine zAi ?_); simp +contextual only [hnl,↓kA,push_cast,seval,reduceCtorEq,cI])|refine zAd ?_|(refine zAg ?_; simp only [thenQ,zAh,if_true,if_false,Nat.reduceEqDiff,reduceCtorEq])|(refine zAe (by rfl) (fun hb=>?_) (fun hb=>?_)<;>(try simp only [bq,reduceCtorEq] at hb)<;>(try omega))|refine andS ?_|(refine ⟨fun hc=>?_,fun hc=>?_⟩)|fail)
 ·exact (zDL fun h=>hb (by have:=h.cols; unfold wid at this; omega)).symm
 ·have hw:(p.getD 0 []).length=wid p:=rfl
  refine zAk (fun k:Nat=>AS.of [(0,.one (.val (.sl (.sl .int)) p)),(17,.one (.val (.sl (.sl .int)) p)),(18,.I p.length),(19,.I k)] [] []) (fun k=>k≤p.length∧∀ i,i<k→InL (wid p) 0 99 (p.getD i [])) (fun k=>p.length - k) 0 ⟨Nat.zero_le _,by omega⟩ ?_ ?_
  ·refine zAf ?_ ?_ ?_<;>simp only [push_cast,seval,reduceCtorEq,cI]
  intro k ⟨hk,hi⟩ K' hL
  repeat' (first|(refine goK (by assumption) ?_; iterate 4 (try clear hK K))|(refine zAb fun K hK=>?_)|((first|refine zAa hE rfl ?_|refine zAi ?_); simp +contextual only [hnl,↓kA,push_cast,seval,reduceCtorEq,cI])|refine zAd ?_|((first|refine zAg ?_|refine zAj ?_); simp only [thenQ,zAh,if_true,if_false,Nat.reduceEqDiff,reduceCtorEq])|(refine zAe (by rfl) (fun hb=>?_) (fun hb=>?_)<;>(try simp only [bq,reduceCtorEq] at hb)<;>(try omega))|refine andS ?_|fail)
  ·exact (zDL fun h=>hb (by have:=h.row _ (zAJ [] (by omega:k<p.length)); rw [hw]; exact this)).symm
  ·refine hL _ (k+1) ⟨by omega,fun i h1=>?_⟩ (by omega) ?_
   ·rcases Nat.lt_or_ge i k with h3|h3
    ·exact hi i h3
    ·obtain rfl:i=k:=by omega
     rw [hw] at hb
     exact hb
   refine zAf ?_ ?_ ?_<;>simp only [push_cast,seval,reduceCtorEq,cI]
  ·refine (zEj ⟨by omega,by omega,fun r hr=>?_⟩).symm
   obtain ⟨i,h1,rfl⟩:=List.getElem_of_mem hr
   have:=hi i (by omega)
   rwa [List.getD_eq_getElem?_getD,List.getElem?_eq_getElem h1] at this
 ·exact (zDL fun h=>by have:=h.rows; omega).symm
end Go.Proofs.YtekfodeknpnkbaaGreatDoor
namespace Go.Proofs.YtekfodeknpnkbaaGreatDoor
open Go.RowKit Go.VS
def orV:List Int→Int
 | []=>0
 | x::l=>if x=0 then orV l else x
@[push_cast] theorem zIX:orV []=0:=rfl
theorem zEP (x:Int) (l:List Int):orV (x::l)=if x=0 then orV l else x:=rfl
theorem zLm:∀ (l:List Int) (k:Nat),k≤l.length→(∀ j,j<k→l.getD j 0=0)→orV l=orV (l.drop k)
 | l,0,_,_=>rfl
 | [],k+1,h,_=>by simp at h
 | x::l,k+1,h,hz=>by
  have h0:x=0:=by simpa using hz 0 (by omega)
  rw [zEP,if_pos h0,List.drop_succ_cons]
  exact zLm l k (by simpa using h) fun j hj=>by simpa using hz (j+1) (by omega)
@[push_cast] def orCon:Con:=⟨[.dat (.sl .int)],fun _=>True,fun (x:List Int×Unit)=>{res:=[.val .int (orV x.1)]}⟩
theorem zIY:FnSpec Tryz.prog 69 orCon:=by
 refine FnSpec.of_tri' (E:=know [] [] [] []) (zAl all_nil all_nil all_nil) Tryz.func69 rfl rfl (by kernel_rfl) ?_
 intro C x hE hnl hfit hpre
 simp only [Tryz.ntmps69,Tryz.results69,maxLen,seval,push_cast] at hnl hfit hpre ⊢
 obtain ⟨(l:List Int),_⟩:=x
 dsimp only at hfit hpre ⊢
 repeat' (first|(refine goK (by assumption) ?_; iterate 4 (try clear hK K))|(refine zAb fun K hK=>?_)|(refine zAa hE rfl ?_; simp +contextual only [hnl,↓kA,push_cast,seval,reduceCtorEq,cI])|refine zAd ?_|fail)
 refine zAk (fun k:Nat=>AS.of [(0,.one (.val (.sl .int) l)),(3,.I 0),(6,.one (.val (.sl .int) l)),(7,.I l.length),(8,.I k)] [] []) (fun k=>k≤l.length∧∀ j,j<k→l.getD j 0=0) (fun k=>l.length - k) 0 ⟨Nat.zero_le _,by omega⟩ ?_ ?_
 ·refine zAf ?_ ?_ ?_<;>simp only [push_cast,seval,reduceCtorEq,cI]
 intro k ⟨hk,hz⟩ K' hL
 repeat' (first|(refine goK (by assumption) ?_; iterate 4 (try clear hK K))|(refine zAb fun K hK=>?_)|((first|refine zAa hE rfl ?_|refine zAi ?_); simp +contextual only [hnl,↓kA,push_cast,seval,reduceCtorEq,cI])|refine zAd ?_|((first|refine zAg ?_|refine zAj ?_); simp only [thenQ,zAh,if_true,if_false,Nat.reduceEqDiff,reduceCtorEq])|(refine zAe (by rfl) (fun hb=>?_) (fun hb=>?_)<;>(try simp only [bq,reduceCtorEq] at hb)<;>(try omega))|refine andS ?_|fail)
 ·rw [zLm l k hk hz,zL7 0 (by omega),zEP,if_neg hb]
 ·refine hL _ (k+1) ⟨by omega,fun j hj=>?_⟩ (by omega) ?_
  ·rcases Nat.lt_or_ge j k with h3|h3
   ·exact hz j h3
   ·obtain rfl:j=k:=by omega
    exact hb
  refine zAf ?_ ?_ ?_<;>simp only [push_cast,seval,reduceCtorEq,cI]
 ·rw [zLm l k hk hz,List.drop_of_length_le (by omega)]
  rfl
structure ForOK (a b:List Int) (c:List (List Int)):Prop where
 ha:zB3 a=true
 hb:zB3 b=true
 hc:InTab 0 99 c
 rows:c.length=a.length
 cols:wid c=b.length
theorem forOK_iff {a b:List Int} {c:List (List Int)}:ForOK a b c↔(zB3 a=true∧zB3 b=true∧InTab 0 99 c∧c.length=a.length∧wid c=b.length) :=
 ⟨fun ⟨a,b,c,d,e⟩=>⟨a,b,c,d,e⟩,fun ⟨a,b,c,d,e⟩=>⟨a,b,c,d,e⟩⟩
instance (a b:List Int) (c:List (List Int)):Decidable (ForOK a b c):=decidable_of_iff _ forOK_iff.symm
def zDl (a b:List Int) (c:List (List Int)):Int:=if ForOK a b c then 0 else 1
def zFb (a b:List Int) (c:List (List Int)):Int:=if ForOK a b c then if lsum a=lsum b then 0 else 5 else 1
section
variable {a b:List Int} {c:List (List Int)}
theorem zK3 (h:ForOK a b c):zDl a b c=0:=if_pos h
theorem zFF (h:¬ForOK a b c):zDl a b c=1:=if_neg h
theorem zS7 (h:zDl a b c=0):ForOK a b c:=by
 by_cases h2:ForOK a b c
 ·exact h2
 ·rw [zFF h2] at h; omega
theorem zQE (h:zFb a b c=0):ForOK a b c∧lsum a=lsum b:=by
 unfold zFb at h
 split at h
 ·split at h
  ·exact ⟨by assumption,by assumption⟩
  ·omega
 ·omega
theorem zPz (h:¬zAt a=0):zAt a=zDl a b c:=by
 rw [zFF fun h2=>h (by rw [zAt,if_pos h2.ha])]
 rw [zAt,zJP h]; rfl
theorem zPA (h:¬zAt b=0):zAt b=zDl a b c:=by
 rw [zFF fun h2=>h (by rw [zAt,if_pos h2.hb])]
 rw [zAt,zJP h]; rfl
theorem zPB (h:¬zAu c=0):zAu c=zDl a b c:=by
 rw [zFF fun h2=>h (zEj h2.hc)]
 exact (zJO c).resolve_left h
theorem zPC (h:¬c.length=a.length):(1:Int)=zDl a b c:=(zFF fun h2=>h h2.rows).symm
theorem zPD (h:¬(c.getD 0 []).length=b.length):(1:Int)=zDl a b c:=(zFF fun h2=>h h2.cols).symm
theorem zYw (h:¬orV [zAt a,zAt b,zAu c]=0):orV [zAt a,zAt b,zAu c]=zDl a b c:=by
 simp only [zEP,zIX] at h ⊢
 split
 ·split
  ·rename_i h1 h2
   rw [if_pos h1,if_pos h2] at h
   split
   ·rename_i h3; rw [if_pos h3] at h; omega
   ·exact zPB (by assumption)
  ·exact zPA (by assumption)
 ·exact zPz (by assumption)
theorem zIa (h:orV [zAt a,zAt b,zAu c]=0):zAt a=0∧zAt b=0∧zAu c=0:=by
 simp only [zEP,zIX] at h
 split at h
 ·split at h
  ·split at h
   ·exact ⟨by assumption,by assumption,by assumption⟩
   ·contradiction
  ·contradiction
 ·contradiction
end
@[push_cast] def zXd:Con:=⟨[.dat (.sl .int),.dat (.sl .int),.dat (.sl (.sl .int))],fun _=>True,fun (x:List Int×List Int×List (List Int)×Unit)=>{res:=[.val .int (zDl x.1 x.2.1 x.2.2.1)]}⟩
end Go.Proofs.YtekfodeknpnkbaaGreatDoor
namespace Go.Proofs.YtekfodeknpnkbaaGreatDoor
open Go.RowKit Go.VS Go.OT
def dotK (r s:List Int):Nat→Int
 | 0=>0
 | k+1=>dotK r s k+r.getD k 0*s.getD k 0
def zCP (c t:List (List Int)):Nat→Int
 | 0=>0
 | k+1=>zCP c t k+dotK (c.getD k []) (t.getD k []) (t.getD k []).length
def spend (c t:List (List Int)):Int:=zCP c t t.length
def Fit (c t:List (List Int)):Prop:=∃ R C,(R≤6∧C≤6)∧Tb R C 0 1000000 c∧Tb R C 0 200 t
theorem zTU {x y:Int} (h1:0≤x∧x≤1000000) (h2:0≤y∧y≤200):0≤x*y∧x*y≤200000000 :=
 ⟨Int.mul_nonneg h1.1 h2.1,by have:=Int.mul_le_mul h1.2 h2.2 h2.1 (by omega:(0:Int)≤1000000); omega⟩
theorem Fit.rows {c t:List (List Int)} (h:Fit c t):t.length=c.length∧t.length≤6:=by
 obtain ⟨R,C,h1,h2,h3⟩:=h
 rw [h2.rows,h3.rows]; omega
theorem Fit.cols {c t:List (List Int)} (h:Fit c t) {i:Nat} (hi:i<t.length):(t.getD i []).length=(c.getD i []).length∧(t.getD i []).length≤6:=by
 obtain ⟨R,C,h1,h2,h3⟩:=h
 rw [h3.rows] at hi
 rw [h2.cols i hi,h3.cols i hi]; omega
theorem Fit.term {c t:List (List Int)} (h:Fit c t) {i j:Nat} (hi:i<t.length) (hj:j<(t.getD i []).length):0≤(c.getD i []).getD j 0*(t.getD i []).getD j 0∧(c.getD i []).getD j 0*(t.getD i []).getD j 0≤200000000:=by
 obtain ⟨R,C,h1,h2,h3⟩:=h
 rw [h3.rows] at hi
 rw [h3.cols i hi] at hj
 exact zTU (h2.at' i j hi hj) (h3.at' i j hi hj)
theorem Fit.dot {c t:List (List Int)} (h:Fit c t) {i:Nat} (hi:i<t.length):∀ j,j≤(t.getD i []).length→0≤dotK (c.getD i []) (t.getD i []) j∧dotK (c.getD i []) (t.getD i []) j≤200000000*j
 | 0,_=>by simp [dotK]
 | j+1,hj=>by
  have h1:=h.dot hi j (by omega)
  have h2:=h.term hi (j:=j) (by omega)
  simp only [dotK]
  omega
theorem Fit.spend {c t:List (List Int)} (h:Fit c t):∀ k,k≤t.length→0≤zCP c t k∧zCP c t k≤1200000000*k
 | 0,_=>by simp [zCP]
 | k+1,hk=>by
  have h1:=h.spend k (by omega)
  have h2:=h.dot (i:=k) (by omega) _ (Nat.le_refl _)
  have h3:=h.cols (i:=k) (by omega)
  simp only [zCP]
  omega
@[push_cast] def zQc:Con:=⟨[.dat (.sl (.sl .int)),.dat (.sl (.sl .int))],fun (x:List (List Int)×List (List Int)×Unit)=>Fit x.1 x.2.1,fun (x:List (List Int)×List (List Int)×Unit)=>{res:=[.val .int (spend x.1 x.2.1)]}⟩
theorem InTab.tb {lo hi lo' hi':Int} {p:List (List Int)} (h:InTab lo hi p) (h1:lo'≤lo) (h2:hi≤hi'):Tb p.length (wid p) lo' hi' p:=⟨rfl,fun i hi=>h.len hi,fun i j hi hj=>by have:=h.at hi hj; omega⟩
theorem InPlan.tab {p:List (List Int)} (h:InPlan p):InTab 0 150 p:=zLa h.rows h.cols fun i hi=>⟨h.row hi,fun j hj=>h.at hi hj⟩
section
variable {c t:List (List Int)}
end
end Go.Proofs.YtekfodeknpnkbaaGreatDoor
namespace Go.Proofs.YtekfodeknpnkbaaGreatDoor
open Go.RowKit Go.VS
abbrev zA3:=List Int×List Int
end Go.Proofs.YtekfodeknpnkbaaGreatDoor
namespace Go.Proofs.YtekfodeknpnkbaaGreatDoor
open Go.RowKit Go.VS
@[push_cast] def zGw:Con:=⟨[.dat (.sl .int)],fun (x:List Int×Unit)=>x.1.length≤1000,fun (x:List Int×Unit)=>{res:=[.own (.flat 3 .int x.1)]}⟩
theorem zWL {α:Type} (A B:α) (n k:Nat) (hk:k<n):(List.replicate k A++List.replicate (n - k) B).set k A=List.replicate (k+1) A++List.replicate (n - (k+1)) B:=by
 have e:n - k=(n - (k+1))+1:=by omega
 rw [e,List.replicate_succ,List.set_append_right _ _ (by simp),List.length_replicate,Nat.sub_self,List.set_cons_zero,List.replicate_succ']
 simp
theorem zJJ:FnSpec Tryz.prog 103 zGw:=by
 refine FnSpec.of_tri' (E:=know [] [] [] [5]) (zAl all_nil all_nil all_nil) Tryz.func103 rfl rfl (by kernel_rfl) ?_
 intro C x hE hnl hfit hpre
 simp only [Tryz.ntmps103,Tryz.results103,maxLen,seval,push_cast] at hnl hfit hpre ⊢
 obtain ⟨(l:List Int),_⟩:=x
 dsimp only at hfit hpre ⊢
 cases l with
 | nil =>
  exact auA
  skip
 | cons y l =>
  simp only [List.length_cons] at hpre
  exact auA
end Go.Proofs.YtekfodeknpnkbaaGreatDoor
namespace Go.Proofs.YtekfodeknpnkbaaGreatDoor
open Go.RowKit Go.VS Go.OT
@[push_cast] def zPx:Con:=⟨[.dat (.sl .int),.dat (.sl .int)],fun (x:List Int×List Int×Unit)=>x.1.length≤6∧x.2.1.length≤6,fun (x:List Int×List Int×Unit)=>{res:=[.own (.deep 38 3 .int (List.replicate x.1.length (List.replicate x.2.1.length 0)))]}⟩
theorem zJN:FnSpec Tryz.prog 171 zPx:=by
 refine FnSpec.of_tri' (E:=know [] [] [] []) (zAl all_nil all_nil all_nil) Tryz.func171 rfl rfl (by kernel_rfl) ?_
 intro C x hE hnl hfit hpre
 simp only [Tryz.ntmps171,Tryz.results171,maxLen,seval,push_cast] at hnl hfit hpre ⊢
 obtain ⟨(a:List Int),(b:List Int),_⟩:=x
 dsimp only at hfit hpre ⊢
 repeat' (first|(refine goK (by assumption) ?_; iterate 4 (try clear hK K))|(refine zAb fun K hK=>?_)|(refine zAa hE rfl ?_; simp +contextual only [hnl,↓kA,push_cast,seval,reduceCtorEq,cI])|refine zAd ?_|refine andS ?_|fail)
 refine zAk (fun k:Nat=>AS.of [(1,.one (.val (.sl .int) b)),(5,.one (.ref 9)),(11,.I a.length),(12,.I k)] [(9,.deep 38 3 .int (List.replicate k (List.replicate b.length 0)++List.replicate (a.length - k) []))] []) (fun k=>k≤a.length) (fun k=>a.length - k) 0 (Nat.zero_le _) ?_ ?_
 ·refine zAf ?_ ?_ ?_<;>simp only [push_cast,seval,reduceCtorEq,cI]
  all_goals first|(left; simp; done)|simp
 intro k hk K' hL
 have hlen:(List.replicate k (List.replicate b.length (0:Int))++List.replicate (a.length - k) []).length=a.length:=by simp; omega
 repeat' (first|(refine goK (by assumption) ?_; iterate 4 (try clear hK K))|(refine zAb fun K hK=>?_)|((first|refine zAa hE rfl ?_|refine zAi ?_); simp +contextual only [hnl,↓kA,push_cast,seval,reduceCtorEq,cI])|refine zAd ?_|((first|refine zAg ?_|refine zAj ?_); simp only [thenQ,zAh,if_true,if_false,Nat.reduceEqDiff,reduceCtorEq])|(refine zAe (by rfl) (fun hb=>?_) (fun hb=>?_)<;>(try simp only [bq,reduceCtorEq] at hb)<;>(try omega))|refine andS ?_|fail)
 ·refine hL _ (k+1) (by omega) (by omega) ?_
  refine zAf ?_ ?_ ?_<;>simp only [push_cast,seval,reduceCtorEq,cI]
  left
  rw [zWL _ _ _ _ (by omega)]
 ·obtain rfl:k=a.length:=by omega
  simp
@[push_cast] def zYg:Con:=⟨[.dat (.sl .int),.dat (.sl .int),.dat (.sl (.sl .int))],fun (x:List Int×List Int×List (List Int)×Unit)=>Shp x.1 x.2.1 x.2.2.1,
 fun (x:List Int×List Int×List (List Int)×Unit)=>{res:=[.own (.flat 3 .int (leftV x.1 x.2.1 x.2.2.1).1),.own (.flat 3 .int (leftV x.1 x.2.1 x.2.2.1).2)]}⟩
theorem zTv:FnSpec Tryz.prog 206 zYg:=by
 refine FnSpec.of_tri' (E:=know [] [] [] []) (zAl all_nil all_nil all_nil) Tryz.func206 rfl rfl (by kernel_rfl) ?_
 intro C x hE hnl hfit hpre
 simp only [Tryz.ntmps206,Tryz.results206,maxLen,seval,push_cast] at hnl hfit hpre ⊢
 obtain ⟨(a:List Int),(b:List Int),(p:List (List Int)),_⟩:=x
 dsimp only at hfit hpre ⊢
 have ha5:=hpre.a5
 have hb5:=hpre.b5
 have hrw:=hpre.rows
 repeat' (first|(refine goK (by assumption) ?_; iterate 4 (try clear hK K))|(refine zAb fun K hK=>?_)|(refine zAa hE rfl ?_; simp +contextual only [hnl,↓kA,push_cast,seval,reduceCtorEq,cI])|refine zAd ?_|refine andS ?_|fail)
 refine zAk (fun k:Nat=>AS.of [(6,.one (.ref 14)),(7,.one (.ref 17)),(18,.one (.val (.sl (.sl .int)) p)),(19,.I p.length),(20,.I k)] [(14,.flat 3 .int (upto (zB8 p) k (a,b)).1),(17,.flat 3 .int (upto (zB8 p) k (a,b)).2)] []) (fun k=>k≤p.length) (fun k=>p.length - k) 0 (Nat.zero_le _) ?_ ?_
 ·refine zAf ?_ ?_ ?_<;>simp only [push_cast,seval,reduceCtorEq,cI]
  exact ⟨.inl rfl,.inl rfl⟩
 intro k hk K' hL
 repeat' (first|(refine goK (by assumption) ?_; iterate 4 (try clear hK K))|(refine zAb fun K hK=>?_)|((first|refine zAa hE rfl ?_|refine zAi ?_); simp +contextual only [hnl,↓kA,push_cast,seval,reduceCtorEq,cI])|refine zAd ?_|((first|refine zAg ?_|refine zAj ?_); simp only [thenQ,zAh,if_true,if_false,Nat.reduceEqDiff,reduceCtorEq])|(refine zAe (by rfl) (fun hb=>?_) (fun hb=>?_)<;>(try simp only [bq,reduceCtorEq] at hb)<;>(try omega))|refine andS ?_|fail)
 ·have hk':k<p.length:=by omega
  have hcl:=hpre.cols k hk'
  refine zAk (fun j:Nat=>AS.of [(6,.one (.ref 14)),(7,.one (.ref 17)),(8,.I k),(18,.one (.val (.sl (.sl .int)) p)),(19,.I p.length),(20,.I k),(25,.one (.val (.sl .int) (p.getD k []))),(26,.I (p.getD k []).length),(27,.I j)] [(14,.flat 3 .int (upto (zBc p k) j (upto (zB8 p) k (a,b))).1),(17,.flat 3 .int (upto (zBc p k) j (upto (zB8 p) k (a,b))).2)] []) (fun j=>j≤(p.getD k []).length) (fun j=>(p.getD k []).length - j) 0 (Nat.zero_le _) ?_ ?_
  ·refine zAf ?_ ?_ ?_<;>simp only [push_cast,seval,reduceCtorEq,cI]
   exact ⟨.inl rfl,.inl rfl⟩
  intro j hj K2 hL2
  have hs:=LSt.row hpre (LSt.all hpre k (by omega)) hk' j (by omega)
  have hs1:=hs.l1
  have hs2:=hs.l2
  have hn:j<b.length→_:=fun h=>(hpre.mem k hk').at (i:=j) (by omega)
  have hx1:=hs.b1.at (i:=k) (by omega)
  have hx2:j<b.length→_:=fun h=>hs.b2.at (i:=j) (by omega)
  have hup:upto (zBc p k) (j+1) (upto (zB8 p) k (a,b))=zBc p k j (upto (zBc p k) j (upto (zB8 p) k (a,b))):=rfl
  generalize hse:upto (zBc p k) j (upto (zB8 p) k (a,b))=s at hs1 hs2 hx1 hx2 hup ⊢
  repeat' (first|(refine goK (by assumption) ?_; iterate 4 (try clear hK K))|(refine zAb fun K hK=>?_)|(refine zAa hE rfl ?_; simp +contextual only [hnl,↓kA,push_cast,seval,reduceCtorEq,cI])|refine zAd ?_|((first|refine zAg ?_|refine zAj ?_); simp only [thenQ,zAh,if_true,if_false,Nat.reduceEqDiff,reduceCtorEq])|(refine zAe (by rfl) (fun hb=>?_) (fun hb=>?_)<;>(try simp only [bq,reduceCtorEq] at hb)<;>(try omega))|refine andS ?_|fail)
  ·refine hL2 _ (j+1) (by omega) (by omega) ?_
   refine zAf ?_ ?_ ?_<;>simp only [push_cast,seval,reduceCtorEq,cI]
   rw [hup]
   exact ⟨.inl rfl,.inl rfl⟩
  ·obtain rfl:j=(p.getD k []).length:=by omega
   have hnx:upto (zB8 p) (k+1) (a,b)=s:=hse
   refine hL _ (k+1) (by omega) (by omega) ?_
   refine zAf ?_ ?_ ?_<;>simp only [push_cast,seval,reduceCtorEq,cI]
   rw [hnx]
   exact ⟨.inl rfl,.inl rfl⟩
 ·obtain rfl:k=p.length:=by omega
  exact ⟨rfl,rfl⟩
end Go.Proofs.YtekfodeknpnkbaaGreatDoor
namespace Go.Proofs.YtekfodeknpnkbaaGreatDoor
open Go.RowKit Go.VS Go.OT
def deepI:RC→List (List Int)
 | .deep _ _ s xss=>(zAT (.sl (.sl s)) (.sl (.sl .int)) xss).getD []
 | _=>[]
@[push_cast] theorem zDz (e e2:TypeId) (p:List (List Int)):deepI (.deep e e2 .int p)=p:=by
 simp only [deepI,zEa,Option.getD_some]
abbrev zPc:=List Int×List Int×List (List Int)×RC×Unit
structure NextPre (a b:List Int) (c:List (List Int)) (rc:RC):Prop where
 hrc:rc=.deep 38 3 .int (deepI rc)
 shp:Shp a b (deepI rc)
 hc:Tb a.length b.length 0 99 c
 ends:(nextP a b c (deepI rc)).isSome=true
@[push_cast] def zTV:Con:=⟨[.dat (.sl .int),.dat (.sl .int),.dat (.sl (.sl .int)),.lend],fun (x:zPc)=>NextPre x.1 x.2.1 x.2.2.1 x.2.2.2.1,
 fun (x:zPc)=>Out.mk [.val .int (nextN x.1 x.2.1 x.2.2.1 (deepI x.2.2.2.1)),.val .bool (decide (0≤bestV x.1 x.2.1 x.2.2.1 (deepI x.2.2.2.1)))]
  [(0,.deep 38 3 .int ((nextP x.1 x.2.1 x.2.2.1 (deepI x.2.2.2.1)).getD []))] []⟩
section
variable {c p:List (List Int)} {i j:Nat} {s:Dst}
theorem zWG (h1:s.ra.getD i 0<far) (h2:s.ra.getD i 0+(c.getD i []).getD j 0<s.ca.getD j 0) (hj:j<s.ca.length) :
 relax c p i j s=⟨s.ra,s.rf,s.ca.set j (s.ra.getD i 0+(c.getD i []).getD j 0),s.cf.set j (i:Int)⟩:=by
 unfold relax relaxC
 rw [if_pos ⟨h1,h2⟩]
 unfold relaxR
 dsimp only
 rw [zBw hj,if_pos rfl,if_neg (by omega)]
theorem zWF (h1:¬(s.ra.getD i 0<far∧s.ra.getD i 0+(c.getD i []).getD j 0<s.ca.getD j 0)) (h2:0<(p.getD i []).getD j 0) (h3:s.ca.getD j 0<far) (h4:s.ca.getD j 0 - (c.getD i []).getD j 0<s.ra.getD i 0) :
 relax c p i j s=⟨s.ra.set i (s.ca.getD j 0 - (c.getD i []).getD j 0),s.rf.set i (j:Int),s.ca,s.cf⟩:=by
 unfold relax relaxC
 rw [if_neg h1]
 unfold relaxR
 rw [if_pos ⟨h2,h3,h4⟩]
theorem zWE (h1:¬(s.ra.getD i 0<far∧s.ra.getD i 0+(c.getD i []).getD j 0<s.ca.getD j 0)) (h2:¬(0<(p.getD i []).getD j 0∧s.ca.getD j 0<far∧s.ca.getD j 0 - (c.getD i []).getD j 0<s.ra.getD i 0)) :
 relax c p i j s=s:=by
 unfold relax relaxC
 rw [if_neg h1]
 unfold relaxR
 rw [if_neg h2]
end
structure ChI (x:Dst) (R C:Nat) (p':List (List Int)) (y:Nat×Int×List (List Int)):Prop where
 n12:y.1≤12
 tab:Tb R C (-(12 - (y.1:Int))) (200+(12 - (y.1:Int))) y.2.2
 lo : -1≤y.2.1
 hi:y.2.1<C
 fol:Go.OT.follow x.rf x.cf y.1 y.2.1 y.2.2=some p'
theorem Tb.addAt {R C:Nat} {lo hi d:Int} {q:List (List Int)} (h:Tb R C lo hi q) {i j:Nat} (hi':i<R) (hj:j<C) (hd : -1≤d∧d≤1):Tb R C (lo - 1) (hi+1) (Go.OT.addAt q i j d):=by
 have h1:=h.sz.add (j:=j) (d:=d) hi'
 refine ⟨h1.rows,h1.cols,fun i' j' h2 h3=>?_⟩
 have h4:=congrFun (congrFun (zDp (d:=d) h.sz hi' hj) i') j'
 unfold gt bump at h4
 dsimp only at h4
 rw [h4]
 have:=h.at' i' j' h2 h3
 split<;>omega
theorem Tb.mono {R C:Nat} {lo hi lo' hi':Int} {q:List (List Int)} (h:Tb R C lo hi q) (h1:lo'≤lo) (h2:hi≤hi'):Tb R C lo' hi' q:=⟨h.rows,h.cols,fun i j a b=>by have:=h.at' i j a b; omega⟩
theorem Tb.addAt2 {R C:Nat} {lo hi d e:Int} {q:List (List Int)} (h:Tb R C lo hi q) {i j j':Nat} (hi':i<R) (hj:j<C) (hj':j'<C):Tb R C (lo - 1) (hi+1) (Go.OT.addAt (Go.OT.addAt q i j 1) i j' (-1)):=by
 have h1:=(h.sz.add (j:=j) (d:=1) hi').add (j:=j') (d := -1) hi'
 refine ⟨h1.rows,h1.cols,fun i' j2 h2 h3=>?_⟩
 have h4:=congrFun (congrFun (zDp (d := -1) (h.sz.add (j:=j) (d:=1) hi') hi' hj') i') j2
 rw [zDp h.sz hi' hj] at h4
 unfold gt bump at h4
 dsimp only at h4
 rw [h4]
 have:=h.at' i' j2 h2 h3
 split<;>split<;>omega
theorem zQN {rf cf:List Int} {n:Nat} {j:Int} {q p':List (List Int)} (hj:0≤j) (h:Go.OT.follow rf cf n j q=some p'):∃ m,n=m+1∧Go.OT.follow rf cf m (zDI rf cf j) (zBX rf cf j q)=some p':=by
 cases n with
 | zero =>
  have e:Go.OT.follow rf cf 0 j q=if j<0 then some q else none:=rfl
  rw [e,if_neg (by omega)] at h
  exact absurd h (by simp)
 | succ n =>
  have e:Go.OT.follow rf cf (n+1) j q=if j<0 then some q else Go.OT.follow rf cf n (zDI rf cf j) (zBX rf cf j q):=rfl
  rw [e,if_neg (by omega)] at h
  exact ⟨n,rfl,h⟩
set_option maxHeartbeats 4000000 in
theorem zMB:FnSpec Tryz.prog 172 zTV:=by
 refine FnSpec.of_tri' (E:=know _ [] [] [37,40,43,46]) (zAl (kc zTv all_nil) all_nil all_nil) Tryz.func172 rfl rfl (by kernel_rfl) ?_
 intro C x hE hnl hfit hpre
 simp only [Tryz.ntmps172,Tryz.results172,maxLen,seval,push_cast] at hnl hfit hpre ⊢
 obtain ⟨(a:List Int),(b:List Int),(c:List (List Int)),(rc:RC),_⟩:=x
 dsimp only at hfit hpre ⊢
 obtain ⟨h1,h2,h3,h6⟩:=hpre
 generalize deepI rc=p at *
 subst h1
 have ha5:=h2.a5
 have hb5:=h2.b5
 have hrw:=h2.rows
 have hcr:=h3.rows
 have hls:=LSt.all h2 p.length (Nat.le_refl _)
 have hl1:(leftV a b p).1.length=a.length:=hls.l1
 have hl2:(leftV a b p).2.length=b.length:=hls.l2
 repeat' (first|(refine goK (by assumption) ?_; iterate 4 (try clear hK K))|(refine zAb fun K hK=>?_)|((first|refine zAa hE rfl ?_|((first|refine zAc hE 1 rfl rfl (by kernel_rfl) ?_|refine zAc hE 2 rfl rfl (by kernel_rfl) ?_|refine zAc hE 3 rfl rfl (by kernel_rfl) ?_|refine zAc hE 4 rfl rfl (by kernel_rfl) ?_); simp only [List.length_cons,List.length_nil,Nat.reduceAdd,Nat.reduceSub,List.take_succ_cons,List.take_zero,List.drop_succ_cons,List.drop_zero])); simp +contextual only [hnl,↓kA,push_cast,seval,reduceCtorEq,cI])|refine zAd ?_|refine andS ?_|fail)
 refine zC7 12 37 37 (by simp only [push_cast,seval,reduceCtorEq,cI]; rfl) (by omega) ?_
 refine zC7 13 40 40 (by simp only [push_cast,seval,reduceCtorEq,cI]; rfl) (by omega) ?_
 refine zC7 14 43 43 (by simp only [push_cast,seval,reduceCtorEq,cI]; rfl) (by omega) ?_
 refine zC7 15 46 46 (by simp only [push_cast,seval,reduceCtorEq,cI]; rfl) (by omega) ?_
 refine zAk (fun k:Nat=>AS.of [(0,.one (.val (.sl .int) a)),(1,.one (.val (.sl .int) b)),(2,.one (.val (.sl (.sl .int)) c)),(3,.one (.ref 0)),(11,.one (.ref 1032)),(10,.one (.ref 32)),(12,.one (.ref 37)),(13,.one (.ref 40)),(14,.one (.ref 43)),(15,.one (.ref 46)),(47,.one (.ref 32)),(48,.I (leftV a b p).1.length),(49,.I k)]
  [(0,.deep 38 3 .int p),(1032,.flat 3 .int (leftV a b p).2),(32,.flat 3 .int (leftV a b p).1),(37,.flat 3 .int (zCm (leftV a b p).1 a.length k).1),(40,.flat 3 .int (zCm (leftV a b p).1 a.length k).2),(43,.flat 3 .int (List.replicate b.length 0)),(46,.flat 3 .int (List.replicate b.length 0))] [])
  (fun k=>k≤a.length) (fun k=>a.length - k) 0 (Nat.zero_le _) ?_ ?_
 ·refine zAf ?_ ?_ ?_<;>simp only [push_cast,seval,reduceCtorEq,cI]
  exact ⟨.inl rfl,.inl rfl⟩
 intro k hk K' hL
 have hsr:=zEx (leftV a b p).1 a.length k
 have hst:zCm (leftV a b p).1 a.length (k+1)=zCH (leftV a b p).1 k (zCm (leftV a b p).1 a.length k):=rfl
 repeat' (first|(refine goK (by assumption) ?_; iterate 4 (try clear hK K))|(refine zAb fun K hK=>?_)|(refine zAa hE rfl ?_; simp +contextual only [hnl,↓kA,push_cast,seval,reduceCtorEq,cI])|refine zAd ?_|((first|refine zAg ?_|refine zAj ?_); simp only [thenQ,zAh,if_true,if_false,Nat.reduceEqDiff,reduceCtorEq])|(refine zAe (by rfl) (fun hb=>?_) (fun hb=>?_)<;>(try simp only [bq,reduceCtorEq] at hb)<;>(try omega))|refine andS ?_|fail)
 ·refine hL _ (k+1) (by omega) (by omega) ?_
  refine zAf ?_ ?_ ?_<;>simp only [push_cast,seval,reduceCtorEq,cI]
  rw [hst,zCH,if_pos hb]
  exact ⟨.inl rfl,.inl rfl⟩
 ·refine hL _ (k+1) (by omega) (by omega) ?_
  refine zAf ?_ ?_ ?_<;>simp only [push_cast,seval,reduceCtorEq,cI]
  rw [hst,zCH,if_neg hb]
  exact ⟨.inl rfl,.inl rfl⟩
 obtain rfl:k=a.length:=by omega
 clear hb hL hst
 refine zAk (fun k:Nat=>AS.of [(0,.one (.val (.sl .int) a)),(1,.one (.val (.sl .int) b)),(2,.one (.val (.sl (.sl .int)) c)),(3,.one (.ref 0)),(11,.one (.ref 1032)),(12,.one (.ref 37)),(13,.one (.ref 40)),(14,.one (.ref 43)),(15,.one (.ref 46)),(64,.I (leftV a b p).2.length),(65,.I k)]
  [(0,.deep 38 3 .int p),(1032,.flat 3 .int (leftV a b p).2),(37,.flat 3 .int (zCm (leftV a b p).1 a.length a.length).1),(40,.flat 3 .int (zCm (leftV a b p).1 a.length a.length).2),(43,.flat 3 .int (zF6 b.length k)),(46,.flat 3 .int (List.replicate b.length 0))] [])
  (fun k=>k≤b.length) (fun k=>b.length - k) 0 (Nat.zero_le _) ?_ ?_
 ·refine zAf ?_ ?_ ?_<;>simp only [push_cast,seval,reduceCtorEq,cI]
  exact .inl rfl
 intro k hk K2 hL
 have hsc:=zFZ b.length k
 have hst:zF6 b.length (k+1)=(zF6 b.length k).set k far:=rfl
 repeat' (first|(refine goK (by assumption) ?_; iterate 4 (try clear hK K))|(refine zAb fun K hK=>?_)|(refine zAa hE rfl ?_; simp +contextual only [hnl,↓kA,push_cast,seval,reduceCtorEq,cI])|refine zAd ?_|((first|refine zAg ?_|refine zAj ?_); simp only [thenQ,zAh,if_true,if_false,Nat.reduceEqDiff,reduceCtorEq])|(refine zAe (by rfl) (fun hb=>?_) (fun hb=>?_)<;>(try simp only [bq,reduceCtorEq] at hb)<;>(try omega))|refine andS ?_|fail)
 ·refine hL _ (k+1) (by omega) (by omega) ?_
  refine zAf ?_ ?_ ?_<;>simp only [push_cast,seval,reduceCtorEq,cI]
  rw [hst]
  exact .inl rfl
 obtain rfl:k=b.length:=by omega
 clear hb hL hst
 refine zAk (fun k:Nat=>AS.of [(0,.one (.val (.sl .int) a)),(1,.one (.val (.sl .int) b)),(2,.one (.val (.sl (.sl .int)) c)),(3,.one (.ref 0)),(11,.one (.ref 1032)),(12,.one (.ref 37)),(13,.one (.ref 40)),(14,.one (.ref 43)),(15,.one (.ref 46)),(76,.I (a.length+b.length:Nat)),(77,.I k)]
  [(0,.deep 38 3 .int p),(1032,.flat 3 .int (leftV a b p).2),(37,.flat 3 .int (distK a b c p k).ra),(40,.flat 3 .int (distK a b c p k).rf),(43,.flat 3 .int (distK a b c p k).ca),(46,.flat 3 .int (distK a b c p k).cf)] [])
  (fun k=>k≤a.length+b.length) (fun k=>a.length+b.length - k) 0 (Nat.zero_le _) ?_ ?_
 ·refine zAf ?_ ?_ ?_<;>simp only [push_cast,seval,reduceCtorEq,cI]
  exact ⟨.inl rfl,.inl rfl,.inl rfl,.inl rfl⟩
 intro k hk K3 hL
 have hD:=zH6 h3 h2 k
 repeat' (first|(refine goK (by assumption) ?_; iterate 4 (try clear hK K))|(refine zAb fun K hK=>?_)|(refine zAa hE rfl ?_; simp +contextual only [hnl,↓kA,push_cast,seval,reduceCtorEq,cI])|refine zAd ?_|((first|refine zAg ?_|refine zAj ?_); simp only [thenQ,zAh,if_true,if_false,Nat.reduceEqDiff,reduceCtorEq])|(refine zAe (by rfl) (fun hb=>?_) (fun hb=>?_)<;>(try simp only [bq,reduceCtorEq] at hb)<;>(try omega))|fail)
 ·have hDn:distK a b c p (k+1)=upto (zBA c p) c.length (distK a b c p k):=rfl
  generalize distK a b c p k=s0 at hD hDn ⊢
  refine zAk (fun i:Nat=>AS.of [(0,.one (.val (.sl .int) a)),(1,.one (.val (.sl .int) b)),(2,.one (.val (.sl (.sl .int)) c)),(3,.one (.ref 0)),(11,.one (.ref 1032)),(12,.one (.ref 37)),(13,.one (.ref 40)),(14,.one (.ref 43)),(15,.one (.ref 46)),(76,.I (a.length+b.length:Nat)),(77,.I k),(79,.one (.val (.sl (.sl .int)) c)),(80,.I c.length),(81,.I i)]
   [(0,.deep 38 3 .int p),(1032,.flat 3 .int (leftV a b p).2),(37,.flat 3 .int (upto (zBA c p) i s0).ra),(40,.flat 3 .int (upto (zBA c p) i s0).rf),(43,.flat 3 .int (upto (zBA c p) i s0).ca),(46,.flat 3 .int (upto (zBA c p) i s0).cf)] [])
   (fun i=>i≤c.length) (fun i=>c.length - i) 0 (Nat.zero_le _) ?_ ?_
  ·refine zAf ?_ ?_ ?_<;>simp only [push_cast,seval,reduceCtorEq,cI]
   exact ⟨.inl rfl,.inl rfl,.inl rfl,.inl rfl⟩
  intro i hi K4 hL4
  repeat' (first|(refine goK (by assumption) ?_; iterate 4 (try clear hK K))|(refine zAb fun K hK=>?_)|(refine zAa hE rfl ?_; simp +contextual only [hnl,↓kA,push_cast,seval,reduceCtorEq,cI])|refine zAd ?_|((first|refine zAg ?_|refine zAj ?_); simp only [thenQ,zAh,if_true,if_false,Nat.reduceEqDiff,reduceCtorEq])|(refine zAe (by rfl) (fun hb=>?_) (fun hb=>?_)<;>(try simp only [bq,reduceCtorEq] at hb)<;>(try omega))|refine andS ?_|fail)
  ·have hi':i<a.length:=by omega
   have hci:=h3.cols i hi'
   have hpi:=h2.tab.cols i hi'
   have hQ:=DSt.tab p h3 hb5.2 hD i (by omega)
   have hQn:upto (zBA c p) (i+1) s0=upto (relax c p i) (c.getD i []).length (upto (zBA c p) i s0):=rfl
   generalize upto (zBA c p) i s0=s1 at hQ hQn ⊢
   refine zAk (fun j:Nat=>AS.of [(0,.one (.val (.sl .int) a)),(1,.one (.val (.sl .int) b)),(2,.one (.val (.sl (.sl .int)) c)),(3,.one (.ref 0)),(11,.one (.ref 1032)),(12,.one (.ref 37)),(13,.one (.ref 40)),(14,.one (.ref 43)),(15,.one (.ref 46)),(19,.I i),(76,.I (a.length+b.length:Nat)),(77,.I k),(79,.one (.val (.sl (.sl .int)) c)),(80,.I c.length),(81,.I i),(86,.one (.val (.sl .int) (c.getD i []))),(87,.I (c.getD i []).length),(88,.I j)]
    [(0,.deep 38 3 .int p),(1032,.flat 3 .int (leftV a b p).2),(37,.flat 3 .int (upto (relax c p i) j s1).ra),(40,.flat 3 .int (upto (relax c p i) j s1).rf),(43,.flat 3 .int (upto (relax c p i) j s1).ca),(46,.flat 3 .int (upto (relax c p i) j s1).cf)] [])
    (fun j=>j≤(c.getD i []).length) (fun j=>(c.getD i []).length - j) 0 (Nat.zero_le _) ?_ ?_
   ·refine zAf ?_ ?_ ?_<;>simp only [push_cast,seval,reduceCtorEq,cI]
    exact ⟨.inl rfl,.inl rfl,.inl rfl,.inl rfl⟩
   intro j hj K5 hL5
   have hF:=DSt.row p h3 hQ hi' j (by omega)
   have hFn:upto (relax c p i) (j+1) s1=relax c p i j (upto (relax c p i) j s1):=rfl
   generalize hs2:upto (relax c p i) j s1=s2 at hF hFn ⊢
   have g1:=hF.l1
   have g2:=hF.l2
   have g3:=hF.l3
   have g4:=hF.l4
   have g5:=hF.b1.at (i:=i) (by omega)
   have hfar:far=1099511627776:=rfl
   rcases Nat.lt_or_ge j b.length with hjb|hjb
   ·have g6:=hF.b3.at (i:=j) (by omega)
    have g7:=h3.at' i j hi' hjb
    have g8:∀ x:Int,(s2.ca.set j x).getD j 0=x:=fun x=>by rw [zBw (by omega),if_pos rfl]
    have g9:∀ x:Int,(s2.ca.set j x).length=s2.ca.length:=fun x=>List.length_set
    replace hnl:=And.intro hnl (And.intro g8 g9)
    repeat' (first|(refine goK (by assumption) ?_; iterate 4 (try clear hK K))|(refine zAb fun K hK=>?_)|((first|refine zAa hE rfl ?_|((first|refine zAc hE 1 rfl rfl (by kernel_rfl) ?_|refine zAc hE 2 rfl rfl (by kernel_rfl) ?_|refine zAc hE 3 rfl rfl (by kernel_rfl) ?_|refine zAc hE 4 rfl rfl (by kernel_rfl) ?_); simp only [List.length_cons,List.length_nil,Nat.reduceAdd,Nat.reduceSub,List.take_succ_cons,List.take_zero,List.drop_succ_cons,List.drop_zero])); simp +contextual only [hnl,↓kA,push_cast,seval,reduceCtorEq,cI])|refine zAd ?_|(refine zAg ?_; simp only [thenQ,zAh,if_true,if_false,Nat.reduceEqDiff,reduceCtorEq])|(refine zAe (by rfl) (fun hb=>?_) (fun hb=>?_)<;>(try simp only [bq,reduceCtorEq] at hb)<;>(try omega))|refine andS ?_|(refine ⟨fun hc=>?_,fun hc=>?_⟩)|fail)
    all_goals refine hL5 _ (j+1) (by omega) (by omega) ?_
    all_goals refine zAf ?_ ?_ ?_<;>simp only [push_cast,seval,reduceCtorEq,cI]
    all_goals rw [hFn]
    all_goals first|rw [zWG (by omega) (by omega) (by omega)]|rw [zWF (by omega) (by omega) (by omega) (by omega)]|rw [zWE (by omega) (by omega)]
    all_goals exact ⟨.inl rfl,.inl rfl,.inl rfl,.inl rfl⟩
   ·repeat' (first|(refine goK (by assumption) ?_; iterate 4 (try clear hK K))|(refine zAb fun K hK=>?_)|(refine zAa hE rfl ?_; simp +contextual only [hnl,↓kA,push_cast,seval,reduceCtorEq,cI])|(refine zAj ?_; simp only [thenQ,zAh,if_true,if_false,Nat.reduceEqDiff,reduceCtorEq])|(refine zAe (by rfl) (fun hb=>?_) (fun hb=>?_)<;>(try simp only [bq,reduceCtorEq] at hb)<;>(try omega))|refine andS ?_|fail)
    obtain rfl:j=(c.getD i []).length:=by omega
    rw [hs2] at hQn
    refine hL4 _ (i+1) (by omega) (by omega) ?_
    refine zAf ?_ ?_ ?_<;>simp only [push_cast,seval,reduceCtorEq,cI]
    rw [hQn]
    exact ⟨.inl rfl,.inl rfl,.inl rfl,.inl rfl⟩
  ·obtain rfl:i=c.length:=by omega
   refine hL _ (k+1) (by omega) (by omega) ?_
   refine zAf ?_ ?_ ?_<;>simp only [push_cast,seval,reduceCtorEq,cI]
   rw [hDn]
   exact ⟨.inl rfl,.inl rfl,.inl rfl,.inl rfl⟩
 obtain rfl:k=a.length+b.length:=by omega
 clear hb hL
 have hE0:distK a b c p (a.length+b.length)=dist a b c p:=rfl
 rw [hE0] at hD ⊢
 have hV0:bestV a b c p=zB0 (leftV a b p).2 (dist a b c p).ca b.length:=rfl
 have hN0:nextN a b c p=if bestV a b c p<0 then 0 else (dist a b c p).ca.getD (bestV a b c p).toNat 0:=rfl
 have hP0:nextP a b c p=if bestV a b c p<0 then some p else Go.OT.follow (dist a b c p).rf (dist a b c p).cf (a.length+b.length) (bestV a b c p) p:=rfl
 generalize dist a b c p=x at hD hV0 hN0 hP0 ⊢
 have hfar:far=1099511627776:=rfl
 have hx1:=hD.l1
 have hx2:=hD.l2
 have hx3:=hD.l3
 have hx4:=hD.l4
 refine zAk (fun j:Nat=>AS.of [(0,.one (.val (.sl .int) a)),(1,.one (.val (.sl .int) b)),(2,.one (.val (.sl (.sl .int)) c)),(3,.one (.ref 0)),(11,.one (.ref 1032)),(12,.one (.ref 37)),(13,.one (.ref 40)),(14,.one (.ref 43)),(15,.one (.ref 46)),(23,.I (zB0 (leftV a b p).2 x.ca j)),(168,.one (.ref 1032)),(169,.I (leftV a b p).2.length),(170,.I j)]
  [(0,.deep 38 3 .int p),(1032,.flat 3 .int (leftV a b p).2),(37,.flat 3 .int x.ra),(40,.flat 3 .int x.rf),(43,.flat 3 .int x.ca),(46,.flat 3 .int x.cf)] [])
  (fun j=>j≤b.length) (fun j=>b.length - j) 0 (Nat.zero_le _) ?_ ?_
 ·refine zAf ?_ ?_ ?_<;>simp only [push_cast,seval,reduceCtorEq,cI]
  rfl
 intro j hj K6 hL6
 have hbs:=zDY (leftV a b p).2 x.ca j
 have hbn:zB0 (leftV a b p).2 x.ca (j+1)=if 0<(leftV a b p).2.getD j 0∧x.ca.getD j 0<far∧(zB0 (leftV a b p).2 x.ca j<0∨x.ca.getD j 0<x.ca.getD (zB0 (leftV a b p).2 x.ca j).toNat 0) then (j:Int) else zB0 (leftV a b p).2 x.ca j:=rfl
 have hbl : -1≤zB0 (leftV a b p).2 x.ca j∧zB0 (leftV a b p).2 x.ca j<b.length:=by
  rcases hbs with ⟨h,_⟩|⟨m,h,h',_⟩<;>omega
 repeat' (first|(refine goK (by assumption) ?_; iterate 4 (try clear hK K))|(refine zAb fun K hK=>?_)|((first|refine zAa hE rfl ?_|refine zAi ?_|((first|refine zAc hE 1 rfl rfl (by kernel_rfl) ?_|refine zAc hE 2 rfl rfl (by kernel_rfl) ?_|refine zAc hE 3 rfl rfl (by kernel_rfl) ?_|refine zAc hE 4 rfl rfl (by kernel_rfl) ?_); simp only [List.length_cons,List.length_nil,Nat.reduceAdd,Nat.reduceSub,List.take_succ_cons,List.take_zero,List.drop_succ_cons,List.drop_zero])); simp +contextual only [hnl,↓kA,push_cast,seval,reduceCtorEq,cI])|refine zAd ?_|((first|refine zAg ?_|refine zAj ?_); simp only [thenQ,zAh,if_true,if_false,Nat.reduceEqDiff,reduceCtorEq])|(refine zAe (by rfl) (fun hb=>?_) (fun hb=>?_)<;>(try simp only [bq,reduceCtorEq] at hb)<;>(try omega))|refine andS ?_|(refine ⟨fun hc=>?_,fun hc=>?_⟩)|fail)
 iterate 5
  ·refine hL6 _ (j+1) (by omega) (by omega) ?_
   refine zAf ?_ ?_ ?_<;>simp only [push_cast,seval,reduceCtorEq,cI]
   rw [hbn]
   first|rw [if_pos (by omega)]|rw [if_neg (by omega)]
 ·obtain rfl:j=b.length:=by omega
  have hbv:bestV a b c p<0:=by rw [hV0]; exact hb
  rw [hN0,hP0,if_pos hbv,if_pos hbv]
  exact ⟨⟨rfl,(decide_eq_false (by omega)).symm⟩,rfl⟩
 obtain rfl:j=b.length:=by omega
 have hbv:¬bestV a b c p<0:=by rw [hV0]; exact hb
 obtain ⟨m,hm,hbm⟩:∃ m:Nat,m<b.length∧bestV a b c p=m:=by
  rcases hbs with ⟨h,_⟩|⟨m,h,h',_⟩
  ·omega
  ·exact ⟨m,h,by rw [hV0,h']⟩
 rw [if_neg hbv,hbm] at hP0 hN0
 rw [Int.toNat_natCast] at hN0
 rw [←hV0,hbm]
 obtain ⟨p',hp'⟩:=Option.isSome_iff_exists.1 h6
 rw [hP0] at hp'
 clear hbs hbn hbl hL6
 refine zAk (fun y:Nat×Int×List (List Int)=>AS.of [(0,.one (.val (.sl .int) a)),(1,.one (.val (.sl .int) b)),(2,.one (.val (.sl (.sl .int)) c)),(3,.one (.ref 0)),(11,.one (.ref 1032)),(12,.one (.ref 37)),(13,.one (.ref 40)),(14,.one (.ref 43)),(15,.one (.ref 46)),(23,.I m),(26,.I y.2.1)]
  [(0,.deep 38 3 .int y.2.2),(37,.flat 3 .int x.ra),(40,.flat 3 .int x.rf),(43,.flat 3 .int x.ca),(46,.flat 3 .int x.cf)] [])
  (ChI x a.length b.length p') (fun y=>y.1) (a.length+b.length,(m:Int),p) ⟨by dsimp only; omega,Tb.mono h2.tab (by dsimp only; omega) (by dsimp only; omega),by dsimp only; omega,by dsimp only; omega,hp'⟩ ?_ ?_
 ·refine zAf ?_ ?_ ?_<;>simp only [push_cast,seval,reduceCtorEq,cI]
 intro y hI K7 hL7
 obtain ⟨n,j,q⟩:=y
 obtain ⟨i1,i2,i3,i4,i5⟩:=hI
 dsimp only at i1 i2 i3 i4 i5 ⊢
 have hql:=i2.rows
 by_cases hj0:0≤j
 ·obtain ⟨n,rfl,hfol⟩:=zQN hj0 i5
  obtain ⟨jn,rfl⟩:=Int.eq_ofNat_of_zero_le hj0
  have hc4:=hD.b4.at (i:=jn) (by omega)
  obtain ⟨i,hi⟩:=Int.eq_ofNat_of_zero_le hc4.1
  rw [hi] at hc4
  have hr2:=hD.b2.at (i:=i) (by omega)
  have hqi:=i2.cols i (by omega)
  have hqe:=i2.at' i jn (by omega) (by omega)
  have hq1:∀ r:List Int,(q.set i r).getD i []=r:=fun r=>by rw [getD_set,if_pos ⟨rfl,by omega⟩]
  have hq2:∀ r:List Int,(q.set i r).length=q.length:=fun r=>List.length_set
  have hq3:∀ v:Int,((q.getD i []).set jn v).length=(q.getD i []).length:=fun v=>List.length_set
  have hnx:zDI x.rf x.cf (jn:Int)=x.rf.getD i 0:=by
   unfold zDI
   rw [Int.toNat_natCast,hi,Int.toNat_natCast]
  rw [hnx] at hfol
  by_cases hr0:0≤x.rf.getD i 0
  ·obtain ⟨j2,hj2⟩:=Int.eq_ofNat_of_zero_le hr0
   have hst:zBX x.rf x.cf (jn:Int) q=Go.OT.addAt (Go.OT.addAt q i jn 1) i j2 (-1):=by
    unfold zBX
    dsimp only
    rw [Int.toNat_natCast,hi,Int.toNat_natCast,hj2,if_pos (by omega),Int.toNat_natCast]
   rw [hst,hj2] at hfol
   rw [hj2] at hr2 hr0
   have hAA:Go.OT.addAt (Go.OT.addAt q i jn 1) i j2 (-1)=(q.set i ((q.getD i []).set jn ((q.getD i []).getD jn 0+1))).set i (((q.getD i []).set jn ((q.getD i []).getD jn 0+1)).set j2 (((q.getD i []).set jn ((q.getD i []).getD jn 0+1)).getD j2 0 - 1)):=by
    unfold Go.OT.addAt
    rw [hq1]
    rfl
   have hq4 : -14≤((q.getD i []).set jn ((q.getD i []).getD jn 0+1)).getD j2 0∧((q.getD i []).set jn ((q.getD i []).getD jn 0+1)).getD j2 0≤214:=by
    have:=i2.at' i j2 (by omega) (by omega)
    rw [zBw (by omega)]
    split<;>omega
   have hI':ChI x a.length b.length p' (n,(j2:Int),Go.OT.addAt (Go.OT.addAt q i jn 1) i j2 (-1)):=⟨by dsimp only; omega,Tb.mono (Tb.addAt2 (d:=0) (e:=0) (i:=i) (j:=jn) (j':=j2) i2 (by omega) (by omega) (by omega)) (by dsimp only; omega) (by dsimp only; omega),by dsimp only; omega,by dsimp only; omega,hfol⟩
   replace hnl:=And.intro hnl (And.intro hi (And.intro hj2 (And.intro hq1 (And.intro hq2 hq3))))
   repeat' (first|(refine goK (by assumption) ?_; iterate 4 (try clear hK K))|(refine zAb fun K hK=>?_)|(refine zAa hE rfl ?_; simp +contextual only [hnl,↓kA,push_cast,seval,reduceCtorEq,cI])|refine zAd ?_|(refine zAg ?_; simp only [thenQ,zAh,if_true,if_false,Nat.reduceEqDiff,reduceCtorEq])|(refine zAe (by rfl) (fun hb=>?_) (fun hb=>?_)<;>(try simp only [bq,reduceCtorEq] at hb)<;>(try omega))|refine andS ?_|fail)
   refine hL7 _ _ hI' (Nat.lt_succ_self n) ?_
   refine zAf ?_ ?_ ?_<;>simp only [push_cast,seval,reduceCtorEq,cI]
   rw [hAA]
   exact .inl rfl
  ·have hst:zBX x.rf x.cf (jn:Int) q=Go.OT.addAt q i jn 1:=by
    unfold zBX
    dsimp only
    rw [Int.toNat_natCast,hi,Int.toNat_natCast,if_neg hr0]
   rw [hst] at hfol
   have hI':ChI x a.length b.length p' (n,x.rf.getD i 0,Go.OT.addAt q i jn 1):=⟨by dsimp only; omega,Tb.mono (Tb.addAt (d:=1) (i:=i) (j:=jn) i2 (by omega) (by omega) (by omega)) (by dsimp only; omega) (by dsimp only; omega),by dsimp only; omega,by dsimp only; omega,hfol⟩
   replace hnl:=And.intro hnl (And.intro hi (And.intro hq1 (And.intro hq2 hq3)))
   repeat' (first|(refine goK (by assumption) ?_; iterate 4 (try clear hK K))|(refine zAb fun K hK=>?_)|(refine zAa hE rfl ?_; simp +contextual only [hnl,↓kA,push_cast,seval,reduceCtorEq,cI])|refine zAd ?_|(refine zAg ?_; simp only [thenQ,zAh,if_true,if_false,Nat.reduceEqDiff,reduceCtorEq])|(refine zAe (by rfl) (fun hb=>?_) (fun hb=>?_)<;>(try simp only [bq,reduceCtorEq] at hb)<;>(try omega))|refine andS ?_|fail)
   refine hL7 _ _ hI' (Nat.lt_succ_self n) ?_
   refine zAf ?_ ?_ ?_<;>simp only [push_cast,seval,reduceCtorEq,cI]
   exact .inl rfl
 ·rw [zJW _ _ (by omega)] at i5
  repeat' (first|(refine goK (by assumption) ?_; iterate 4 (try clear hK K))|(refine zAb fun K hK=>?_)|((first|refine zAa hE rfl ?_|refine zAi ?_); simp +contextual only [hnl,↓kA,push_cast,seval,reduceCtorEq,cI])|(refine zAj ?_; simp only [thenQ,zAh,if_true,if_false,Nat.reduceEqDiff,reduceCtorEq])|(refine zAe (by rfl) (fun hb=>?_) (fun hb=>?_)<;>(try simp only [bq,reduceCtorEq] at hb)<;>(try omega))|refine andS ?_|fail)
  rw [hN0,hP0,hp',Option.getD_some,←Option.some.inj i5,hbm]
  exact ⟨⟨rfl,(decide_eq_true (by omega)).symm⟩,rfl⟩
end Go.Proofs.YtekfodeknpnkbaaGreatDoor
namespace Go.Proofs.YtekfodeknpnkbaaGreatDoor
open Go.RowKit Go.VS
def tbl {α:Type} (n:Nat) (f:Nat→α):List α:=(List.range n).map f
theorem zAZ {α:Type} (n:Nat) (f:Nat→α):(tbl n f).length=n:=by simp [tbl]
theorem zBu {α:Type} {n i:Nat} (f:Nat→α) (d:α) (h:i<n):(tbl n f).getD i d=f i:=by simp [tbl,List.getD_eq_getElem?_getD,h]
theorem zAD {α:Type} {n:Nat} {f g:Nat→α} (h:∀ i,i<n→f i=g i):tbl n f=tbl n g:=List.map_congr_left fun i hi=>h i (List.mem_range.1 hi)
theorem zD9 {α:Type} (n:Nat) (f:Nat→α):tbl (n+1) f=tbl n f++[f n]:=by simp [tbl,List.range_succ]
theorem zFz {α:Type} {n i:Nat} (f:Nat→α) (v:α):(tbl n f).set i v=tbl n (fun j=>if j=i then v else f j):=by
 apply List.ext_getElem?
 intro j
 rw [List.getElem?_set]
 simp only [tbl,List.length_map,List.length_range,List.getElem?_map]
 by_cases hj:j<n
 ·by_cases h:i=j
  ·subst h; simp [hj]
  ·have h':¬j=i:=fun e=>h e.symm
   simp [h,h',hj]
 ·have:(List.range n)[j]?=none:=by simp; omega
  by_cases h:i=j
  ·subst h; simp [hj]
  ·simp [h,hj]
@[push_cast] def zPy:Con:=⟨[.dat (.sl .int),.dat (.sl .int)],fun _=>True,fun (x:List Int×List Int×Unit)=>{res:=[.val .bool (decide (x.1=x.2.1))]}⟩
theorem zG8:FnSpec Tryz.prog 83 zPy:=by
 refine FnSpec.of_tri' (E:=know [] [] [] []) (zAl all_nil all_nil all_nil) Tryz.func83 rfl rfl (by kernel_rfl) ?_
 intro C x hE hnl hfit hpre
 simp only [Tryz.ntmps83,Tryz.results83,maxLen,seval,push_cast] at hnl hfit hpre ⊢
 obtain ⟨(a:List Int),(b:List Int),_⟩:=x
 dsimp only at hfit hpre ⊢
 repeat' (first|(refine goK (by assumption) ?_; iterate 4 (try clear hK K))|(refine zAb fun K hK=>?_)|((first|refine zAa hE rfl ?_|refine zAi ?_); simp +contextual only [hnl,↓kA,push_cast,seval,reduceCtorEq,cI])|refine zAd ?_|(refine zAg ?_; simp only [thenQ,zAh,if_true,if_false,Nat.reduceEqDiff,reduceCtorEq])|(refine zAe (by rfl) (fun hb=>?_) (fun hb=>?_)<;>(try simp only [bq,reduceCtorEq] at hb)<;>(try omega))|fail)
 ·exact (decide_eq_false fun e=>hb (by rw [e])).symm
 have hlen:=hb; clear hb
 refine zAk (fun k:Nat=>AS.of [(0,.one (.val (.sl .int) a)),(1,.one (.val (.sl .int) b)),(12,.I a.length),(13,.I k)] [] []) (fun k=>k≤a.length∧∀ j,j<k→a.getD j 0=b.getD j 0) (fun k=>a.length - k) 0 ⟨Nat.zero_le _,by omega⟩ ?_ ?_
 ·refine zAf ?_ ?_ ?_<;>simp only [push_cast,seval,reduceCtorEq,cI]
 intro k ⟨hk,hj⟩ K' hL
 repeat' (first|(refine goK (by assumption) ?_; iterate 4 (try clear hK K))|(refine zAb fun K hK=>?_)|((first|refine zAa hE rfl ?_|refine zAi ?_|((first|refine zAc hE 1 rfl rfl (by kernel_rfl) ?_|refine zAc hE 2 rfl rfl (by kernel_rfl) ?_|refine zAc hE 3 rfl rfl (by kernel_rfl) ?_|refine zAc hE 4 rfl rfl (by kernel_rfl) ?_); simp only [List.length_cons,List.length_nil,Nat.reduceAdd,Nat.reduceSub,List.take_succ_cons,List.take_zero,List.drop_succ_cons,List.drop_zero])); simp +contextual only [hnl,↓kA,push_cast,seval,reduceCtorEq,cI])|refine zAd ?_|((first|refine zAg ?_|refine zAj ?_); simp only [thenQ,zAh,if_true,if_false,Nat.reduceEqDiff,reduceCtorEq])|(refine zAe (by rfl) (fun hb=>?_) (fun hb=>?_)<;>(try simp only [bq,reduceCtorEq] at hb)<;>(try omega))|refine andS ?_|fail)
 ·exact (decide_eq_false (zDC 0 hb)).symm
 ·refine hL _ (k+1) ⟨by omega,fun j hj'=>?_⟩ (by omega) ?_
  ·rcases Nat.lt_or_ge j k with h3|h3
   ·exact hj j h3
   ·have:j=k:=by omega
    subst this
    exact hb
  refine zAf ?_ ?_ ?_<;>simp only [push_cast,seval,reduceCtorEq,cI]
 ·exact (decide_eq_true (zDA 0 (by omega) fun j hj'=>hj j (by omega))).symm
end Go.Proofs.YtekfodeknpnkbaaGreatDoor
namespace Go.Proofs.YtekfodeknpnkbaaGreatDoor
open Go.RowKit Go.VS
theorem zTi {n lo hi:Int} {l:List Int} (h:InL n lo hi l):∀ j,j<l.length→lo≤l.getD j 0∧l.getD j 0≤hi:=fun j hj=>h.2 _ (zAJ 0 hj)
section
variable {c:List (List Int)} {ps:List Int}
end
end Go.Proofs.YtekfodeknpnkbaaGreatDoor
namespace Go.Proofs.YtekfodeknpnkbaaGreatDoor
open Go.RowKit Go.VS
end Go.Proofs.YtekfodeknpnkbaaGreatDoor
namespace Go.Proofs.YtekfodeknpnkbaaGreatDoor
open Go.RowKit Go.VS
abbrev Pr:=Int×Int
def toP (l:List Pr) (i:Nat):Pr:=l.getD i (0,0)
end Go.Proofs.YtekfodeknpnkbaaGreatDoor
namespace Go.Proofs.YtekfodeknpnkbaaGreatDoor
open Go.RowKit Go.VS
structure InT (c:List (List Int)) (x:Pr):Prop where
 r0:0≤x.1
 r1:x.1<c.length
 c0:0≤x.2
 c1:x.2<wid c
theorem inT_iff {c:List (List Int)} {x:Pr}:InT c x↔(0≤x.1∧x.1<c.length∧0≤x.2∧x.2<wid c):=⟨fun ⟨a,b,c,d⟩=>⟨a,b,c,d⟩,fun ⟨a,b,c,d⟩=>⟨a,b,c,d⟩⟩
instance (c:List (List Int)) (x:Pr):Decidable (InT c x):=decidable_of_iff _ inT_iff.symm
def lexLt (x y:Pr):Prop:=x.1<y.1∨x.1=y.1∧x.2<y.2
instance (x y:Pr):Decidable (lexLt x y):=by unfold lexLt; infer_instance
structure Lnk (c:List (List Int)) (l:List Pr):Prop where
 at':∀ i,i<l.length→InT c (toP l i)
 inc:∀ i,i+1<l.length→lexLt (toP l i) (toP l (i+1))
theorem lnk_iff {c:List (List Int)} {l:List Pr}:Lnk c l↔((∀ i,i<l.length→InT c (toP l i))∧∀ i,i<l.length - 1→lexLt (toP l i) (toP l (i+1))) :=
 ⟨fun ⟨a,b⟩=>⟨a,fun i hi=>b i (by omega)⟩,fun ⟨a,b⟩=>⟨a,fun i hi=>b i (by omega)⟩⟩
instance (c:List (List Int)) (l:List Pr):Decidable (Lnk c l):=decidable_of_iff _ lnk_iff.symm
structure LnkK (c:List (List Int)) (l:List Pr) (k:Nat):Prop where
 at':∀ i,i<k→InT c (toP l i)
 inc:∀ i,i+1<k→lexLt (toP l i) (toP l (i+1))
theorem LnkK.all {c:List (List Int)} {l:List Pr} (h:LnkK c l l.length):Lnk c l:=⟨h.at',h.inc⟩
theorem LnkK.step {c:List (List Int)} {l:List Pr} {k:Nat} (h:LnkK c l k) (h1:InT c (toP l k)) (h2:0<k→lexLt (toP l (k - 1)) (toP l k)):LnkK c l (k+1):=by
 refine ⟨fun i hi=>?_,fun i hi=>?_⟩
 ·rcases Nat.lt_or_ge i k with h3|h3
  ·exact h.at' i h3
  ·obtain rfl:i=k:=by omega
   exact h1
 ·rcases Nat.lt_or_ge (i+1) k with h3|h3
  ·exact h.inc i h3
  ·obtain rfl:k=i+1:=by omega
   exact h2 (by omega)
end Go.Proofs.YtekfodeknpnkbaaGreatDoor
namespace Go.Proofs.YtekfodeknpnkbaaGreatDoor
open Go.RowKit Go.VS
end Go.Proofs.YtekfodeknpnkbaaGreatDoor
namespace Go.Proofs.YtekfodeknpnkbaaGreatDoor
open Go.RowKit Go.VS
section
variable {c:List (List Int)} {l r:List Pr}
end
end Go.Proofs.YtekfodeknpnkbaaGreatDoor
namespace Go.Proofs.YtekfodeknpnkbaaGreatDoor
open Go.RowKit Go.VS
theorem zKf {a:List Int} (h:zB3 a=true):(1≤a.length∧a.length≤6)∧Go.OT.Bnd 0 200 a :=
 ⟨by have:=zKg h; omega,fun x hx=>by have:=zHg h x hx; omega⟩
theorem ForOK.mc {a b:List Int} {c:List (List Int)} (h:ForOK a b c):Go.OT.MC a b c:=by
 have h1:=zKf h.ha
 have h2:=zKf h.hb
 have h3:=h.hc.tb (lo':=0) (hi':=99) (by omega) (by omega)
 rw [h.rows,h.cols] at h3
 exact ⟨h1.1,h2.1,h1.2,h2.2,h3⟩
def zPR (a b:List Int) (c:List (List Int)):Int:=if zFb a b c=0 then spend c (Go.OT.cheapV a b c) else 0
theorem zVY {a b:List Int} {c:List (List Int)} (h:zFb a b c=0):zPR a b c=spend c (Go.OT.cheapV a b c):=if_pos h
end Go.Proofs.YtekfodeknpnkbaaGreatDoor
namespace Go.Proofs.YtekfodeknpnkbaaGreatDoor
open Go.RowKit Go.VS
def ArePr (c:List (List Int)) (p:zA3):Prop:=InL c.length (-1000) 1000 p.1∧InL (wid c) (-1000) 1000 p.2
instance (c:List (List Int)) (p:zA3):Decidable (ArePr c p):=by unfold ArePr; infer_instance
section
variable {c:List (List Int)} {p:zA3}
theorem ArePr.row (h:ArePr c p):p.1.length=c.length∧∀ i,i<p.1.length → -1000≤p.1.getD i 0∧p.1.getD i 0≤1000:=⟨by have:=h.1.1; omega,zTi h.1⟩
theorem ArePr.col (h:ArePr c p):p.2.length=wid c∧∀ i,i<p.2.length → -1000≤p.2.getD i 0∧p.2.getD i 0≤1000:=⟨by have:=h.2.1; omega,zTi h.2⟩
end
end Go.Proofs.YtekfodeknpnkbaaGreatDoor
namespace Go.Proofs.YtekfodeknpnkbaaGreatDoor
open Go.RowKit Go.VS Go.OT
def zDh (a b:List Int) (p:zA3):Int:=dotK a p.1 a.length+dotK b p.2 b.length
section
variable {a b:List Int} {c:List (List Int)} {p:zA3}
end
end Go.Proofs.YtekfodeknpnkbaaGreatDoor
namespace Go.Proofs.YtekfodeknpnkbaaGreatDoor
open Go.RowKit Go.VS
def Small (p:List (List Int)):Prop:=p.length≤1000∧∀ r∈p,r.length≤1000
theorem Small.row {p:List (List Int)} (h:Small p) {i:Nat} (hi:i<p.length):(p.getD i []).length≤1000:=h.2 _ (zAJ [] hi)
end Go.Proofs.YtekfodeknpnkbaaGreatDoor
namespace Go.Proofs.YtekfodeknpnkbaaGreatDoor
open Go.RowKit Go.VS
theorem zLi (n:Nat) (hn:n≤1000):bits .and .u64 (n:Int) 4294967295=n:=by
 have:=bits_and_u64_nat n 4294967295 (by omega) (by omega)
 rw [show ((4294967295:Nat):Int)=4294967295 from rfl] at this
 rw [this,show (4294967295:Nat)=2 ^ 32 - 1 from rfl,Nat.and_two_pow_sub_one_eq_mod,Nat.mod_eq_of_lt (by omega)]
theorem zTS (n:Nat) (hn:n≤1000) (w:World):Calls Tryz.prog 175 #[.int .u64 1,.int .u64 n] w fun e w'=>e=.returned (.tuple #[.int .u64 0,.int .u64 n])∧w'=w:=by
 have a1:bits .and .u64 1 4294967295=1:=zLi 1 (by omega)
 have a0:bits .and .u64 0 4294967295=0:=zLi 0 (by omega)
 have an:=zLi n hn
 have w0:IntKind.u64.wrap 0=0:=by decide
 have wn:IntKind.u64.wrap (n:Int)=n:=IntWalk.u64_in _ (by omega)
 have d1:(n:Int) / 4294967296=0:=by omega
 go_enter Tryz.func175,Tryz.ntmps175
 go_wp2
 simp [bodyPost,results,Tryz.results175,go_sem,a1,a0,an,w0,wn,d1]
theorem mul_one (n:Nat) (hn:n≤1000) (w:World):Calls Tryz.prog 137 #[.int .u64 1,.int .u64 n] w fun e w'=>e=.returned (.tuple #[.int .u64 0,.int .u64 n])∧w'=w:=by
 go_enter Tryz.func137,Tryz.ntmps137
 go_wp2_with (go_at_call 175; refine (zTS n hn _).mono ?_; rintro e w' ⟨rfl,rfl⟩)
 simp [bodyPost,results,Tryz.results137,go_sem]
set_option maxRecDepth 20000 in
theorem zHS (v:Int) (n:Nat) (hn:n≤1000) (w:World) (b off cap:Nat) (hx:w.cell? ⟨b,off,none⟩=some (.int .i64 v)) (hlt:b<w.heap.size) :
 Calls Tryz.prog 93 #[.slice (some ⟨b,off,none⟩) 1 cap,.int .i64 n] w fun e w' =>
  e=.returned (.slice (some ⟨w.heap.size,0,none⟩) n n)∧w'.heap[w.heap.size]?=some (.cells (List.replicate n (.int .i64 v)).toArray 3 (0,0))∧Below w.heap.size w w':=by
 have wn:IntKind.u64.wrap (n:Int)=n:=IntWalk.u64_in _ (by omega)
 have wi:IntKind.i64.wrap (n:Int)=n:=IntWalk.i64_in _ (by omega)
 have w1:IntKind.u64.wrap 1=1:=by decide
 have hmk:∀ w:World,(Instr.makeSlice 38 (.int .i64 n) (.int .i64 n)).run Tryz.prog w=.ok (.slice (some ⟨w.heap.size,0,none⟩) n n) (w.alloc (.cells (List.replicate n (Value.int .i64 0)).toArray 3)):=fun w=>by
  obtain ⟨i,z,hi,hs,hby,hz,hzc⟩:=tabOK.lang.info 3 .int shI
  have h1:=Nat.mul_le_mul hn hby
  have h2:((n*i.bytes:Nat):Int)≤1024000:=by omega
  rw [Int.natCast_mul] at h2
  have h3:(i.bytes:Int)*(n:Int)≤281474976710656:=by rw [Int.mul_comm]; omega
  have h4:=run_makeSlice (P:=Tryz.prog) (w:=w) 38 3 i z Tryz.underlying38 hi hz .i64 .i64 n n (by omega) (by omega) (by rw [Int.toNat_natCast,show i.size=1 from hs]; omega) h3 (by omega)
  rw [Int.toNat_natCast,show i.size=1 from hs,Nat.mul_one] at h4
  rw [h4]
  have hz':z.cells.toList=[Value.int .i64 0]:=hzc
  have h5:=zFo (sh:=.int) z.cells hz' (by decide) n
  have h6:(List.replicate n (Sh.int).zero).flatMap (Sh.int).cells=List.replicate n (Value.int .i64 0):=by rw [List.flatMap_replicate]; simp [Sh.cells,Sh.zero]
  rw [h6,show (Sh.int).size=1 from rfl,Nat.mul_one] at h5
  rw [show madeCells z.cells n=(List.replicate n (Value.int .i64 0)).toArray from by rw [←Array.toList_inj,h5]]
 go_enter Tryz.func93,Tryz.ntmps93
 have hsz:(Tryz.prog.info? 3).map (·.size)=some 1:=by
  obtain ⟨i,z,hi,hs,_⟩:=tabOK.lang.info 3 .int shI
  rw [hi]
  exact congrArg some hs
 obtain ⟨W,hW⟩:∃ W,W=w.alloc (.cells (List.replicate n (Value.int .i64 0)).toArray 3):=⟨_,rfl⟩
 have hWg:W.heap[w.heap.size]?=some (.cells (List.replicate n (Value.int .i64 0)).toArray 3 (0,0)):=by rw [hW]; simp only [World.alloc,Array.getElem?_push,if_true]
 have hWb:Below w.heap.size w W:=by rw [hW]; exact (Below.refl _ _).alloc (Nat.le_refl _) _
 have hWx:W.cell? ⟨b,off,none⟩=some (.int .i64 v):=by
  rw [←hx]
  exact World.cell?_of_block (hWb.block b hlt)
 have hWz:W.heap.size=w.heap.size+1:=by rw [hW]; simp only [World.alloc,Array.size_push]
 replace hmk:=hmk w
 rw [←hW] at hmk
 clear hW
 go_wp2_with (first|(go_at_call 137; refine (mul_one n hn _).mono ?_; rintro e w' ⟨rfl,hw'⟩; rw [hw']; clear hw')|(show wpList _ _ _ (⟨some 33,_,_,_,_,_⟩::_) _ _; go_loud (refine wpList_copy_splice rfl _ _ _ _ rfl 3 Tryz.underlying38 hsz _ _ _ _ _ _ rfl rfl w.heap.size 0 (List.replicate n (Value.int .i64 0)) 3 hWg (List.replicate (Nat.min 1 n) (.int .i64 v)) ?c1 ?c2 ?c3 ?c4 w.heap.size w hWb (Nat.le_refl _) ?_)))
 case c1=>simp
 case c2 =>
  intro _ j u hj
  have hj':=(List.getElem?_eq_some_iff.1 hj).1
  rw [List.length_replicate] at hj'
  have hm1:Nat.min 1 n≤1:=Nat.min_le_left _ _
  obtain rfl:j=0:=by omega
  have:u=.int .i64 v:=by simpa using (List.mem_replicate.1 (List.mem_of_getElem? hj)).2
  rw [this]
  exact hWx
 case c3 =>
  rw [List.length_replicate,List.length_replicate,Nat.zero_add]
  exact Nat.min_le_right _ _
 case c4 =>
  intro u hu
  rw [(List.mem_replicate.1 hu).2]
  rfl
 ·intro w1 hc1 hb1
  go_wp2
  go_loopw [8] (fun y wr=>∃ m:Nat,m≤n∧(m=0→n=0)∧y=.int .i64 m∧wr.heap[w.heap.size]?=some (.cells (List.replicate m (Value.int .i64 v)++List.replicate (n - m) (Value.int .i64 0)).toArray 3 (0,0))∧Below w.heap.size w wr) (fun y _=>n - (intOf y).toNat)
  case atStart =>
   have hc1':w1.heap[w.heap.size]?=some (.cells (splice (List.replicate n (Value.int .i64 0)) 0 (List.replicate (Nat.min 1 n) (Value.int .i64 v))).toArray 3 (0,0)):=hc1
   have hm1:Nat.min 1 n≤1:=Nat.min_le_left _ _
   have hm2:Nat.min 1 n≤n:=Nat.min_le_right _ _
   refine ⟨Nat.min 1 n,hm2,fun h=>?_,rfl,?_,hb1⟩
   ·rcases Nat.eq_zero_or_pos n with h0|h0
    ·exact h0
    ·rw [show Nat.min 1 n=1 from Nat.min_eq_left h0] at h
     omega
   ·rw [hc1']
    congr 2
    simp [splice]
  case round =>
   obtain ⟨m,hm,hm0,rfl,hcm,hbm⟩:=hrel
   rcases Nat.lt_or_ge m n with hmn|hmn
   ·have hcp:=run_copy_row (P:=Tryz.prog) wr.drew 38 38 3 3 w.heap.size m (n - m) (n - m) ⟨w.heap.size,0,none⟩ m n (List.replicate m (Value.int .i64 v)++List.replicate (n - m) (Value.int .i64 0)).toArray 3 (List.replicate (Nat.min m (n - m)) (Value.int .i64 v)) Tryz.underlying38 hsz hcm
    obtain ⟨k,hk⟩:∃ k,k=Nat.min m (n - m):=⟨_,rfl⟩
    have hk1:k≤m:=by rw [hk]; exact Nat.min_le_left _ _
    have hk2:k≤n - m:=by rw [hk]; exact Nat.min_le_right _ _
    have hk0:0<k:=by
     rw [hk]
     exact Nat.lt_min.2 ⟨by omega,by omega⟩
    rw [←hk] at hcp
    replace hcp:=hcp (by simp) (fun j u hj=>by
     have hj':=(List.getElem?_eq_some_iff.1 hj).1
     rw [List.length_replicate] at hj'
     have hu:u=.int .i64 v:=(List.mem_replicate.1 (List.mem_of_getElem? hj)).2
     rw [hu]
     rw [Addr.add_lit]
     have hcm':wr.drew.heap[w.heap.size]?=some (.cells (List.replicate m (Value.int .i64 v)++List.replicate (n - m) (Value.int .i64 0)).toArray 3 (0,0)):=hcm
     simp [World.cell?,hcm',List.getElem?_append_left,show j<m by omega,List.getElem?_replicate]) (by simp; omega) (fun u hu=>by rw [(List.mem_replicate.1 hu).2]; rfl)
    obtain ⟨W2,hW2⟩:∃ W2,W2=wr.drew.setRow w.heap.size (((List.replicate m (Value.int .i64 v)++List.replicate (n - m) (Value.int .i64 0)).toArray.toList.take m++List.replicate k (Value.int .i64 v)++(List.replicate m (Value.int .i64 v)++List.replicate (n - m) (Value.int .i64 0)).toArray.toList.drop (m+(List.replicate k (Value.int .i64 v)).length)).toArray):=⟨_,rfl⟩
    rw [←hW2] at hcp
    have hc2:W2.heap[w.heap.size]?=some (.cells (List.replicate (m+k) (Value.int .i64 v)++List.replicate (n - (m+k)) (Value.int .i64 0)).toArray 3 (0,0)):=by
     rw [hW2,setRow_heap wr.drew w.heap.size _ _ 3 _ hcm]
     congr 3
     rw [List.toList_toArray,List.length_replicate,List.take_append_of_le_length (by simp),List.take_of_length_le (by simp),List.drop_append,List.drop_eq_nil_of_le (by simp),List.length_replicate,List.drop_replicate,List.nil_append,List.replicate_append_replicate]
     congr 2
     omega
    have hb2:Below w.heap.size w W2:=by rw [hW2]; exact below_setRow hbm.drew (Nat.le_refl _) _
    have hlen:(List.replicate k (Value.int .i64 v)).length=k:=List.length_replicate
    rw [hlen] at hcp
    clear hW2 hc1 hk
    have hne:¬n=m:=by omega
    have wk:IntKind.i64.wrap ((m:Int)+(k:Int))=((m+k:Nat):Int):=by rw [show (m:Int)+(k:Int)=((m+k:Nat):Int) by omega]; exact IntWalk.i64_in _ (by omega)
    have hmn':(m:Int)<(n:Int):=by omega
    have hmn2:(m:Int)≤(n:Int):=by omega
    go_wp2
    go_region
    go_wp2
    go_roundw
    case rel=>exact ⟨m+k,by omega,by omega,rfl,hc2,hb2⟩
    case measure =>
     show n - (((m+k:Nat):Int)).toNat<n - ((m:Int)).toNat
     omega
   ·obtain rfl:m=n:=by omega
    go_wp2
    simp [bodyPost,results,Tryz.results93,go_sem]
    exact ⟨by simpa using hcm,hbm⟩
end Go.Proofs.YtekfodeknpnkbaaGreatDoor
namespace Go.Proofs.YtekfodeknpnkbaaGreatDoor
open Go.RowKit Go.VS
def sumK (n:Int) (t:ByteArray):Nat→Int
 | 0=>((n.tmod 1000003)+1000003).tmod 1000003
 | k+1=>(sumK n t k*257+((t.data.toList.getD k 0).toNat:Int)+1).tmod 1000003
def sumV (n:Int) (t:ByteArray):Int:=sumK n t t.size
theorem zKz {x:Int} (h:0≤x):0≤x.tmod 1000003∧x.tmod 1000003≤1000002:=by
 rw [Int.tmod_eq_emod_of_nonneg h]
 omega
theorem zLF (x:Int) : -1000002≤x.tmod 1000003∧x.tmod 1000003≤1000002:=by
 have h1:=Int.lt_tmod_of_pos x (show (0:Int)<1000003 by omega)
 have h2:=Int.tmod_lt_of_pos x (show (0:Int)<1000003 by omega)
 omega
theorem zCi (n:Int) (t:ByteArray):∀ k,0≤sumK n t k∧sumK n t k≤1000002
 | 0=>zKz (by have:=zLF n; omega)
 | k+1=>by
  have:=zCi n t k
  exact zKz (by omega)
theorem zQy (t:ByteArray):(zGu t).length=t.size:=by
 unfold zGu
 rw [List.length_map,Array.length_toList]; rfl
theorem zQx {t:ByteArray} {k:Nat} (h:k<t.size):(zGu t).getD k 0=(t.data.toList.getD k 0).toNat:=by
 have h':k<t.data.toList.length:=by rw [Array.length_toList]; exact h
 unfold zGu
 rw [List.getD_eq_getElem?_getD,List.getElem?_map,List.getElem?_eq_getElem h',List.getD_eq_getElem?_getD,List.getElem?_eq_getElem h']
 rfl
@[push_cast] def zUN:Con:=⟨[.dat .int,.dat .str],fun (x:Int×ByteArray×Unit)=>x.2.1.size≤1000000,fun (x:Int×ByteArray×Unit)=>{res:=[.val .int (sumV x.1 x.2.1)]}⟩
theorem zFJ:FnSpec Tryz.prog 40 zUN:=by
 refine FnSpec.of_tri' (E:=know [] [] [] []) (zAl all_nil all_nil all_nil) Tryz.func40 rfl rfl (by kernel_rfl) ?_
 intro C x hE hnl hfit hpre
 simp only [Tryz.ntmps40,Tryz.results40,maxLen,seval,push_cast] at hnl hfit hpre ⊢
 obtain ⟨(n:Int),(t:ByteArray),_⟩:=x
 dsimp only at hfit hpre ⊢
 have h0:=zLF n
 have hbl:=zQy t
 replace hnl:=And.intro hnl hbl
 repeat' (first|(refine goK (by assumption) ?_; iterate 4 (try clear hK K))|(refine zAb fun K hK=>?_)|(refine zAa hE rfl ?_; simp +contextual only [hnl,↓kA,push_cast,seval,reduceCtorEq])|refine zAd ?_|refine andS ?_|fail)
 refine zAk (fun k:Nat=>AS.of [(5,.I (sumK n t k)),(13,.one (.val (.sl .byte) (zGu t))),(14,.I t.size),(15,.I k)] [] []) (fun k=>k≤t.size) (fun k=>t.size - k) 0 (Nat.zero_le _) ?_ ?_
 ·refine zAf ?_ ?_ ?_<;>simp only [push_cast,seval,reduceCtorEq]
  rfl
 intro k hk K' hL
 have hb1:=zCi n t k
 have hb2:((t.data.toList.getD k 0).toNat:Int)≤255:=by have:=(t.data.toList.getD k 0).toNat_lt; omega
 rcases Nat.lt_or_ge k t.size with hkt|hkt
 ·replace hnl:=And.intro hnl (zQx hkt)
  repeat' (first|(refine goK (by assumption) ?_; iterate 4 (try clear hK K))|(refine zAb fun K hK=>?_)|(refine zAa hE rfl ?_; simp +contextual only [hnl,↓kA,push_cast,seval,reduceCtorEq])|refine zAd ?_|(refine zAg ?_; simp only [thenQ,zAh,if_true,if_false,Nat.reduceEqDiff,reduceCtorEq])|(refine zAe (by rfl) (fun hb=>?_) (fun hb=>?_)<;>(try simp only [bq,reduceCtorEq] at hb)<;>(try omega))|refine andS ?_|fail)
  refine hL _ (k+1) (by omega) (by omega) ?_
  refine zAf ?_ ?_ ?_<;>simp only [push_cast,seval,reduceCtorEq]
  rfl
 ·obtain rfl:k=t.size:=by omega
  repeat' (first|(refine goK (by assumption) ?_; iterate 4 (try clear hK K))|(refine zAb fun K hK=>?_)|((first|refine zAa hE rfl ?_|refine zAi ?_); simp +contextual only [hnl,↓kA,push_cast,seval,reduceCtorEq])|(refine zAj ?_; simp only [thenQ,zAh,if_true,if_false,Nat.reduceEqDiff,reduceCtorEq])|(refine zAe (by rfl) (fun hb=>?_) (fun hb=>?_)<;>(try simp only [bq,reduceCtorEq] at hb)<;>(try omega))|fail)
  rfl
end Go.Proofs.YtekfodeknpnkbaaGreatDoor
