import Derived.Test.YtekfodeknpnkbaaGreatDoorT7
import Derived.Tactics2
import Derived.Carry
import Derived.ChangeMaps5
import Derived.MapKept
set_option linter.unusedSimpArgs false
set_option linter.unusedVariables false
namespace Go.Proofs.YtekfodeknpnkbaaGreatDoor
open Go.RowKit Go.VS Go.OT
theorem zBs (l:List Int):lsum l=sumL l:=by
 have key:∀ k,k≤l.length→lsum (l.take k)=sg k (ga l):=by
  intro k
  induction k with
  | zero=>intro _; simp [lsum,sg]
  | succ k ih =>
   intro hk
   rw [zBH l k (by omega),ih (by omega)]
   rfl
 have:=key l.length (Nat.le_refl _)
 rwa [List.take_length] at this
def errW (w:Int):Int:=if 0≤w∧w≤99 then 0 else 1
def errWd (a b:List Int) (c:List (List Int)) (w:Int):Int:=if zDl a b c=0 then errW w else zDl a b c
theorem yAn (a b:List Int) (c:List (List Int)) (w:Int):orV [zDl a b c,errW w]=errWd a b c w:=by
 unfold errWd
 simp only [zEP,zIX]
 split
 ·split
  ·rename_i h; exact h.symm
  ·rfl
 ·rfl
theorem zBE {a b:List Int} {c:List (List Int)} {w:Int} (h:errWd a b c w=0):ForOK a b c∧0≤w∧w≤99:=by
 unfold errWd at h
 split at h
 ·rename_i h1
  refine ⟨zS7 h1,?_⟩
  unfold errW at h
  split at h
  ·assumption
  ·omega
 ·rename_i h1; exact absurd h h1
theorem zEN:FnSpec Tryz.prog 117 zLG:=by
 refine FnSpec.of_tri' (E:=know [] [] [] []) (zAl all_nil all_nil all_nil) Tryz.func117 rfl rfl (by kernel_rfl) ?_
 intro C x hE hnl hfit hpre
 simp only [Tryz.ntmps117,Tryz.results117,maxLen,seval,push_cast] at hnl hfit hpre ⊢
 obtain ⟨(l:List Int),_⟩:=x
 dsimp only at hfit hpre ⊢
 repeat' (first|(refine goK (by assumption) ?_; iterate 4 (try clear hK K))|(refine zAb fun K hK=>?_)|(refine zAa hE rfl ?_; simp +contextual only [hnl,↓kA,push_cast,seval,reduceCtorEq,cI])|refine zAd ?_|fail)
 refine zAk (fun k:Nat=>AS.of [(0,.one (.val (.sl .int) l)),(3,.I (lsum (l.take k))),(6,.one (.val (.sl .int) l)),(7,.I l.length),(8,.I k)] [] []) (fun k=>k≤l.length) (fun k=>l.length - k) 0 (Nat.zero_le _) ?_ ?_
 ·refine zAf ?_ ?_ ?_<;>simp only [push_cast,seval,reduceCtorEq,cI]
  simp [lsum]
 intro k hk K' hL
 repeat' (first|(refine goK (by assumption) ?_; iterate 4 (try clear hK K))|(refine zAb fun K hK=>?_)|((first|refine zAa hE rfl ?_|refine zAi ?_); simp +contextual only [hnl,↓kA,push_cast,seval,reduceCtorEq,cI])|refine zAd ?_|((first|refine zAg ?_|refine zAj ?_); simp only [thenQ,zAh,if_true,if_false,Nat.reduceEqDiff,reduceCtorEq])|(refine zAe (by rfl) (fun hb=>?_) (fun hb=>?_)<;>(try simp only [bq,reduceCtorEq] at hb)<;>(try omega))|refine andS ?_|fail)
 ·refine ⟨by rw [←zBH l k (by omega)]; exact hpre _,?_⟩
  repeat' (first|(refine goK (by assumption) ?_; iterate 4 (try clear hK K))|(refine zAa hE rfl ?_; simp +contextual only [hnl,↓kA,push_cast,seval,reduceCtorEq,cI])|refine andS ?_|fail)
  refine hL _ (k+1) (by omega) (by omega) ?_
  refine zAf ?_ ?_ ?_<;>simp only [push_cast,seval,reduceCtorEq,cI]
  exact (zBH l k (by omega)).symm
 ·obtain rfl:k=l.length:=by omega
  simp
theorem zMy:FnSpec Tryz.prog 161 zEC:=by
 refine FnSpec.of_tri' (E:=know [] [] [] []) (zAl all_nil all_nil all_nil) Tryz.func161 rfl rfl (by kernel_rfl) ?_
 intro C x hE hnl hfit hpre
 simp only [Tryz.ntmps161,Tryz.results161,maxLen,seval,push_cast] at hnl hfit hpre ⊢
 obtain ⟨(n:Int),(lo:Int),(hi:Int),_⟩:=x
 dsimp only at hfit hpre ⊢
 repeat' (first|(refine goK (by assumption) ?_; iterate 4 (try clear hK K))|(refine zAb fun K hK=>?_)|((first|refine zAa hE rfl ?_|refine zAi ?_); simp +contextual only [hnl,↓kA,push_cast,seval,reduceCtorEq,cI])|(refine ⟨fun hc=>?_,fun hc=>?_⟩)|fail)
 all_goals first|omega|(simp only [decide_eq_decide]; omega)|(simp only [hc,decide_true,decide_false,Bool.true_or,Bool.false_or]; done)|(simp; done)|(simp; omega)|(simp [*]; done)|(simp [*]; omega)
@[push_cast] def zXf:Con:=⟨[.dat .int],fun _=>True,fun (x:Int×Unit)=>{res:=[.val .int (errW x.1)]}⟩
theorem zHF:FnSpec Tryz.prog 114 zXf:=by
 refine FnSpec.of_tri' (E:=know _ [] [] []) (zAl (kc zMy all_nil) all_nil all_nil) Tryz.func114 rfl rfl (by kernel_rfl) ?_
 intro C x hE hnl hfit hpre
 simp only [Tryz.ntmps114,Tryz.results114,maxLen,seval,push_cast] at hnl hfit hpre ⊢
 obtain ⟨(w:Int),_⟩:=x
 dsimp only at hfit hpre ⊢
 repeat' (first|(refine goK (by assumption) ?_; iterate 4 (try clear hK K))|(refine zAb fun K hK=>?_)|((first|refine zAa hE rfl ?_|refine zAi ?_); simp +contextual only [hnl,↓kA,push_cast,seval,reduceCtorEq,cI])|(refine zAg ?_; simp only [thenQ,zAh,if_true,if_false,Nat.reduceEqDiff,reduceCtorEq])|(refine zAe (by rfl) (fun hb=>?_) (fun hb=>?_)<;>(try simp only [bq,reduceCtorEq] at hb)<;>(try omega))|fail)
 all_goals first|exact (if_neg (by omega)).symm|exact (if_pos (by omega)).symm
theorem zRg:FnSpec Tryz.prog 113 zXd:=by
 refine FnSpec.of_tri' (E:=know _ [] [] []) (zAl (kc zKC (kc zEq (kc zIY all_nil))) all_nil all_nil) Tryz.func113 rfl rfl (by kernel_rfl) ?_
 intro C x hE hnl hfit hpre
 simp only [Tryz.ntmps113,Tryz.results113,maxLen,seval,push_cast] at hnl hfit hpre ⊢
 obtain ⟨(a:List Int),(b:List Int),(c:List (List Int)),_⟩:=x
 dsimp only at hfit hpre ⊢
 have hA:orV [zAt a,zAt b,zAu c]=0→0<c.length:=fun h=>by have:=(zAR (zIa h).2.2).rows; omega
 have hW:orV [zAt a,zAt b,zAu c]=0→c.length=a.length→(c.getD 0 []).length=b.length→ForOK a b c:=fun h h1 h2 =>
  ⟨zFH (zIa h).1,zFH (zIa h).2.1,zAR (zIa h).2.2,h1,h2⟩
 repeat' (first|(refine goK (by assumption) ?_; iterate 4 (try clear hK K))|(refine zAb fun K hK=>?_)|((first|refine zAa hE rfl ?_|refine zAi ?_); simp +contextual only [hnl,↓kA,push_cast,seval,reduceCtorEq,cI])|(refine zAg ?_; simp only [thenQ,zAh,if_true,if_false,Nat.reduceEqDiff,reduceCtorEq])|(refine zAe (by rfl) (fun hb=>?_) (fun hb=>?_)<;>(try simp only [bq,reduceCtorEq] at hb)<;>(try omega))|refine andS ?_|(refine ⟨fun hc=>?_,fun hc=>?_⟩)|fail)
 ·exact zYw hb
 ·exact zPD (by omega)
 ·exact (zK3 (hW (by assumption) (by omega) (by omega))).symm
 ·exact zPC (by omega)
@[push_cast] def zNt:Con:=⟨[.dat (.sl .int),.dat (.sl .int),.dat (.sl (.sl .int)),.dat .int],fun _=>True,fun (x:List Int×List Int×List (List Int)×Int×Unit)=>{res:=[.val .int (errWd x.1 x.2.1 x.2.2.1 x.2.2.2.1)]}⟩
theorem zDX:FnSpec Tryz.prog 67 zNt:=by
 refine FnSpec.of_tri' (E:=know _ [] [] []) (zAl (kc zRg (kc zHF (kc zIY all_nil))) all_nil all_nil) Tryz.func67 rfl rfl (by kernel_rfl) ?_
 intro C x hE hnl hfit hpre
 simp only [Tryz.ntmps67,Tryz.results67,maxLen,seval,push_cast] at hnl hfit hpre ⊢
 obtain ⟨(a:List Int),(b:List Int),(c:List (List Int)),(w:Int),_⟩:=x
 dsimp only at hfit hpre ⊢
 have h0:=yAn a b c w
 replace hnl:=And.intro hnl h0
 exact auB
@[push_cast] def zSD:Con:=⟨[.dat (.sl .int),.dat .int,.ptr .int],fun (x:List Int×Int×Int×Unit)=>0≤x.2.2.1∧x.2.2.1≤99,fun (x:List Int×Int×Int×Unit)=>{res:=[.val .bool (decide (2*x.2.2.1≤x.2.1))]}⟩
@[push_cast] def zLV:Clo:=⟨[.int],[.sl .int,.int],.bool,fun (y:Int×Unit) _=>0≤y.1∧y.1≤99,fun (y:Int×Unit) (x:List Int×Int×Unit)=>decide (2*y.1≤x.2.1)⟩
theorem zSE:FnSpec Tryz.prog 163 zSD:=by
 refine FnSpec.of_tri' (E:=know [] [] [] []) (zAl all_nil all_nil all_nil) Tryz.func163 rfl rfl (by kernel_rfl) ?_
 intro C x hE hnl hfit hpre
 simp only [Tryz.ntmps163,Tryz.results163,maxLen,seval,push_cast] at hnl hfit hpre ⊢
 obtain ⟨(l:List Int),(n:Int),(w:Int),_⟩:=x
 dsimp only at hfit hpre ⊢
 exact auB
theorem zNS:CloSpec Tryz.prog 163 zLV:=CloSpec.of zSE
@[push_cast] def zTq:Con:=⟨[.dat (.sl .int),.dat (.sl .int),.dat (.sl (.sl .int)),.dat .int],fun (x:List Int×List Int×List (List Int)×Int×Unit)=>MC x.1 x.2.1 x.2.2.1∧0≤x.2.2.2.1∧x.2.2.2.1≤99,
 fun (x:List Int×List Int×List (List Int)×Int×Unit)=>{res:=[.val (.prod (.sl (.sl .int)) (.sl .int)) (stepP x.1 x.2.1 x.2.2.1 (fewK x.1 x.2.1 x.2.2.1 x.2.2.2.1),zB4 x.1 x.2.1 x.2.2.1 (fewK x.1 x.2.1 x.2.2.1 x.2.2.2.1))]}⟩
theorem zTd (a b:List Int) (c:List (List Int)) (w:Int):zFd a b c (fun x=>decide (2*w≤x.2.1))=fewK a b c w:=rfl
theorem zII:FnSpec Tryz.prog 115 zTq:=by
 refine FnSpec.of_tri' (E:=know [(162,zTD)] [(163,zLV)] [] []) (zAl (all_cons zTE all_nil) (all_cons zNS all_nil) all_nil) Tryz.func115 rfl rfl (by kernel_rfl) ?_
 intro C x hE hnl hfit hpre
 simp only [Tryz.ntmps115,Tryz.results115,maxLen,seval,push_cast] at hnl hfit hpre ⊢
 obtain ⟨(a:List Int),(b:List Int),(c:List (List Int)),(w:Int),_⟩:=x
 dsimp only at hfit hpre ⊢
 obtain ⟨hm,h0,h99⟩:=hpre
 replace hnl:=And.intro hnl (And.intro hm (And.intro h0 (And.intro h99 (zTd a b c w))))
 exact auB
structure FullP (a b:List Int) (w k u:Int):Prop where
 sa:∀ m,InR (lsum (a.take m))
 sb:∀ m,InR (lsum (b.take m))
 la:0≤lsum a∧lsum a≤1200
 lb:0≤lsum b∧lsum b≤1200
 w:0≤w∧w≤99
 k:0≤k∧k≤100000000000
 u:0≤u∧u≤100000000000
theorem MC.sums {a b:List Int} {c:List (List Int)} (h:ForOK a b c):(∀ m,InR (lsum (a.take m)))∧(∀ m,InR (lsum (b.take m)))∧(0≤lsum a∧lsum a≤1200)∧(0≤lsum b∧lsum b≤1200):=by
 have hm:=h.mc
 have h1:sumL a≤a.length*200:=zM7 _ fun i hi=>(hm.ha.at hi).2
 have h2:sumL b≤b.length*200:=zM7 _ fun i hi=>(hm.hb.at hi).2
 have:=hm.sum_nn
 have:=hm.a5
 have:=hm.b5
 rw [zBs,zBs]
 exact ⟨zKh h.ha,zKh h.hb,by omega,by omega⟩
@[push_cast] def zX4:Con:=⟨[.dat (.sl .int),.dat (.sl .int),.dat .int,.dat .int,.dat .int],fun (x:List Int×List Int×Int×Int×Int×Unit)=>FullP x.1 x.2.1 x.2.2.1 x.2.2.2.1 x.2.2.2.2.1,
 fun (x:List Int×List Int×Int×Int×Int×Unit)=>{res:=[.val .int (x.2.2.2.1+x.2.2.1*(lsum x.1+lsum x.2.1 - 2*x.2.2.2.2.1))]}⟩
theorem zTT {w x:Int} (h:0≤w∧w≤99) (hx : -1000000000000≤x∧x≤1000000000000) : -99000000000000≤w*x∧w*x≤99000000000000:=by
 obtain ⟨n,rfl⟩:∃ n:Nat,w=n:=⟨w.toNat,by omega⟩
 have key:∀ n:Nat,-(n*1000000000000:Int)≤n*x∧(n*x:Int)≤n*1000000000000:=by
  intro n
  induction n with
  | zero=>simp
  | succ n ih =>
   rw [Int.natCast_add,Int.add_mul,Int.add_mul]
   omega
 have:=key n
 omega
theorem zIA:FnSpec Tryz.prog 71 zX4:=by
 refine FnSpec.of_tri' (E:=know _ [] [] []) (zAl (kc zEN all_nil) all_nil all_nil) Tryz.func71 rfl rfl (by kernel_rfl) ?_
 intro C x hE hnl hfit hpre
 simp only [Tryz.ntmps71,Tryz.results71,maxLen,seval,push_cast] at hnl hfit hpre ⊢
 obtain ⟨(a:List Int),(b:List Int),(w:Int),(k:Int),(u:Int),_⟩:=x
 dsimp only at hfit hpre ⊢
 obtain ⟨h1,h2,h3,h4,h5,h6,h7⟩:=hpre
 have h8:=zTT h5 (x:=lsum a+lsum b - 2*u) (by omega)
 replace hnl:=And.intro hnl (And.intro (fun m=>eq_true (h1 m)) (fun m=>eq_true (h2 m)))
 exact auB
@[push_cast] def zMv:Con:=⟨[.dat (.sl .int),.dat (.sl .int),.dat (.sl (.sl .int)),.dat .int],fun (x:List Int×List Int×List (List Int)×Int×Unit)=>ForOK x.1 x.2.1 x.2.2.1∧0≤x.2.2.2.1∧x.2.2.2.1≤99,
 fun (x:List Int×List Int×List (List Int)×Int×Unit)=>{res:=[.val .int (zBa x.1 x.2.1 x.2.2.1 x.2.2.2.1)]}⟩
theorem zOi:FnSpec Tryz.prog 68 zMv:=by
 refine FnSpec.of_tri' (E:=know _ [] [] []) (zAl (kc zII (kc zIA all_nil)) all_nil all_nil) Tryz.func68 rfl rfl (by kernel_rfl) ?_
 intro C x hE hnl hfit hpre
 simp only [Tryz.ntmps68,Tryz.results68,maxLen,seval,push_cast] at hnl hfit hpre ⊢
 obtain ⟨(a:List Int),(b:List Int),(c:List (List Int)),(w:Int),_⟩:=x
 dsimp only at hfit hpre ⊢
 obtain ⟨hf,h0,h99⟩:=hpre
 have hm:=hf.mc
 have hk:=(zEI hm w).1
 have hl:=zKi a b c (fewK a b c w)
 have hmx:=zPV hm
 have hpb:=zId hm _ hk
 obtain ⟨s1,s2,s3,s4⟩:=MC.sums hf
 have e2:(((zB4 a b c (fewK a b c w)).length:Int) - 1)=(fewK a b c w:Nat):=by omega
 have e3:=zMM a b c (Nat.le_refl (fewK a b c w))
 have hfp:FullP a b w (partV a b c (fewK a b c w)) (fewK a b c w:Nat):=⟨s1,s2,s3,s4,⟨h0,h99⟩,by omega,by omega⟩
 have e4:partV a b c (fewK a b c w)+w*(lsum a+lsum b - 2*(fewK a b c w:Nat))=zBa a b c w:=by rw [zBs,zBs]; rfl
 replace hnl:=And.intro hnl (And.intro hm (And.intro h0 (And.intro h99 (And.intro e2 (And.intro e3 (And.intro (eq_true hfp) e4))))))
 exact auB
end Go.Proofs.YtekfodeknpnkbaaGreatDoor
namespace Go.Proofs.YtekfodeknpnkbaaGreatDoor
open Go.RowKit Go.VS Go.OT
structure CatP (l:List (List Int)):Prop where
 n:l.length≤10
 row:∀ k,k<l.length→(l.getD k []).length≤100
 pos:0<l.flatten.length
def catK (l:List (List Int)) (k:Nat):List Int:=(l.take k).flatten
theorem zKU {l:List (List Int)} {k:Nat} (h:k<l.length):catK l (k+1)=catK l k++l.getD k []:=by
 unfold catK
 rw [List.take_succ_eq_append_getElem h,List.flatten_append]
 simp [List.getD_eq_getElem?_getD,h]
theorem CatP.le {l:List (List Int)} (h:CatP l):∀ k,k≤l.length→(catK l k).length≤100*k
 | 0,_=>by simp [catK]
 | k+1,hk=>by
  have:=h.le k (by omega)
  have:=h.row k (by omega)
  rw [zKU (by omega),List.length_append]
  omega
end Go.Proofs.YtekfodeknpnkbaaGreatDoor
namespace Go.Proofs.YtekfodeknpnkbaaGreatDoor
open Go.RowKit Go.VS Go.OT
def zA9 (a b:List Int) (c:List (List Int)) (w:Int):Int:=if errWd a b c w=0 then zBa a b c w else 0
@[push_cast] def zMo:Con:=⟨[.dat (.sl .int),.dat (.sl .int),.dat (.sl (.sl .int)),.dat .int],fun _=>True,fun (x:List Int×List Int×List (List Int)×Int×Unit)=>{res:=[.val .int (zA9 x.1 x.2.1 x.2.2.1 x.2.2.2.1),.val .int (errWd x.1 x.2.1 x.2.2.1 x.2.2.2.1)]}⟩
theorem zIH:FnSpec Tryz.prog 29 zMo:=by
 refine FnSpec.of_tri' (E:=know _ [] [] []) (zAl (kc zDX (kc zOi all_nil)) all_nil all_nil) Tryz.func29 rfl rfl (by kernel_rfl) ?_
 intro C x hE hnl hfit hpre
 simp only [Tryz.ntmps29,Tryz.results29,maxLen,seval,push_cast] at hnl hfit hpre ⊢
 obtain ⟨(a:List Int),(b:List Int),(c:List (List Int)),(w:Int),_⟩:=x
 dsimp only at hfit hpre ⊢
 by_cases he:errWd a b c w=0
 ·have h1:=zBE he
  have h3:zA9 a b c w=zBa a b c w:=if_pos he
  replace hnl:=And.intro hnl (And.intro he (And.intro h3 (And.intro h1.1 h1.2)))
  exact auB
 ·have h3:zA9 a b c w=0:=if_neg he
  replace hnl:=And.intro hnl (And.intro h3 (eq_false he))
  exact auB
end Go.Proofs.YtekfodeknpnkbaaGreatDoor
namespace Go.Proofs.YtekfodeknpnkbaaGreatDoor
open Go.RowKit Go.VS
abbrev Line:=ByteArray×Int
def lineV (before:Int) (x:Line):ByteArray:=itoaV (sumV before (textV x.2 x.1))++spS++textV x.2 x.1
structure LinePre (x:Line):Prop where
 order:x.1.size≤1000
 least:InR x.2
abbrev State:=List (List Int)×List Int×List Int×Int
@[push_cast] def zDO:Con:=⟨[.dat (.prod (.sl (.sl .int)) (.prod (.sl .int) (.prod (.sl .int) .int)))],fun _=>True,fun (x:State×Unit)=>{res:=[.val .int (zA9 x.1.2.1 x.1.2.2.1 x.1.1 x.1.2.2.2)]}⟩
theorem zEL:FnSpec Tryz.prog 57 zDO:=by
 refine FnSpec.of_tri' (E:=know _ [] [] []) (zAl (kc zIH all_nil) all_nil all_nil) Tryz.func57 rfl rfl (by kernel_rfl) ?_
 intro C x hE hnl hfit hpre
 simp only [Tryz.ntmps57,Tryz.results57,maxLen,seval,push_cast] at hnl hfit hpre ⊢
 obtain ⟨⟨(c:List (List Int)),(a:List Int),(b:List Int),(w:Int)⟩,_⟩:=x
 dsimp only at hfit hpre ⊢
 exact auC
end Go.Proofs.YtekfodeknpnkbaaGreatDoor
namespace Go.Proofs.YtekfodeknpnkbaaGreatDoor
open Go.RowKit Go.VS
theorem zUE {C:Ctx} {f:FuncId} {fn:Func} {code:Code} {s0:AS} {γ:Gam} {w:World} {vs:List Value} {Q:Exit→AS→Prop} (hf:C.P.funcs[f]?=some fn) (hb:fn.body=some code) (hds:C.ds=[]) (hle:vs.length≤fn.ntmps)
 (hr:Rel C γ s0 {tmps:=vs.toArray++Array.replicate (fn.ntmps - vs.length) undef,defers:=[]} w) (h:tri C fn.ntmps code Q s0) (hQ:∀ e s,Q e s→e=.normal∨e=.ret) {R:Ending→World→Prop}
 (hR:∀ e s' γ' a' w',Rel C γ' s' a' w'→Q e s'→∃ v,(results fn a'.tmps).run C.P w'=.ok v w'∧R (.returned v) w'):Calls C.P f vs.toArray w R:=by
 refine calls_of_wp hf hb ?_
 refine wp_mono (h.run γ _ _ hr (by simp; omega)) ?_
 rintro e a' w' ⟨s',γ',h1,h2,h3⟩
 obtain ⟨v,k1,k2⟩:=hR e s' γ' a' w' h1 h3
 rcases hQ e s' h3 with rfl|rfl
 ·exact ⟨h1.defers.1.trans hds,v,k1,k2⟩
 ·exact ⟨h1.defers.1.trans hds,v,k1,k2⟩
def doV (k:Nat) (l:List Int) (s:State):Int×State :=
 if k=0 then (chgE s.2.1 (l.getD 0 0) (l.getD 1 0) (l.getD 1 0),s.1,chgL s.2.1 (l.getD 0 0) (l.getD 1 0) (l.getD 1 0),s.2.2)
 else if k=1 then (chgE s.2.1 (l.getD 0 0) (l.getD 1 0) (-(l.getD 1 0)),s.1,chgL s.2.1 (l.getD 0 0) (l.getD 1 0) (-(l.getD 1 0)),s.2.2)
 else if k=2 then (chgE s.2.2.1 (l.getD 0 0) (l.getD 1 0) (l.getD 1 0),s.1,s.2.1,chgL s.2.2.1 (l.getD 0 0) (l.getD 1 0) (l.getD 1 0),s.2.2.2)
 else if k=3 then (chgE s.2.2.1 (l.getD 0 0) (l.getD 1 0) (-(l.getD 1 0)),s.1,s.2.1,chgL s.2.2.1 (l.getD 0 0) (l.getD 1 0) (-(l.getD 1 0)),s.2.2.2)
 else if k=4 then (if (s.2.1.length:Int)≤l.getD 0 0∨(s.2.2.1.length:Int)≤l.getD 1 0 then (4,s) else if 99<l.getD 2 0 then (1,s) else (0,s.1.set (l.getD 0 0).toNat ((s.1.getD (l.getD 0 0).toNat []).set (l.getD 1 0).toNat (l.getD 2 0)),s.2))
 else if k=5 then (if 99<l.getD 0 0 then (1,s) else (0,s.1,s.2.1,s.2.2.1,l.getD 0 0))
 else (if zA9 s.2.1 s.2.2.1 s.1 s.2.2.2=l.getD 0 0 then (0,s) else (7,s))
theorem doV4 (l:List Int) (c:List (List Int)) (a b:List Int) (w:Int):doV 4 l (c,a,b,w)=if (a.length:Int)≤l.getD 0 0∨(b.length:Int)≤l.getD 1 0 then (4,(c,a,b,w)) else if 99<l.getD 2 0 then (1,(c,a,b,w)) else (0,(c.set (l.getD 0 0).toNat ((c.getD (l.getD 0 0).toNat []).set (l.getD 1 0).toNat (l.getD 2 0)),a,b,w)):=rfl
theorem doV5 (l:List Int) (c:List (List Int)) (a b:List Int) (w:Int):doV 5 l (c,a,b,w)=if 99<l.getD 0 0 then (1,(c,a,b,w)) else (0,(c,a,b,l.getD 0 0)):=rfl
theorem doV6 (l:List Int) (c:List (List Int)) (a b:List Int) (w:Int):doV 6 l (c,a,b,w)=if zA9 a b c w=l.getD 0 0 then (0,(c,a,b,w)) else (7,(c,a,b,w)):=rfl
structure DoPre (k:Nat) (l:List Int) (s:State):Prop where
 kind:k≤6
 len:l.length=if k=4 then 3 else if k≤3 then 2 else 1
 num:∀ i,i<l.length→0≤l.getD i 0∧l.getD i 0≤99999
 tab:InTab 0 99 s.1
 la:s.2.1.length=s.1.length
 lb:s.2.2.1.length=wid s.1
 a:∀ i,i<s.2.1.length→0≤s.2.1.getD i 0∧s.2.1.getD i 0≤30
 b:∀ i,i<s.2.2.1.length→0≤s.2.2.1.getD i 0∧s.2.2.1.getD i 0≤30
def doIn (k:Nat) (l:List Int) (s:State):AS:=AS.of [(0,.one (.box 0)),(1,.one (.val .int (k:Int))),(2,.one (.val (.sl .int) l))] [(1,.deep 38 3 .int s.1),(2,.flat 3 .int s.2.1),(3,.flat 3 .int s.2.2.1)] [(0,.rcd [.ref 1,.ref 2,.ref 3,.val .int s.2.2.2])]
def doOut (k:Nat) (l:List Int) (s:State):AS:=AS.of [(6,.one (.val (.err 147) (doV k l s).1))] [] [(0,.rcd [.val (.sl (.sl .int)) (doV k l s).2.1,.val (.sl .int) (doV k l s).2.2.1,.val (.sl .int) (doV k l s).2.2.2.1,.val .int (doV k l s).2.2.2.2])]
structure DoQ (nl:Nat) (k:Nat) (l:List Int) (s:State) (e:Exit) (t:AS):Prop where
 e:e=.normal∨e=.ret
 h:Weak nl t (doOut k l s)
def zZv:Know:=know [(104,zSF),(57,zDO)] []
theorem zSZ:KnowOK Tryz.prog zZv:=zAl (all_cons zVl (all_cons zEL all_nil)) all_nil all_nil
set_option maxHeartbeats 4000000 in
theorem zZx {C:Ctx} (hP:C.P=Tryz.prog) (hE:KnowOK C.P (know [(104,zSF),(57,zDO)] [])) (hnl:C.nl=4) (k:Nat) (l:List Int) (s:State) (hpre:DoPre k l s) {code:Code} (hb:Tryz.f55.body=some code) :
 tri C 146 code (DoQ 4 k l s) (doIn k l s):=by
 obtain ⟨c,a,b,wst⟩:=s
 obtain ⟨hk,hl,hn,ht,hla,hlb,ha,hbb⟩:=hpre
 dsimp only at *
 unfold doIn
 dsimp only
 have hb':code=(Tryz.f55.body).getD .skip:=by rw [hb]; rfl
 subst hb'
 clear hb
 show tri C 146 _ _ _
 dsimp only [Tryz.f55]
 simp only [Option.getD_some]
 have hn0:=hn 0
 have hn1:=hn 1
 have hrs:=ht.rows
 have hcs:=ht.cols
 obtain rfl|rfl|rfl|rfl|rfl|rfl|rfl:k=0∨k=1∨k=2∨k=3∨k=4∨k=5∨k=6:=by omega
 ·have hl':l.length=2:=hl
  have hp:ChgPre (.flat 3 .int a) (l.getD 0 0) (l.getD 1 0):=⟨by rw [zA1],by rw [zA1]; omega,by rw [zA1]; exact ha,by have:=hn0 (by omega); omega,by have:=hn1 (by omega); omega⟩
  have e:doV 0 l (c,a,b,wst)=(chgE a (l.getD 0 0) (l.getD 1 0) (l.getD 1 0),c,chgL a (l.getD 0 0) (l.getD 1 0) (l.getD 1 0),b,wst):=rfl
  replace hnl:=And.intro hnl (And.intro (eq_true hp) hl')
  repeat' (first|(refine zAc hE 2 rfl rfl (by decide +kernel) ?_; simp only [List.length_cons,List.length_nil,Nat.reduceAdd,Nat.reduceSub,List.take_succ_cons,List.take_zero,List.drop_succ_cons,List.drop_zero]; simp +contextual only [hnl,↓kA,push_cast,seval,reduceCtorEq])|(first|(refine goK (by assumption) ?_; iterate 4 (try clear hK K))|(refine zAb fun K hK=>?_)|((first|refine zAa hE rfl ?_|refine zAi ?_|((first|refine zAc hE 1 rfl rfl (by kernel_rfl) ?_|refine zAc hE 2 rfl rfl (by kernel_rfl) ?_|refine zAc hE 3 rfl rfl (by kernel_rfl) ?_|refine zAc hE 4 rfl rfl (by kernel_rfl) ?_); simp only [List.length_cons,List.length_nil,Nat.reduceAdd,Nat.reduceSub,List.take_succ_cons,List.take_zero,List.drop_succ_cons,List.drop_zero])); simp +contextual only [hnl,↓kA,push_cast,seval,reduceCtorEq])|refine zAd ?_|((first|refine zAg ?_|refine zAj ?_); simp only [thenQ,zAh,if_true,if_false,Nat.reduceEqDiff,reduceCtorEq])|(refine zAe (by rfl) (fun hb=>?_) (fun hb=>?_)<;>(try simp only [bq,reduceCtorEq] at hb)<;>(try omega))|refine zAr (by rfl) ?_ ?_|refine andS ?_|(refine ⟨fun hc=>?_,fun hc=>?_⟩)|(intro hc; try omega)))
  all_goals ((try refine zAi ?_); refine ⟨.inr rfl,?_⟩; unfold doOut; rw [e]; dsimp only; refine zAf ?_ ?_ ?_<;>simp only [push_cast,seval,reduceCtorEq])
 ·have hl':l.length=2:=hl
  have hp:ChgPre (.flat 3 .int a) (l.getD 0 0) (-(l.getD 1 0)):=⟨by rw [zA1],by rw [zA1]; omega,by rw [zA1]; exact ha,by have:=hn0 (by omega); omega,by have:=hn1 (by omega); omega⟩
  have e:doV 1 l (c,a,b,wst)=(chgE a (l.getD 0 0) (l.getD 1 0) (-(l.getD 1 0)),c,chgL a (l.getD 0 0) (l.getD 1 0) (-(l.getD 1 0)),b,wst):=rfl
  replace hnl:=And.intro hnl (And.intro (eq_true hp) hl')
  repeat' (first|(refine zAc hE 2 rfl rfl (by decide +kernel) ?_; simp only [List.length_cons,List.length_nil,Nat.reduceAdd,Nat.reduceSub,List.take_succ_cons,List.take_zero,List.drop_succ_cons,List.drop_zero]; simp +contextual only [hnl,↓kA,push_cast,seval,reduceCtorEq])|(first|(refine goK (by assumption) ?_; iterate 4 (try clear hK K))|(refine zAb fun K hK=>?_)|((first|refine zAa hE rfl ?_|refine zAi ?_|((first|refine zAc hE 1 rfl rfl (by kernel_rfl) ?_|refine zAc hE 2 rfl rfl (by kernel_rfl) ?_|refine zAc hE 3 rfl rfl (by kernel_rfl) ?_|refine zAc hE 4 rfl rfl (by kernel_rfl) ?_); simp only [List.length_cons,List.length_nil,Nat.reduceAdd,Nat.reduceSub,List.take_succ_cons,List.take_zero,List.drop_succ_cons,List.drop_zero])); simp +contextual only [hnl,↓kA,push_cast,seval,reduceCtorEq])|refine zAd ?_|((first|refine zAg ?_|refine zAj ?_); simp only [thenQ,zAh,if_true,if_false,Nat.reduceEqDiff,reduceCtorEq])|(refine zAe (by rfl) (fun hb=>?_) (fun hb=>?_)<;>(try simp only [bq,reduceCtorEq] at hb)<;>(try omega))|refine zAr (by rfl) ?_ ?_|refine andS ?_|(refine ⟨fun hc=>?_,fun hc=>?_⟩)|(intro hc; try omega)))
  all_goals ((try refine zAi ?_); refine ⟨.inr rfl,?_⟩; unfold doOut; rw [e]; dsimp only; refine zAf ?_ ?_ ?_<;>simp only [push_cast,seval,reduceCtorEq])
 ·have hl':l.length=2:=hl
  have hp:ChgPre (.flat 3 .int b) (l.getD 0 0) (l.getD 1 0):=⟨by rw [zA1],by rw [zA1]; omega,by rw [zA1]; exact hbb,by have:=hn0 (by omega); omega,by have:=hn1 (by omega); omega⟩
  have e:doV 2 l (c,a,b,wst)=(chgE b (l.getD 0 0) (l.getD 1 0) (l.getD 1 0),c,a,chgL b (l.getD 0 0) (l.getD 1 0) (l.getD 1 0),wst):=rfl
  replace hnl:=And.intro hnl (And.intro (eq_true hp) hl')
  repeat' (first|(refine zAc hE 2 rfl rfl (by decide +kernel) ?_; simp only [List.length_cons,List.length_nil,Nat.reduceAdd,Nat.reduceSub,List.take_succ_cons,List.take_zero,List.drop_succ_cons,List.drop_zero]; simp +contextual only [hnl,↓kA,push_cast,seval,reduceCtorEq])|(first|(refine goK (by assumption) ?_; iterate 4 (try clear hK K))|(refine zAb fun K hK=>?_)|((first|refine zAa hE rfl ?_|refine zAi ?_|((first|refine zAc hE 1 rfl rfl (by kernel_rfl) ?_|refine zAc hE 2 rfl rfl (by kernel_rfl) ?_|refine zAc hE 3 rfl rfl (by kernel_rfl) ?_|refine zAc hE 4 rfl rfl (by kernel_rfl) ?_); simp only [List.length_cons,List.length_nil,Nat.reduceAdd,Nat.reduceSub,List.take_succ_cons,List.take_zero,List.drop_succ_cons,List.drop_zero])); simp +contextual only [hnl,↓kA,push_cast,seval,reduceCtorEq])|refine zAd ?_|((first|refine zAg ?_|refine zAj ?_); simp only [thenQ,zAh,if_true,if_false,Nat.reduceEqDiff,reduceCtorEq])|(refine zAe (by rfl) (fun hb=>?_) (fun hb=>?_)<;>(try simp only [bq,reduceCtorEq] at hb)<;>(try omega))|refine zAr (by rfl) ?_ ?_|refine andS ?_|(refine ⟨fun hc=>?_,fun hc=>?_⟩)|(intro hc; try omega)))
  all_goals ((try refine zAi ?_); refine ⟨.inr rfl,?_⟩; unfold doOut; rw [e]; dsimp only; refine zAf ?_ ?_ ?_<;>simp only [push_cast,seval,reduceCtorEq])
 ·have hl':l.length=2:=hl
  have hp:ChgPre (.flat 3 .int b) (l.getD 0 0) (-(l.getD 1 0)):=⟨by rw [zA1],by rw [zA1]; omega,by rw [zA1]; exact hbb,by have:=hn0 (by omega); omega,by have:=hn1 (by omega); omega⟩
  have e:doV 3 l (c,a,b,wst)=(chgE b (l.getD 0 0) (l.getD 1 0) (-(l.getD 1 0)),c,a,chgL b (l.getD 0 0) (l.getD 1 0) (-(l.getD 1 0)),wst):=rfl
  replace hnl:=And.intro hnl (And.intro (eq_true hp) hl')
  repeat' (first|(refine zAc hE 2 rfl rfl (by decide +kernel) ?_; simp only [List.length_cons,List.length_nil,Nat.reduceAdd,Nat.reduceSub,List.take_succ_cons,List.take_zero,List.drop_succ_cons,List.drop_zero]; simp +contextual only [hnl,↓kA,push_cast,seval,reduceCtorEq])|(first|(refine goK (by assumption) ?_; iterate 4 (try clear hK K))|(refine zAb fun K hK=>?_)|((first|refine zAa hE rfl ?_|refine zAi ?_|((first|refine zAc hE 1 rfl rfl (by kernel_rfl) ?_|refine zAc hE 2 rfl rfl (by kernel_rfl) ?_|refine zAc hE 3 rfl rfl (by kernel_rfl) ?_|refine zAc hE 4 rfl rfl (by kernel_rfl) ?_); simp only [List.length_cons,List.length_nil,Nat.reduceAdd,Nat.reduceSub,List.take_succ_cons,List.take_zero,List.drop_succ_cons,List.drop_zero])); simp +contextual only [hnl,↓kA,push_cast,seval,reduceCtorEq])|refine zAd ?_|((first|refine zAg ?_|refine zAj ?_); simp only [thenQ,zAh,if_true,if_false,Nat.reduceEqDiff,reduceCtorEq])|(refine zAe (by rfl) (fun hb=>?_) (fun hb=>?_)<;>(try simp only [bq,reduceCtorEq] at hb)<;>(try omega))|refine zAr (by rfl) ?_ ?_|refine andS ?_|(refine ⟨fun hc=>?_,fun hc=>?_⟩)|(intro hc; try omega)))
  all_goals ((try refine zAi ?_); refine ⟨.inr rfl,?_⟩; unfold doOut; rw [e]; dsimp only; refine zAf ?_ ?_ ?_<;>simp only [push_cast,seval,reduceCtorEq])
 ·have hl':l.length=3:=hl
  have hn2:=hn 2
  by_cases h1:(a.length:Int)≤l.getD 0 0∨(b.length:Int)≤l.getD 1 0
  ·have e:doV 4 l (c,a,b,wst)=(4,(c,a,b,wst)):=by rw [doV4,if_pos h1]
   replace hnl:=And.intro hnl hl'
   repeat' (first|(refine goK (by assumption) ?_; iterate 4 (try clear hK K))|(refine zAb fun K hK=>?_)|((first|refine zAa hE rfl ?_|refine zAi ?_|((first|refine zAc hE 1 rfl rfl (by kernel_rfl) ?_|refine zAc hE 2 rfl rfl (by kernel_rfl) ?_|refine zAc hE 3 rfl rfl (by kernel_rfl) ?_|refine zAc hE 4 rfl rfl (by kernel_rfl) ?_); simp only [List.length_cons,List.length_nil,Nat.reduceAdd,Nat.reduceSub,List.take_succ_cons,List.take_zero,List.drop_succ_cons,List.drop_zero])); simp +contextual only [hnl,↓kA,push_cast,seval,reduceCtorEq])|refine zAd ?_|(refine zAe (by rfl) (fun hb=>?_) (fun hb=>?_)<;>(try simp only [bq,reduceCtorEq] at hb)<;>(try omega))|(refine ⟨fun hc=>?_,fun hc=>?_⟩)|fail)
   all_goals ((try refine zAi ?_); refine ⟨.inr rfl,?_⟩; unfold doOut; rw [e]; dsimp only; refine zAf ?_ ?_ ?_<;>simp only [push_cast,seval,reduceCtorEq])
  by_cases h2:99<l.getD 2 0
  ·have e:doV 4 l (c,a,b,wst)=(1,(c,a,b,wst)):=by rw [doV4,if_neg h1,if_pos h2]
   replace hnl:=And.intro hnl hl'
   repeat' (first|(refine goK (by assumption) ?_; iterate 4 (try clear hK K))|(refine zAb fun K hK=>?_)|((first|refine zAa hE rfl ?_|refine zAi ?_|((first|refine zAc hE 1 rfl rfl (by kernel_rfl) ?_|refine zAc hE 2 rfl rfl (by kernel_rfl) ?_|refine zAc hE 3 rfl rfl (by kernel_rfl) ?_|refine zAc hE 4 rfl rfl (by kernel_rfl) ?_); simp only [List.length_cons,List.length_nil,Nat.reduceAdd,Nat.reduceSub,List.take_succ_cons,List.take_zero,List.drop_succ_cons,List.drop_zero])); simp +contextual only [hnl,↓kA,push_cast,seval,reduceCtorEq])|refine zAd ?_|(refine zAg ?_; simp only [thenQ,zAh,if_true,if_false,Nat.reduceEqDiff,reduceCtorEq])|(refine zAe (by rfl) (fun hb=>?_) (fun hb=>?_)<;>(try simp only [bq,reduceCtorEq] at hb)<;>(try omega))|(refine ⟨fun hc=>?_,fun hc=>?_⟩)|fail)
   all_goals ((try refine zAi ?_); refine ⟨.inr rfl,?_⟩; unfold doOut; rw [e]; dsimp only; refine zAf ?_ ?_ ?_<;>simp only [push_cast,seval,reduceCtorEq])
  ·have e:doV 4 l (c,a,b,wst)=(0,(c.set (l.getD 0 0).toNat ((c.getD (l.getD 0 0).toNat []).set (l.getD 1 0).toNat (l.getD 2 0)),a,b,wst)):=by rw [doV4,if_neg h1,if_neg h2]
   have q0:=hn0 (by omega)
   have q1:=hn1 (by omega)
   have hrl:=ht.len (show (l.getD 0 0).toNat<c.length by omega)
   replace hnl:=And.intro hnl (And.intro hl' hrl)
   repeat' (first|(refine goK (by assumption) ?_; iterate 4 (try clear hK K))|(refine zAb fun K hK=>?_)|((first|refine zAa hE rfl ?_|refine zAi ?_|((first|refine zAc hE 1 rfl rfl (by kernel_rfl) ?_|refine zAc hE 2 rfl rfl (by kernel_rfl) ?_|refine zAc hE 3 rfl rfl (by kernel_rfl) ?_|refine zAc hE 4 rfl rfl (by kernel_rfl) ?_); simp only [List.length_cons,List.length_nil,Nat.reduceAdd,Nat.reduceSub,List.take_succ_cons,List.take_zero,List.drop_succ_cons,List.drop_zero])); simp +contextual only [hnl,↓kA,push_cast,seval,reduceCtorEq])|refine zAd ?_|(refine zAg ?_; simp only [thenQ,zAh,if_true,if_false,Nat.reduceEqDiff,reduceCtorEq])|(refine zAe (by rfl) (fun hb=>?_) (fun hb=>?_)<;>(try simp only [bq,reduceCtorEq] at hb)<;>(try omega))|refine andS ?_|(refine ⟨fun hc=>?_,fun hc=>?_⟩)|fail)
   all_goals ((try refine zAi ?_); refine ⟨.inr rfl,?_⟩; unfold doOut; rw [e]; dsimp only; refine zAf ?_ ?_ ?_<;>simp only [push_cast,seval,reduceCtorEq]; exact ⟨_,rfl⟩)
 ·have hl':l.length=1:=hl
  by_cases h1:99<l.getD 0 0
  ·have e:doV 5 l (c,a,b,wst)=(1,(c,a,b,wst)):=by rw [doV5,if_pos h1]
   replace hnl:=And.intro hnl hl'
   repeat' (first|(refine goK (by assumption) ?_; iterate 4 (try clear hK K))|(refine zAb fun K hK=>?_)|((first|refine zAa hE rfl ?_|refine zAi ?_); simp +contextual only [hnl,↓kA,push_cast,seval,reduceCtorEq])|refine zAd ?_|(refine zAe (by rfl) (fun hb=>?_) (fun hb=>?_)<;>(try simp only [bq,reduceCtorEq] at hb)<;>(try omega))|fail)
   all_goals ((try refine zAi ?_); refine ⟨.inr rfl,?_⟩; unfold doOut; rw [e]; dsimp only; refine zAf ?_ ?_ ?_<;>simp only [push_cast,seval,reduceCtorEq])
  ·have e:doV 5 l (c,a,b,wst)=(0,(c,a,b,l.getD 0 0)):=by rw [doV5,if_neg h1]
   replace hnl:=And.intro hnl hl'
   repeat' (first|(refine goK (by assumption) ?_; iterate 4 (try clear hK K))|(refine zAb fun K hK=>?_)|((first|refine zAa hE rfl ?_|refine zAi ?_); simp +contextual only [hnl,↓kA,push_cast,seval,reduceCtorEq])|refine zAd ?_|(refine zAg ?_; simp only [thenQ,zAh,if_true,if_false,Nat.reduceEqDiff,reduceCtorEq])|(refine zAe (by rfl) (fun hb=>?_) (fun hb=>?_)<;>(try simp only [bq,reduceCtorEq] at hb)<;>(try omega))|fail)
   all_goals ((try refine zAi ?_); refine ⟨.inr rfl,?_⟩; unfold doOut; rw [e]; dsimp only; refine zAf ?_ ?_ ?_<;>simp only [push_cast,seval,reduceCtorEq]; exact ⟨_,rfl⟩)
 ·have hl':l.length=1:=hl
  refine zAo (t:=AS.of [(0,.one (.box 0)),(1,.one (.val .int ((6:Nat):Int))),(2,.one (.val (.sl .int) l))] [] [(0,.rcd [.val (.sl (.sl .int)) c,.val (.sl .int) a,.val (.sl .int) b,.val .int wst])]) (by refine zAf ?_ ?_ ?_<;>simp only [push_cast,seval,reduceCtorEq]) ?_
  by_cases h1:zA9 a b c wst=l.getD 0 0
  ·have e:doV 6 l (c,a,b,wst)=(0,(c,a,b,wst)):=by rw [doV6,if_pos h1]
   replace hnl:=And.intro hnl (And.intro hl' h1)
   repeat' (first|(refine goK (by assumption) ?_; iterate 4 (try clear hK K))|(refine zAb fun K hK=>?_)|((first|refine zAa hE rfl ?_|refine zAi ?_|((first|refine zAc hE 1 rfl rfl (by kernel_rfl) ?_|refine zAc hE 2 rfl rfl (by kernel_rfl) ?_|refine zAc hE 3 rfl rfl (by kernel_rfl) ?_|refine zAc hE 4 rfl rfl (by kernel_rfl) ?_); simp only [List.length_cons,List.length_nil,Nat.reduceAdd,Nat.reduceSub,List.take_succ_cons,List.take_zero,List.drop_succ_cons,List.drop_zero])); simp +contextual only [hnl,↓kA,push_cast,seval,reduceCtorEq])|refine zAd ?_|(refine zAg ?_; simp only [thenQ,zAh,if_true,if_false,Nat.reduceEqDiff,reduceCtorEq])|(refine zAe (by rfl) (fun hb=>?_) (fun hb=>?_)<;>(try simp only [bq,reduceCtorEq] at hb)<;>(try omega))|fail)
   all_goals ((try refine zAi ?_); refine ⟨.inr rfl,?_⟩; unfold doOut; rw [e]; dsimp only; refine zAf ?_ ?_ ?_<;>simp only [push_cast,seval,reduceCtorEq]; exact ⟨_,rfl⟩)
  ·have e:doV 6 l (c,a,b,wst)=(7,(c,a,b,wst)):=by rw [doV6,if_neg h1]
   replace hnl:=And.intro hnl (And.intro hl' (eq_false h1))
   repeat' (first|(refine goK (by assumption) ?_; iterate 4 (try clear hK K))|(refine zAb fun K hK=>?_)|((first|refine zAa hE rfl ?_|refine zAi ?_|((first|refine zAc hE 1 rfl rfl (by kernel_rfl) ?_|refine zAc hE 2 rfl rfl (by kernel_rfl) ?_|refine zAc hE 3 rfl rfl (by kernel_rfl) ?_|refine zAc hE 4 rfl rfl (by kernel_rfl) ?_); simp only [List.length_cons,List.length_nil,Nat.reduceAdd,Nat.reduceSub,List.take_succ_cons,List.take_zero,List.drop_succ_cons,List.drop_zero])); simp +contextual only [hnl,↓kA,push_cast,seval,reduceCtorEq])|refine zAd ?_|(refine zAe (by rfl) (fun hb=>?_) (fun hb=>?_)<;>(try simp only [bq,reduceCtorEq] at hb)<;>(try omega))|fail)
   all_goals ((try refine zAi ?_); refine ⟨.inr rfl,?_⟩; unfold doOut; rw [e]; dsimp only; refine zAf ?_ ?_ ?_<;>simp only [push_cast,seval,reduceCtorEq])
end Go.Proofs.YtekfodeknpnkbaaGreatDoor
namespace Go.Proofs.YtekfodeknpnkbaaGreatDoor
open Go.RowKit Go.VS
def zCr (s:ByteArray) (y:Nat):Nat→Nat→Nat
 | 0,_=>s.size
 | n+1,k=>if byteV s k=y then k else zCr s y n (k+1)
def cutI (s:ByteArray) (y:Nat):Nat:=zCr s y s.size 0
def zAy (s:ByteArray) (y:Nat):Bool:=decide (cutI s y<s.size)
def rcut1 (s:ByteArray) (y:Nat):ByteArray:=if zAy s y=true then s.extract 0 (cutI s y) else s
def rcut2 (s:ByteArray) (y:Nat):ByteArray:=if zAy s y=true then s.extract (cutI s y+1) s.size else ByteArray.empty
end Go.Proofs.YtekfodeknpnkbaaGreatDoor
namespace Go.Proofs.YtekfodeknpnkbaaGreatDoor
open Go.RowKit Go.VS
def zBD (book:ByteArray):ByteArray:=rcut1 book 10
def zAX (book:ByteArray):ByteArray:=rcut2 (rcut1 book 10) 32
def zBJ (book:ByteArray):ByteArray:=rcut1 (rcut2 (rcut1 book 10) 32) 32
def zA6 (book:ByteArray):ByteArray:=rcut2 (rcut2 (rcut1 book 10) 32) 32
def zCM (book:ByteArray):Line:=(zA6 book,numRV (zBJ book))
def nxIs (book:ByteArray):Bool:=zBl (zBJ book) && decide (numRV (zBJ book)≤999999)
def zCk (book:ByteArray):Bool:=zAy book 10 && (zAy (zBD book) 32 && (zAy (zAX book) 32 && (nxIs book && decide (1≤((zA6 book).size:Int)∧((zA6 book).size:Int)≤30))))
end Go.Proofs.YtekfodeknpnkbaaGreatDoor
namespace Go.Proofs.YtekfodeknpnkbaaGreatDoor
open Go.RowKit Go.VS
def nxOK (b:ByteArray) (s:Int):Bool:=zCk b && decide (lineV s (zCM b)=zBD b)
def nxSum (b:ByteArray) (s:Int):Int:=sumV s (textV (numRV (zBJ b)) (zA6 b))
def zAL:Nat→ByteArray→Int→List Line×ByteArray
 | 0,b,_=>([],b)
 | n+1,b,s=>if nxOK b s=true then (zCM b::(zAL n (rcut2 b 10) (nxSum b s)).1,(zAL n (rcut2 b 10) (nxSum b s)).2) else ([],b)
theorem zEl {n:Nat} {b:ByteArray} {s:Int} (h:nxOK b s=true):zAL (n+1) b s=(zCM b::(zAL n (rcut2 b 10) (nxSum b s)).1,(zAL n (rcut2 b 10) (nxSum b s)).2):=if_pos h
theorem zBr {n:Nat} {b:ByteArray} {s:Int} (h:¬nxOK b s=true):zAL n b s=([],b):=by
 cases n with
 | zero=>rfl
 | succ n=>exact if_neg h
end Go.Proofs.YtekfodeknpnkbaaGreatDoor
namespace Go.Proofs.YtekfodeknpnkbaaGreatDoor
open Go.RowKit Go.VS Go.ChangeMaps Go.MapKept
def formsL:List (ByteArray×Int×Int):=[(pPut,0,2),(pTake,1,2),(pWant,2,2),(pDrop,3,2),(pCost,4,3),(zI0,5,1),(zIZ,6,1)]
structure MapAt (w0 w:World) (b:Nat) (l:List (ByteArray×Int×Int)):Prop where
 new:w0.heap.size≤b
 keep:Keep (fun _=>False) w0 w
 at':∃ es clock,w.heap[b]?=some (.map es clock)∧MapIs es l
theorem zTJ (w:World):MapAt w (w.alloc (.map #[] 0)) w.heap.size [] :=
 ⟨Nat.le_refl _,⟨rfl,rfl,rfl,by simp,fun k hk _=>Below.heap_alloc w _ k hk⟩,#[],0,heap_alloc_new w _,rfl⟩
theorem zX9 {P:Program} {t k e:TypeId} (ht:P.underlying t=some (.map k e)) (hk:P.underlying k=some .string) {w0 w:World} {b:Nat} {l:List (ByteArray×Int×Int)} (h:MapAt w0 w b l) (s:ByteArray) (y:Int×Int) (hs:smHas l s=false) :
 ∃ w',(Instr.mapUpdate t (.map (some b)) (.string s) (.agg #[.int .i64 y.1,.int .i64 y.2])).run P w=.ok () w'∧MapAt w0 w' b (l++[(s,y)]):=by
 obtain ⟨h1,h2,es,cl,hb,hm⟩:=h
 have hck:(Instr.checkKey false 10000 k (.string s)).run P w=.ok () w:=by rw [show (10000:Nat)=9999+1 from rfl]; unfold Instr.checkKey; simp only [Sem.run_bind,run_underlying hk,Result.andThen_ok,Sem.run_pure]
 have hf:Instr.findNow .string (.string s) es.toList 0=some none:=by
  rcases zGf s es.toList l 0 hm with ⟨h5,_⟩|⟨j,p,_,h6⟩
  ·exact h5
  ·rw [smHas,h6] at hs; cases hs
 have hfind:(Instr.findKey k (.string s) es.toList).run P w=.ok none w:=by
  simp only [Instr.findKey,Sem.run_bind,run_underlying hk,Result.andThen_ok,hf,Sem.run_pure]
 refine ⟨setBlock w b (.map (es.push ⟨.string s,.agg #[.int .i64 y.1,.int .i64 y.2],cl⟩) (cl+1)),?_,h1,?_,_,_,heap_setBlock_same hb _,?_⟩
 ·have hset:(setObj b (.map (es.push ⟨.string s,.agg #[.int .i64 y.1,.int .i64 y.2],cl⟩) (cl+1))).run P w=.ok () (setBlock w b (.map (es.push ⟨.string s,.agg #[.int .i64 y.1,.int .i64 y.2],cl⟩) (cl+1))):=by
   exact run_setObj_map _ hb
  simp only [Instr.mapUpdate,Sem.run_bind,run_underlying ht,Result.andThen_ok,run_getObj_map w b es cl hb,hck,hfind]
  exact hset
 ·exact h2.step (M:=fun k=>k=b) ⟨rfl,rfl,rfl,by simp [setBlock],fun k hk hne=>heap_setBlock_other hb _ hne⟩ (fun k hk hlt=>by omega)
 ·show ((es.push _).toList.map _)=_
  rw [Array.toList_push,List.map_append,List.map_append,hm]
  rfl
theorem zSc {P:Program} {ops:Array Oper} {rest:List Oper} {o:Oper} {a:Act} {w w0:World} {Q:Exit→Act→World→Prop} (hg:o.guard=none) {t:TypeId} {mo x v:Operand} (hop:o.op=.insert t mo x v) {k e:TypeId}
 (ht:P.underlying t=some (.map k e)) (hk:P.underlying k=some .string) {b:Nat} {s:ByteArray} {n m:Int} {l:List (ByteArray×Int×Int)} (hm:a.eval mo=.map (some b)) (hx:a.eval x=.string s) (hv:a.eval v=.agg #[.int .i64 n,.int .i64 m])
 (h:MapAt w0 w b l) (hs:smHas l s=false) (K:∀ w',MapAt w0 w' b (l++[(s,n,m)])→wpList P ops Q rest (a.put o.dst undef) w'):wpList P ops Q (o::rest) a w:=by
 refine wpList_plain hg fun K' hK'=>?_
 obtain ⟨w',hrun,h'⟩:=zX9 ht hk h s (n,m) hs
 unfold Oper.wp
 simp [execOp,hop,hm,hx,hv,hrun,Result.andThen]
 exact hK' _ _ (K w' h')
theorem zQO (n m:Int) (w:World):(Instr.build 150 #[(0,.int .i64 n),(1,.int .i64 m)]).run Tryz.prog w=.ok (.agg #[.int .i64 n,.int .i64 m]) w:=by kernel_rfl
set_option maxRecDepth 20000 in
set_option maxHeartbeats 1000000 in
theorem zOa (w:World):Calls Tryz.prog 99 #[] w fun e w'=>∃ b,e=.returned (.map (some b))∧MapAt w w' b formsL:=by
 have h0:=zTJ w
 have hb:=zQO
 have hmk:=fun w=>run_makeMap (P:=Tryz.prog) 152 w
 go_enter Tryz.func99,Tryz.ntmps99
 go_wp2_with (refine zSc rfl rfl Tryz.underlying152 Tryz.underlying9 (b:=w.heap.size) rfl rfl rfl (by assumption) (by decide +kernel) ?_; intro w' h0')
 go_ret
 exact ⟨_,rfl,by assumption⟩
@[push_cast] def zVC:Con:=⟨[],fun _=>True,fun _=>{res:=[.val .smap formsL]}⟩
theorem zQQ:FnSpec Tryz.prog 99 zVC:=by
 refine zBW ⟨_,Tryz.func99,by kernel_rfl,rfl⟩ (fun _=>rfl) (fun _=>rfl) fun C γ x vs hpre hen=>?_
 have hlt:=hen.ownlt
 have hargs:=hen.args
 obtain rfl:vs=[]:=hargs
 refine (zOa C.w0).mono ?_
 rintro e w' ⟨b,rfl,h1,h2,es,cl,hb,hm⟩
 refine ⟨[_],rfl,⟨_,[],rfl,⟨_,⟨b,es,cl,rfl,⟨.inr (.inl h1),?_⟩,?_,hb,hm⟩,rfl⟩,rfl,rfl,rfl⟩,h2⟩
 ·cases ho:γ.own b with
  | none=>rfl
  | some l=>have:=hlt b l ho; omega
 ·exact (Array.getElem?_eq_some_iff.1 hb).1
end Go.Proofs.YtekfodeknpnkbaaGreatDoor
namespace Go.Proofs.YtekfodeknpnkbaaGreatDoor
open Go.RowKit Go.VS
theorem zAV {x y:Bool} (o:x=true→y=true) (h:y=false):x=false:=by
 cases x with
 | false=>rfl
 | true=>rw [o rfl] at h; cases h
structure StateSz (s:State):Prop where
 c:s.1.length≤1000
 row:∀ k,k<s.1.length→(s.1.getD k []).length≤1000
 a:s.2.1.length≤1000
 b:s.2.2.1.length≤1000
abbrev stSh:Sh:=.prod (.sl (.sl .int)) (.prod (.sl .int) (.prod (.sl .int) .int))
def zC1 (s:State):AS:=AS.of [(2,.one (.box 2))] [(27,.deep 38 3 .int s.1),(8,.flat 3 .int s.2.1),(11,.flat 3 .int s.2.2.1)] [(2,.rcd [.ref 27,.ref 8,.ref 11,.val .int s.2.2.2])]
def zKV (s:State):AS:=AS.of [(2,.one (.box 2))] [] [(2,.rcd [.val (.sl (.sl .int)) s.1,.val (.sl .int) s.2.1,.val (.sl .int) s.2.2.1,.val .int s.2.2.2])]
structure CloneQ (nl:Nat) (s:State) (e:Exit) (t:AS):Prop where
 e:e=.normal∨e=.ret
 h:Weak nl t (zC1 s)
set_option maxHeartbeats 4000000 in
theorem zLY {C:Ctx} (hE:KnowOK C.P (know [(103,zGw)] [])) (hnl:C.nl=0) (s:State) (hs:StateSz s) {code:Code} (hb:Tryz.f54.body=some code) :
 tri C 31 code (CloneQ 0 s) (AS.of [(0,.one (.val stSh s))] [] []):=by
 obtain ⟨c,a,b,w⟩:=s
 obtain ⟨hc,hrow,ha,hbl⟩:=hs
 dsimp only at *
 have hb':code=(Tryz.f54.body).getD .skip:=by rw [hb]; rfl
 subst hb'
 clear hb
 show tri C 31 _ _ _
 dsimp only [Tryz.f54]
 simp only [Option.getD_some]
 have hnl0:=hnl
 replace hnl:=And.intro hnl (And.intro ha hbl)
 repeat' (first|(refine goK (by assumption) ?_; iterate 4 (try clear hK K))|(refine zAb fun K hK=>?_)|(refine zAa hE rfl ?_; simp +contextual only [hnl,↓kA,push_cast,seval,reduceCtorEq])|refine andS ?_|fail)
 refine zBL hE (fun D s=>(D 8=true→D 2=true) ∧
  (D 8=true→D 5=true) ∧
  (D 10=true→D 8=true) ∧
  (D 10=true→D 9=true) ∧
  s.boxes 1=some (.one (.val (.prod (.sl (.sl .int)) (.prod (.sl .int) (.prod (.sl .int) .int))) (c,a,b,w))) ∧
  s.boxes 2=some (.rcd [.nils,.nils,.nils,.val .int 0]) ∧
  s.env 1=.one (.box 1) ∧
  s.env 2=.one (.box 2) ∧
  (D 2=true→s.roots 8=some (.flat 3 .int a)) ∧
  (D 5=true→s.roots 11=some (.flat 3 .int b)) ∧
  (D 0=true→s.env 6=.one (.boxf 1 4 1 1)) ∧
  (D 1=true→s.env 7=.one (.val (.sl .int) a)) ∧
  (D 2=true→s.env 8=.one (.ref 8)) ∧
  (D 3=true→s.env 9=.one (.boxf 1 4 2 2)) ∧
  (D 4=true→s.env 10=.one (.val (.sl .int) b)) ∧
  (D 5=true→s.env 11=.one (.ref 11)) ∧
  (D 6=true→s.env 12=.one (.boxf 1 4 3 3)) ∧
  (D 7=true→s.env 13=.one (.val .int w)) ∧
  (D 8=true→s.env 14=.rcd [.nils,.ref 8,.ref 11,.val .int w]) ∧
  (D 9=true→s.env 3=.one (.box 3)) ∧
  (D 9=true→D 10=false→s.boxes 3=some (.rcd [.nils,.nils,.nils,.val .int 0])) ∧
  (D 10=true→s.boxes 3=some (.rcd [.nils,.ref 8,.ref 11,.val .int w]))) rfl (by kernel_rfl) ?_ ?_ ?_
 ·dsimp only
  simp only [push_cast,seval,reduceCtorEq]
 ·refine ⟨fun D s h0 hp hI=>?_,fun D s h0 hp hI=>?_,fun D s h0 hp hI=>?_,fun D s h0 hp hI=>?_,fun D s h0 hp hI=>?_,fun D s h0 hp hI=>?_,fun D s h0 hp hI=>?_,fun D s h0 hp hI=>?_,fun D s h0 hp hI=>?_,fun D s h0 hp hI=>?_,fun D s h0 hp hI=>?_,trivial⟩
  all_goals obtain ⟨o1,o2,o3,o4,q1,q2,e1,e2,r8,r11,f0,f1,f2,f3,f4,f5,f6,f7,f8,f9,g9,f10⟩:=hI
  all_goals replace hp:=List.all_eq_true.1 hp
  ·simp +contextual only [hnl,h0,o1,o2,o3,o4,q1,q2,e1,e2,r8,r11,f0,f1,f2,f3,f4,f5,f6,f7,f8,f9,g9,f10,setD,↓kN,↓kP,push_cast,seval,reduceCtorEq]
  ·have d0:=hp 0 (by decide)
   simp +contextual only [d0,hnl,h0,o1,o2,o3,o4,q1,q2,e1,e2,r8,r11,f0,f1,f2,f3,f4,f5,f6,f7,f8,f9,g9,f10,setD,↓kN,↓kP,push_cast,seval,reduceCtorEq]
  ·have d1:=hp 1 (by decide)
   have n8:=zAV o1 h0
   have n10:=zAV o3 n8
   simp +contextual only [d1,n8,n10,hnl,h0,o1,o2,o3,o4,q1,q2,e1,e2,r8,r11,f0,f1,f2,f3,f4,f5,f6,f7,f8,f9,g9,f10,setD,↓kN,↓kP,push_cast,seval,reduceCtorEq]
  ·simp +contextual only [hnl,h0,o1,o2,o3,o4,q1,q2,e1,e2,r8,r11,f0,f1,f2,f3,f4,f5,f6,f7,f8,f9,g9,f10,setD,↓kN,↓kP,push_cast,seval,reduceCtorEq]
  ·have d3:=hp 3 (by decide)
   simp +contextual only [d3,hnl,h0,o1,o2,o3,o4,q1,q2,e1,e2,r8,r11,f0,f1,f2,f3,f4,f5,f6,f7,f8,f9,g9,f10,setD,↓kN,↓kP,push_cast,seval,reduceCtorEq]
  ·have d4:=hp 4 (by decide)
   have n8:=zAV o2 h0
   have n10:=zAV o3 n8
   simp +contextual only [d4,n8,n10,hnl,h0,o1,o2,o3,o4,q1,q2,e1,e2,r8,r11,f0,f1,f2,f3,f4,f5,f6,f7,f8,f9,g9,f10,setD,↓kN,↓kP,push_cast,seval,reduceCtorEq]
  ·simp +contextual only [hnl,h0,o1,o2,o3,o4,q1,q2,e1,e2,r8,r11,f0,f1,f2,f3,f4,f5,f6,f7,f8,f9,g9,f10,setD,↓kN,↓kP,push_cast,seval,reduceCtorEq]
  ·have d6:=hp 6 (by decide)
   simp +contextual only [d6,hnl,h0,o1,o2,o3,o4,q1,q2,e1,e2,r8,r11,f0,f1,f2,f3,f4,f5,f6,f7,f8,f9,g9,f10,setD,↓kN,↓kP,push_cast,seval,reduceCtorEq]
  ·have d2:=hp 2 (by decide)
   have d5:=hp 5 (by decide)
   have d7:=hp 7 (by decide)
   have n10:=zAV o3 h0
   simp +contextual only [d2,d5,d7,n10,hnl,h0,o1,o2,o3,o4,q1,q2,e1,e2,r8,r11,f0,f1,f2,f3,f4,f5,f6,f7,f8,f9,g9,f10,setD,↓kN,↓kP,push_cast,seval,reduceCtorEq]
  ·have n10:=zAV o4 h0
   simp +contextual only [n10,hnl,h0,o1,o2,o3,o4,q1,q2,e1,e2,r8,r11,f0,f1,f2,f3,f4,f5,f6,f7,f8,f9,g9,f10,setD,↓kN,↓kP,push_cast,seval,reduceCtorEq]
  ·have d8:=hp 8 (by decide)
   have d9:=hp 9 (by decide)
   simp +contextual only [d8,d9,hnl,h0,o1,o2,o3,o4,q1,q2,e1,e2,r8,r11,f0,f1,f2,f3,f4,f5,f6,f7,f8,f9,g9,f10,setD,↓kN,↓kP,push_cast,seval,reduceCtorEq]
 intro D s hD hI
 obtain ⟨o1,o2,o3,o4,q1,q2,e1,e2,r8,r11,f0,f1,f2,f3,f4,f5,f6,f7,f8,f9,g9,f10⟩:=hI
 have v1:=r8 (hD 2 (by decide))
 have v2:=r11 (hD 5 (by decide))
 have v3:=f10 (hD 10 (by decide))
 have v4:=f9 (hD 9 (by decide))
 refine goK hK ?_
 refine zAo (t:=AS.of [(1,.one (.box 1)),(2,.one (.box 2)),(3,.one (.box 3))] [(8,.flat 3 .int a),(11,.flat 3 .int b)] [(1,.one (.val stSh (c,a,b,w))),(2,.rcd [.nils,.nils,.nils,.val .int 0]),(3,.rcd [.nils,.ref 8,.ref 11,.val .int w])]) ?_ ?_
 ·refine zAf ?_ ?_ ?_<;>simp only [v1,v2,v3,v4,q1,q2,e1,e2,push_cast,seval,reduceCtorEq]
 clear hK hD
 repeat' (first|(refine goK (by assumption) ?_; iterate 4 (try clear hK K))|(refine zAb fun K hK=>?_)|(refine zAa hE rfl ?_; simp +contextual only [hnl,↓kA,push_cast,seval,reduceCtorEq])|refine zAd ?_|fail)
 refine zAk (fun k:Nat=>AS.of [(2,.one (.box 2)),(3,.one (.box 3)),(16,.one (.val (.sl (.sl .int)) c)),(17,.I (c.length:Nat)),(18,.I (k:Nat))] [(27,.deep 38 3 .int (c.take k)),(8,.flat 3 .int a),(11,.flat 3 .int b)] [(2,.rcd [.nils,.nils,.nils,.val .int 0]),(3,.rcd [.ref 27,.ref 8,.ref 11,.val .int w])]) (fun k=>k≤c.length) (fun k=>c.length - k) 0 (Nat.zero_le _) ?_ ?_
 ·refine zAf ?_ ?_ ?_<;>simp only [push_cast,seval,reduceCtorEq]
  all_goals first|omega|rfl|exact ⟨by omega,rfl⟩|skip
 intro k hk K' hL
 rcases Nat.lt_or_ge k c.length with hkl|hkl
 ·have hrk:=hrow k hkl
  have htl:(c.take k).length≤1000000:=by rw [List.length_take]; omega
  have hst:c.take k++[c.getD k []]=c.take (k+1):=by
   rw [List.take_succ_eq_append_getElem hkl]
   simp [List.getD_eq_getElem?_getD,hkl]
  replace hnl:=And.intro hnl (And.intro hrk (And.intro htl hst))
  repeat' (first|(refine goK (by assumption) ?_; iterate 4 (try clear hK K))|(refine zAb fun K hK=>?_)|(refine zAa hE rfl ?_; simp +contextual only [hnl,↓kA,push_cast,seval,reduceCtorEq])|refine zAd ?_|(refine zAg ?_; simp only [thenQ,zAh,if_true,if_false,Nat.reduceEqDiff,reduceCtorEq])|(refine zAe (by rfl) (fun hb=>?_) (fun hb=>?_)<;>(try simp only [bq,reduceCtorEq] at hb)<;>(try omega))|refine andS ?_|fail)
  refine zBL hE (fun D s=>(D 5=true→D 1=true) ∧
   (D 5=true→D 4=true) ∧
   (D 4=true→D 3=true) ∧
   (D 7=true→D 5=true) ∧
   s.env 2=.one (.box 2) ∧
   s.env 3=.one (.box 3) ∧
   s.env 5=.one (.val (.sl .int) (c.getD k [])) ∧
   s.env 16=.one (.val (.sl (.sl .int)) c) ∧
   s.env 17=.I (c.length:Nat) ∧
   s.env 18=.I (k:Nat) ∧
   s.boxes 2=some (.rcd [.nils,.nils,.nils,.val .int 0]) ∧
   s.roots 8=some (.flat 3 .int a) ∧
   s.roots 11=some (.flat 3 .int b) ∧
   s.roots 27=some (.deep 38 3 .int (if D 5=true then c.take (k+1) else c.take k)) ∧
   (D 3=true→D 5=false→s.roots 25=some (.flat 3 .int (c.getD k []))) ∧
   (D 5=false→s.boxes 3=some (.rcd [.ref 27,.ref 8,.ref 11,.val .int w])) ∧
   (D 5=true→D 7=false→s.boxes 3=some (.rcd [.any,.ref 8,.ref 11,.val .int w])) ∧
   (D 7=true→s.boxes 3=some (.rcd [.ref 27,.ref 8,.ref 11,.val .int w])) ∧
   (D 0=true→s.env 22=.one (.boxf 3 4 0 0)) ∧
   (D 1=true→D 5=false→s.env 23=.one (.ref 27)) ∧
   (D 2=true→s.env 24=.one (.val (.sl .int) (c.getD k []))) ∧
   (D 3=true→D 5=false→s.env 25=.one (.ref 25)) ∧
   (D 4=true→D 5=false→s.env 26=.one (.lits 25)) ∧
   (D 5=true→s.env 27=.one (.ref 27)) ∧
   (D 6=true→s.env 28=.one (.boxf 3 4 0 0))) rfl (by kernel_rfl) ?_ ?_ ?_
  ·dsimp only
   simp only [push_cast,seval,reduceCtorEq]
  ·refine ⟨fun D s h0 hp hI=>?_,fun D s h0 hp hI=>?_,fun D s h0 hp hI=>?_,fun D s h0 hp hI=>?_,fun D s h0 hp hI=>?_,fun D s h0 hp hI=>?_,fun D s h0 hp hI=>?_,fun D s h0 hp hI=>?_,trivial⟩
   all_goals obtain ⟨o1,o2,o3,o4,e2,e3,e5,e16,e17,e18,q2,r8,r11,r27,r25,q3,q5,q7,f0,f1,f2,f3,f4,f5,f6⟩:=hI
   all_goals replace hp:=List.all_eq_true.1 hp
   ·simp +contextual only [hnl,h0,o1,o2,o3,o4,e2,e3,e5,e16,e17,e18,q2,r8,r11,r27,r25,q3,q5,q7,f0,f1,f2,f3,f4,f5,f6,setD,↓kN,↓kP,push_cast,seval,reduceCtorEq]
   ·have d0:=hp 0 (by decide)
    have n5:=zAV o1 h0
    have n7:=zAV o4 n5
    simp +contextual only [d0,n5,n7,hnl,h0,o1,o2,o3,o4,e2,e3,e5,e16,e17,e18,q2,r8,r11,r27,r25,q3,q5,q7,f0,f1,f2,f3,f4,f5,f6,setD,↓kN,↓kP,push_cast,seval,reduceCtorEq]
   ·simp +contextual only [hnl,h0,o1,o2,o3,o4,e2,e3,e5,e16,e17,e18,q2,r8,r11,r27,r25,q3,q5,q7,f0,f1,f2,f3,f4,f5,f6,setD,↓kN,↓kP,push_cast,seval,reduceCtorEq]
   ·have d2:=hp 2 (by decide)
    have n4:=zAV o3 h0
    have n5:=zAV o2 n4
    have n7:=zAV o4 n5
    simp +contextual only [d2,n4,n5,n7,hnl,h0,o1,o2,o3,o4,e2,e3,e5,e16,e17,e18,q2,r8,r11,r27,r25,q3,q5,q7,f0,f1,f2,f3,f4,f5,f6,setD,↓kN,↓kP,push_cast,seval,reduceCtorEq]
   ·have d3:=hp 3 (by decide)
    have n5:=zAV o2 h0
    have n7:=zAV o4 n5
    simp +contextual only [d3,n5,n7,hnl,h0,o1,o2,o3,o4,e2,e3,e5,e16,e17,e18,q2,r8,r11,r27,r25,q3,q5,q7,f0,f1,f2,f3,f4,f5,f6,setD,↓kN,↓kP,push_cast,seval,reduceCtorEq]
   ·have d1:=hp 1 (by decide)
    have d4:=hp 4 (by decide)
    have n7:=zAV o4 h0
    have d3:=o3 d4
    simp +contextual only [d1,d4,n7,d3,hnl,h0,o1,o2,o3,o4,e2,e3,e5,e16,e17,e18,q2,r8,r11,r27,r25,q3,q5,q7,f0,f1,f2,f3,f4,f5,f6,setD,↓kN,↓kP,push_cast,seval,reduceCtorEq]
   ·simp +contextual only [hnl,h0,o1,o2,o3,o4,e2,e3,e5,e16,e17,e18,q2,r8,r11,r27,r25,q3,q5,q7,f0,f1,f2,f3,f4,f5,f6,setD,↓kN,↓kP,push_cast,seval,reduceCtorEq]
   ·have d5:=hp 5 (by decide)
    have d6:=hp 6 (by decide)
    simp +contextual only [d5,d6,hnl,h0,o1,o2,o3,o4,e2,e3,e5,e16,e17,e18,q2,r8,r11,r27,r25,q3,q5,q7,f0,f1,f2,f3,f4,f5,f6,setD,↓kN,↓kP,push_cast,seval,reduceCtorEq]
  intro D s hD hI
  obtain ⟨o1,o2,o3,o4,e2,e3,e5,e16,e17,e18,q2,r8,r11,r27,r25,q3,q5,q7,f0,f1,f2,f3,f4,f5,f6⟩:=hI
  have v1:=r27
  rw [if_pos (hD 5 (by decide))] at v1
  have v3:=q7 (hD 7 (by decide))
  refine goK hK ?_
  refine zAo (t:=AS.of [(2,.one (.box 2)),(3,.one (.box 3)),(16,.one (.val (.sl (.sl .int)) c)),(17,.I (c.length:Nat)),(18,.I (k:Nat))] [(27,.deep 38 3 .int (c.take (k+1))),(8,.flat 3 .int a),(11,.flat 3 .int b)] [(2,.rcd [.nils,.nils,.nils,.val .int 0]),(3,.rcd [.ref 27,.ref 8,.ref 11,.val .int w])]) ?_ ?_
  ·refine zAf ?_ ?_ ?_<;>simp only [v1,v3,r8,r11,q2,e2,e3,e16,e17,e18,push_cast,seval,reduceCtorEq]
  clear hK hD
  repeat' (first|(refine zAa hE rfl ?_; simp +contextual only [hnl,↓kA,push_cast,seval,reduceCtorEq])|refine andS ?_|fail)
  refine hL _ (k+1) (by omega) (by omega) ?_
  refine zAf ?_ ?_ ?_<;>simp only [push_cast,seval,reduceCtorEq]
 ·obtain rfl:k=c.length:=by omega
  clear hL
  repeat' (first|(refine goK (by assumption) ?_; iterate 4 (try clear hK K))|(refine zAb fun K hK=>?_)|((first|refine zAa hE rfl ?_|refine zAi ?_); simp +contextual only [hnl,↓kA,push_cast,seval,reduceCtorEq])|(refine zAj ?_; simp only [thenQ,zAh,if_true,if_false,Nat.reduceEqDiff,reduceCtorEq])|(refine zAe (by rfl) (fun hb=>?_) (fun hb=>?_)<;>(try simp only [bq,reduceCtorEq] at hb)<;>(try omega))|fail)
  all_goals ((try refine zAi ?_); refine ⟨.inr rfl,?_⟩; unfold zC1; dsimp only; refine zAf ?_ ?_ ?_<;>simp only [push_cast,seval,reduceCtorEq]; exact .inl (by rw [List.take_length]))
def zSI:Know:=know [(103,zGw)] []
theorem zLX:KnowOK Tryz.prog zSI:=zAl (all_cons zJJ all_nil) all_nil all_nil
@[push_cast] def zEw:Con:=⟨[.dat stSh],fun (x:State×Unit)=>StateSz x.1,fun (x:State×Unit)=>{res:=[.val stSh x.1]}⟩
theorem stClone_spec:FnSpec Tryz.prog 54 zEw:=by
 refine FnSpec.of_tri' (E:=zSI) zLX Tryz.func54 rfl rfl (by kernel_rfl) ?_
 intro C x hE hnl hfit hpre
 simp only [Tryz.ntmps54,Tryz.results54,lends] at hnl ⊢
 obtain ⟨s,_⟩:=x
 refine zLH (zLH (zWZ (zLY hE hnl s hpre rfl) ?_))
 rintro e t ⟨he,hw⟩
 refine ⟨zC1 s,by rw [hnl]; exact hw,zKV s,?_,?_⟩
 ·unfold zC1 zKV
  refine zAf ?_ ?_ ?_<;>simp only [push_cast,seval,reduceCtorEq]
 ·unfold zKV
  rcases he with rfl|rfl<;>simp only [zSI,hnl,push_cast,seval,reduceCtorEq]
end Go.Proofs.YtekfodeknpnkbaaGreatDoor
namespace Go.Proofs.YtekfodeknpnkbaaGreatDoor
open Go.RowKit Go.VS
def hw (t:ByteArray) (i:Nat):ByteArray:=(zAB t spS).getD i ByteArray.empty
def zFl (s:ByteArray):Bool:=zDG s && decide (0≤atoiV s) && decide (atoiV s≤99999) && decide (itoaV (atoiV s)=s)
def hform (t:ByteArray):Int×Int:=smGet formsL (hw t 0)
def hpOK (t:ByteArray):Bool:=decide (1≤t.size∧t.size≤30) && smHas formsL (hw t 0) && decide (((zAB t spS).length:Int)=(hform t).2+1) && (List.range ((zAB t spS).length - 1)).all fun i=>zFl (hw t (i+1))
def zJ0 (t:ByteArray) (k:Nat):List Int:=tbl k fun i=>atoiV (hw t (i+1))
def hargs (t:ByteArray):List Int:=zJ0 t ((zAB t spS).length - 1)
section
variable {t:ByteArray} {k:Nat}
theorem zCe:hpOK t=true↔((1≤t.size∧t.size≤30)∧smHas formsL (hw t 0)=true∧((zAB t spS).length:Int)=(hform t).2+1)∧∀ i,i<(zAB t spS).length - 1→zFl (hw t (i+1))=true:=by
 simp only [hpOK,Bool.and_eq_true,decide_eq_true_eq,List.all_eq_true,List.mem_range,and_assoc]
theorem zZN (h:¬(1≤t.size∧t.size≤30)):hpOK t=false:=by
 rw [Bool.eq_false_iff]; exact fun h2=>h (zCe.1 h2).1.1
theorem zZO (h:¬smHas formsL (hw t 0)=true):hpOK t=false:=by
 rw [Bool.eq_false_iff]; exact fun h2=>h (zCe.1 h2).1.2.1
theorem zZP (h:¬((zAB t spS).length:Int)=(hform t).2+1):hpOK t=false:=by
 rw [Bool.eq_false_iff]; exact fun h2=>h (zCe.1 h2).1.2.2
theorem zZQ (hk:k<(zAB t spS).length - 1) (h:¬zFl (hw t (k+1))=true):hpOK t=false:=by
 rw [Bool.eq_false_iff]; exact fun h2=>h ((zCe.1 h2).2 k hk)
theorem zHb {s:ByteArray}:zFl s=true↔zDG s=true∧0≤atoiV s∧atoiV s≤99999∧itoaV (atoiV s)=s:=by
 simp only [zFl,Bool.and_eq_true,decide_eq_true_eq,and_assoc]
theorem zLC (k:ByteArray):0≤(smGet formsL k).1∧(smGet formsL k).1≤6∧0≤(smGet formsL k).2∧(smGet formsL k).2≤3:=by
 unfold smGet
 cases h:formsL.find? (fun p=>decide (p.1=k)) with
 | none=>exact ⟨by decide,by decide,by decide,by decide⟩
 | some p =>
  have hm:=List.mem_of_find?_eq_some h
  simp only [formsL,List.mem_cons,List.not_mem_nil,or_false] at hm
  rcases hm with rfl|rfl|rfl|rfl|rfl|rfl|rfl<;>exact ⟨by decide,by decide,by decide,by decide⟩
end
@[push_cast] def zGD:Con:=⟨[.dat .str],fun _=>True,fun (x:ByteArray×Unit) =>
 {res:=[.val .int (if hpOK x.1=true then (hform x.1).1 else 0),.own (.flat 3 .int (if hpOK x.1=true then hargs x.1 else [])),.val (.err 147) (if hpOK x.1=true then 0 else 2)]}⟩
set_option maxHeartbeats 4000000 in
theorem zOf:FnSpec Tryz.prog 52 zGD:=by
 refine FnSpec.of_tri' (E:=know _ [] [] []) (zAl (kc zKt (kc zQQ (kc zIl (kc zGF all_nil)))) all_nil all_nil) Tryz.func52 rfl rfl (by kernel_rfl) ?_
 intro C x hE hnl hfit hpre
 simp only [Tryz.ntmps52,Tryz.results52,maxLen,seval,push_cast] at hnl hfit hpre ⊢
 obtain ⟨(t:ByteArray),_⟩:=x
 dsimp only at hfit hpre ⊢
 by_cases h1:1≤t.size∧t.size≤30
 rotate_left
 ·have e:=zZN h1
  replace hnl:=And.intro hnl (And.intro e zNb)
  exact auD
 have hsp:spS.size=1:=rfl
 have hpos:1≤(zAB t spS).length:=by rw [zFY t spS (by omega)]; omega
 have hlen:=zKr t spS (by omega)
 have hw0:(zAB t spS).getD 0 ByteArray.empty=hw t 0:=rfl
 have hfo:smGet formsL (hw t 0)=hform t:=rfl
 obtain ⟨f1,f2,f3,f4⟩:=zLC (hw t 0)
 rw [hfo] at f1 f2 f3 f4
 have hnl1:=hnl
 replace hnl:=And.intro hnl (And.intro zNb (And.intro hw0 (And.intro hfo hsp)))
 repeat' (first|(refine goK (by assumption) ?_; iterate 4 (try clear hK K))|(refine zAb fun K hK=>?_)|(refine zAa hE rfl ?_; simp +contextual only [hnl,↓kA,push_cast,seval,reduceCtorEq])|(refine zAg ?_; simp only [thenQ,zAh,if_true,if_false,Nat.reduceEqDiff,reduceCtorEq])|(refine zAe (by rfl) (fun hb=>?_) (fun hb=>?_)<;>(try simp only [bq,reduceCtorEq] at hb)<;>(try omega))|refine andS ?_|(refine ⟨fun hc=>?_,fun hc=>?_⟩)|fail)
 refine zBL hE (fun D s=>(D 9=true→D 8=true) ∧
  s.env 5=.one (.val (.sl .str) (zAB t spS)) ∧
  (D 0=true→s.env 26=.one (.val .smap formsL)) ∧
  (D 1=true→s.env 27=.one (.val (.sl .str) (zAB t spS))) ∧
  (D 2=true→s.env 28=.one (.padr .str (hw t 0))) ∧
  (D 3=true→s.env 29=.one (.val .str (hw t 0))) ∧
  (D 4=true→s.env 30=.tup [.val (.prod .int .int) (hform t),.val .bool (smHas formsL (hw t 0))]) ∧
  (D 5=true→s.env 25=.tup [.val (.prod .int .int) (hform t),.val .bool (smHas formsL (hw t 0))]) ∧
  (D 6=true→s.env 31=.one (.val (.prod .int .int) (hform t))) ∧
  (D 7=true→s.env 32=.one (.val .bool (smHas formsL (hw t 0)))) ∧
  (D 8=true→s.env 6=.one (.box 6)) ∧
  (D 8=true→D 9=false→s.boxes 6=some (.rcd [.val .int 0,.val .int 0])) ∧
  (D 9=true→s.boxes 6=some (.one (.val (.prod .int .int) (hform t)))) ∧
  (D 10=true→s.env 7=.one (.val .bool (smHas formsL (hw t 0))))) rfl (by kernel_rfl) ?_ ?_ ?_
 ·dsimp only
  simp only [push_cast,seval,reduceCtorEq]
 ·refine ⟨fun D s h0 hp hI=>?_,fun D s h0 hp hI=>?_,fun D s h0 hp hI=>?_,fun D s h0 hp hI=>?_,fun D s h0 hp hI=>?_,fun D s h0 hp hI=>?_,fun D s h0 hp hI=>?_,fun D s h0 hp hI=>?_,fun D s h0 hp hI=>?_,fun D s h0 hp hI=>?_,fun D s h0 hp hI=>?_,trivial⟩
  all_goals obtain ⟨o1,e5,f0,f1,f2,f3,f4,f5,f6,f7,f8,g8,f9,f10⟩:=hI
  all_goals (try simp [preds,Region.binds] at hp)
  all_goals (try have n0x:=zAV o1 h0)
  all_goals (simp +contextual only [*,setD,↓kN,↓kP,push_cast,seval,reduceCtorEq])
  all_goals first|omega|(refine And.intro ?_ ?_<;>omega)|rfl
 intro D s hD hI
 obtain ⟨o1,e5,f0,f1,f2,f3,f4,f5,f6,f7,f8,g8,f9,f10⟩:=hI
 have v1:=f8 (hD 8 (by decide))
 have v2:=f9 (hD 9 (by decide))
 have v3:=f10 (hD 10 (by decide))
 refine goK hK ?_
 refine zAo (t:=AS.of [(5,.one (.val (.sl .str) (zAB t spS))),(6,.one (.box 6)),(7,.one (.val .bool (smHas formsL (hw t 0))))] [] [(6,.one (.val (.prod .int .int) (hform t)))]) ?_ ?_
 ·refine zAf ?_ ?_ ?_<;>simp only [v1,v2,v3,e5,push_cast,seval,reduceCtorEq]
  all_goals first|exact ⟨_,rfl⟩|skip
 clear hK hD
 replace hnl:=hnl1
 by_cases h2:smHas formsL (hw t 0)=true
 rotate_left
 ·have e:=zZO h2
  rw [Bool.not_eq_true] at h2
  replace hnl:=And.intro hnl (And.intro e h2)
  exact auD
 by_cases h3:((zAB t spS).length:Int)=(hform t).2+1
 rotate_left
 ·have e:=zZP h3
  replace hnl:=And.intro hnl (And.intro e (And.intro h2 (eq_false h3)))
  exact auD
 replace hnl:=And.intro hnl (And.intro h2 (eq_true h3))
 repeat' (first|(refine goK (by assumption) ?_; iterate 4 (try clear hK K))|(refine zAb fun K hK=>?_)|(refine zAa hE rfl ?_; simp +contextual only [hnl,↓kA,push_cast,seval,reduceCtorEq])|refine zAd ?_|(refine zAg ?_; simp only [thenQ,zAh,if_true,if_false,Nat.reduceEqDiff,reduceCtorEq])|(refine zAe (by rfl) (fun hb=>?_) (fun hb=>?_)<;>(try simp only [bq,reduceCtorEq] at hb)<;>(try omega))|refine andS ?_|fail)
 refine zAk (fun k:Nat=>AS.of [(6,.one (.box 6)),(8,.one (.ref 78)),(46,.one (.val (.sl .str) ((zAB t spS).drop 1))),(47,.I ((zAB t spS).length - 1:Nat)),(48,.I k)] [(78,.flat 3 .int (zJ0 t k))] [(6,.one (.val (.prod .int .int) (hform t)))]) (fun k=>k≤(zAB t spS).length - 1∧∀ i,i<k→zFl (hw t (i+1))=true) (fun k=>(zAB t spS).length - 1 - k) 0 ⟨Nat.zero_le _,by omega⟩ ?_ ?_
 ·refine zAf ?_ ?_ ?_<;>simp only [push_cast,seval,reduceCtorEq]
  all_goals first|omega|rfl|exact ⟨by omega,rfl⟩|(rw [List.length_drop])|skip
 intro k ⟨hk,hall⟩ K' hL
 have hal:(zJ0 t k).length=k:=zAZ _ _
 have hdl:((zAB t spS).drop 1).length=(zAB t spS).length - 1:=List.length_drop ..
 rcases Nat.lt_or_ge k ((zAB t spS).length - 1) with hkl|hkl
 ·have hwk:((zAB t spS).drop 1).getD k ByteArray.empty=hw t (k+1):=by
   simp only [List.getD_eq_getElem?_getD,List.getElem?_drop,hw]
   rw [Nat.add_comm]
  have hws:(hw t (k+1)).size≤30:=by
   have:=zKs t spS (hw t (k+1)) (by
    have hk1:k+1<(zAB t spS).length:=by omega
    simp only [hw,List.getD_eq_getElem?_getD,List.getElem?_eq_getElem hk1,Option.getD_some]
    exact List.getElem_mem _)
   omega
  replace hnl:=And.intro hnl (And.intro hwk (And.intro hdl hal))
  by_cases h4:zFl (hw t (k+1))=true
  ·obtain ⟨q1,q2,q3,q4⟩:=zHb.1 h4
   have hst:zJ0 t (k+1)=zJ0 t k++[atoiV (hw t (k+1))]:=zD9 _ _
   have hin:InR (atoiV (hw t (k+1))):=by unfold InR; omega
   replace hnl:=And.intro hnl (And.intro q1 (And.intro q4 (eq_true hin)))
   repeat' (first|(refine goK (by assumption) ?_; iterate 4 (try clear hK K))|(refine zAb fun K hK=>?_)|(refine zAa hE rfl ?_; simp +contextual only [hnl,↓kA,push_cast,seval,reduceCtorEq])|refine zAd ?_|(refine zAg ?_; simp only [thenQ,zAh,if_true,if_false,Nat.reduceEqDiff,reduceCtorEq])|(refine zAe (by rfl) (fun hb=>?_) (fun hb=>?_)<;>(try simp only [bq,reduceCtorEq] at hb)<;>(try omega))|refine andS ?_|(refine ⟨fun hc=>?_,fun hc=>?_⟩)|fail)
   refine hL _ (k+1) ⟨by omega,fun i hi=>?_⟩ (by omega) ?_
   ·rcases Nat.lt_or_ge i k with h5|h5
    ·exact hall i h5
    ·obtain rfl:i=k:=by omega
     exact h4
   refine zAf ?_ ?_ ?_<;>simp only [push_cast,seval,reduceCtorEq]
   exact .inl (by rw [hst])
  ·have e:=zZQ hkl h4
   cases q1:zDG (hw t (k+1)) with
   | false =>
    replace hnl:=And.intro hnl (And.intro q1 e)
    exact auD
   | true =>
    by_cases q2:atoiV (hw t (k+1))<0
    ·replace hnl:=And.intro hnl (And.intro q1 (And.intro e (eq_true q2)))
     exact auD
    by_cases q3:99999<atoiV (hw t (k+1))
    ·replace hnl:=And.intro hnl (And.intro q1 (And.intro e (And.intro (eq_false q2) (eq_true q3))))
     exact auD
    have q4:¬itoaV (atoiV (hw t (k+1)))=hw t (k+1):=fun h=>h4 (zHb.2 ⟨q1,by omega,by omega,h⟩)
    have hin:InR (atoiV (hw t (k+1))):=by unfold InR; omega
    replace hnl:=And.intro hnl (And.intro q1 (And.intro e (And.intro (eq_false q2) (And.intro (eq_false q3) (And.intro (eq_false q4) (eq_true hin))))))
    exact auD
 ·obtain rfl:k=(zAB t spS).length - 1:=by omega
  have e:hpOK t=true:=zCe.2 ⟨⟨h1,h2,h3⟩,hall⟩
  replace hnl:=And.intro hnl (And.intro e hdl)
  repeat' (first|(refine goK (by assumption) ?_; iterate 4 (try clear hK K))|(refine zAb fun K hK=>?_)|((first|refine zAa hE rfl ?_|refine zAi ?_); simp +contextual only [hnl,↓kA,push_cast,seval,reduceCtorEq])|(refine zAj ?_; simp only [thenQ,zAh,if_true,if_false,Nat.reduceEqDiff,reduceCtorEq])|(refine zAe (by rfl) (fun hb=>?_) (fun hb=>?_)<;>(try simp only [bq,reduceCtorEq] at hb)<;>(try omega))|fail)
  all_goals first|rfl|skip
end Go.Proofs.YtekfodeknpnkbaaGreatDoor
