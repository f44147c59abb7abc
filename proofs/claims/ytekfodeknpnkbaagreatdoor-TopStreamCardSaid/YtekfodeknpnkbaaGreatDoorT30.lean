import Derived.Test.YtekfodeknpnkbaaGreatDoorT29
set_option linter.unusedSimpArgs false
set_option linter.unusedVariables false
namespace Go.Proofs.YtekfodeknpnkbaaGreatDoor
open Go.RowKit Go.VS Go.OT Go.LC
section
variable {a b:List Int} {c:List (List Int)} {w:Int}
theorem zUO (l:List Int) {n:Nat} (h:l.length=n):tbl n (fun i=>l.getD i 0)=l:=by
 apply List.ext_getElem
 ·rw [zAZ,h]
 ·intro i h1 h2
  have:=zBu (n:=n) (fun i=>l.getD i 0) (0:Int) (show i<n by rw [←h]; exact h2)
  rw [List.getD_eq_getElem?_getD,List.getElem?_eq_getElem h1,List.getD_eq_getElem?_getD,List.getElem?_eq_getElem h2] at this
  exact this
theorem zQg (f:Nat→Int) {m n:Nat} (h:m≤n):(tbl n f).take m=tbl m f:=by
 apply List.ext_getElem
 ·rw [List.length_take,zAZ,zAZ]; omega
 ·intro i h1 h2
  rw [zAZ] at h2
  have e1:=zBu (n:=n) f (0:Int) (show i<n by omega)
  have e2:=zBu (n:=m) f (0:Int) h2
  rw [List.getElem_take]
  rw [List.getD_eq_getElem?_getD,List.getElem?_eq_getElem (by rw [zAZ]; omega)] at e1 e2
  exact e1.trans e2.symm
theorem zZ8 (h:LpOK a b c w):lpRk a b c w 0=(lpS a b c w).r:=by
 refine Eq.trans ?_ (zUO _ h.l1)
 exact zAD fun i _=>if_neg (Nat.not_lt_zero i)
theorem zZ7 (h:LpOK a b c w):lpCk a b c w 0=(lpS a b c w).k:=by
 refine Eq.trans ?_ (zUO _ h.l2)
 exact zAD fun i _=>if_neg (Nat.not_lt_zero i)
theorem zWa (k:Nat):(lpRk a b c w k).length=a.length+1:=zAZ _ _
theorem zV8 (k:Nat):(lpCk a b c w k).length=b.length+1:=zAZ _ _
theorem zTG {k i:Nat} (h:k≤i) (hi:i<a.length+1):(lpRk a b c w k).getD i 0=(lpS a b c w).r.getD i 0:=by
 unfold lpRk
 rw [zBu _ _ hi,if_neg (by omega)]
theorem zYn {k i:Nat} (h:k≤i) (hi:i<b.length+1):(lpCk a b c w k).getD i 0=(lpS a b c w).k.getD i 0:=by
 unfold lpCk
 rw [zBu _ _ hi,if_neg (by omega)]
theorem zTH {k:Nat} (hk:k<a.length) {x:Int} (hx:x=(lpS a b c w).r.getD k 0+(lpS a b c w).k.getD b.length 0):(lpRk a b c w k).set k x=lpRk a b c w (k+1):=by
 unfold lpRk
 rw [zFz]
 refine zAD fun i hi=>?_
 by_cases h:i=k
 ·subst h; rw [if_pos rfl,if_pos (by omega),hx]
 ·rw [if_neg h]
  by_cases h2:i<k
  ·rw [if_pos h2,if_pos (by omega)]
  ·rw [if_neg h2,if_neg (by omega)]
theorem zTF {k:Nat} (hk:k<b.length) {x:Int} (hx:x=(lpS a b c w).k.getD k 0+(lpS a b c w).r.getD a.length 0):(lpCk a b c w k).set k x=lpCk a b c w (k+1):=by
 unfold lpCk
 rw [zFz]
 refine zAD fun i hi=>?_
 by_cases h:i=k
 ·subst h; rw [if_pos rfl,if_pos (by omega),hx]
 ·rw [if_neg h]
  by_cases h2:i<k
  ·rw [if_pos h2,if_pos (by omega)]
  ·rw [if_neg h2,if_neg (by omega)]
theorem zV9:(lpRk a b c w a.length).take a.length=(lpR a b c w).1:=by
 unfold lpRk lpR
 rw [zQg _ (by omega)]
 exact zAD fun i hi=>if_pos hi
theorem zV7:(lpCk a b c w b.length).take b.length=(lpR a b c w).2:=by
 unfold lpCk lpR
 rw [zQg _ (by omega)]
 exact zAD fun i hi=>if_pos hi
end
@[push_cast] theorem zYf {t:Sh} {r k:Nat} {bs:List BV}:zIJ t (.refp r k::bs)=none:=by simp [zIJ,leaf]
def lpE (a b:List Int) (c:List (List Int)) (w:Int):zA3:=if errWd a b c w=0 then lpR a b c w else ([],[])
@[push_cast] def zJ3:Con:=⟨[.dat (.sl .int),.dat (.sl .int),.dat (.sl (.sl .int)),.dat .int],fun _=>True,fun (x:List Int×List Int×List (List Int)×Int×Unit) =>
 {res:=[.val (.prod (.sl .int) (.sl .int)) (lpE x.1 x.2.1 x.2.2.1 x.2.2.2.1),.val .int (errWd x.1 x.2.1 x.2.2.1 x.2.2.2.1)]}⟩
structure StopP (p:Prop):Prop where
 h:p
set_option maxHeartbeats 4000000 in
theorem zHJ:FnSpec Tryz.prog 82 zJ3:=by
 refine FnSpec.of_triP (E:=know _ [] [] []) (zAl (kc zDX (kc zJJ (kc zEN (kc zQz (kc zOP all_nil))))) all_nil all_nil) Tryz.func82 rfl rfl (by kernel_rfl) ?_
 intro C x hP hE hnl hfit hpre
 simp only [Tryz.ntmps82,Tryz.results82,maxLen,seval,push_cast] at hnl hfit hpre ⊢
 obtain ⟨(a:List Int),(b:List Int),(c:List (List Int)),(w:Int),_⟩:=x
 dsimp only at hfit hpre ⊢
 refine zLH ?_
 by_cases he:errWd a b c w=0
 ·obtain ⟨hf,hw⟩:=zBE he
  have hk:=lp_ok hf hw
  have h3:lpE a b c w=lpR a b c w:=if_pos he
  have ha5:=hf.mc.a5
  have hb5:=hf.mc.b5
  have hcr:=hf.rows
  have hcw:=hf.cols
  obtain ⟨s1,s2,s3,s4⟩:=MC.sums hf
  have hnl0:=hnl
  have hrl:=hk.l1
  have hkl:=hk.l2
  replace hnl:=And.intro hnl (And.intro he (And.intro h3 (And.intro (fun m=>eq_true (s1 m)) (fun m=>eq_true (s2 m)))))
  repeat' (first|(refine goK (by assumption) ?_; iterate 4 (try clear hK K))|(refine zAb fun K hK=>?_)|(refine zAa hE rfl ?_; simp +contextual only [hnl,↓kA,push_cast,seval,reduceCtorEq,cI])|refine zAd ?_|(refine zAg ?_; simp only [thenQ,zAh,if_true,if_false,Nat.reduceEqDiff,reduceCtorEq])|(refine zAe (by rfl) (fun hb=>?_) (fun hb=>?_)<;>(try simp only [bq,reduceCtorEq] at hb)<;>(try omega))|fail)
  refine zAk (fun k:Nat=>AS.of [(0,.one (.val (.sl .int) a)),(1,.one (.val (.sl .int) b)),(2,.one (.val (.sl (.sl .int)) c)),(3,.I w),(8,.one (.box 8)),(11,.one (.ref 43)),(30,.one (.val (.sl (.sl .int)) c)),(31,.I c.length),(32,.I k)] [(43,.deep 38 3 .int ((c.take k).map fun r=>r++[w]))] [(8,.rcd [.nils,.nils])]) (fun k=>k≤c.length) (fun k=>c.length - k) 0 (Nat.zero_le _) ?_ ?_
  ·refine zAf ?_ ?_ ?_<;>simp only [push_cast,seval,reduceCtorEq,cI]
   all_goals first|exact ⟨by omega,rfl⟩|omega|rfl
  intro k hkc K' hL
  rcases Nat.lt_or_ge k c.length with hkl|hkl
  ·have hrow:(c.getD k []).length=wid c:=hf.hc.len hkl
   have hml:(List.map (fun r=>r++[w]) (List.take k c)).length≤1000000:=by rw [List.length_map,List.length_take]; omega
   have hms:List.map (fun r=>r++[w]) (List.take k c)++[c.getD k []++[w]]=List.map (fun r=>r++[w]) (List.take (k+1) c):=by
    rw [List.take_succ_eq_append_getElem hkl,List.map_append]
    simp [List.getD_eq_getElem?_getD,hkl]
   have hrl2:List.length (c.getD k [])≤1000000:=by rw [hrow]; omega
   replace hnl:=And.intro hnl (And.intro hrl2 hml)
   repeat' (first|(refine goK (by assumption) ?_; iterate 4 (try clear hK K))|(refine zAb fun K hK=>?_)|(refine zAa hE rfl ?_; simp +contextual only [hnl,↓kA,push_cast,seval,reduceCtorEq,cI])|refine zAd ?_|(refine zAg ?_; simp only [thenQ,zAh,if_true,if_false,Nat.reduceEqDiff,reduceCtorEq])|(refine zAe (by rfl) (fun hb=>?_) (fun hb=>?_)<;>(try simp only [bq,reduceCtorEq] at hb)<;>(try omega))|refine andS ?_|fail)
   rw [hms]
   refine hL _ (k+1) (by omega) (by omega) ?_
   refine zAf ?_ ?_ ?_<;>simp only [push_cast,seval,reduceCtorEq,cI]
   all_goals exact .inl rfl
  obtain rfl:k=c.length:=by omega
  clear hL
  have hml:(List.map (fun r=>r++[w]) (List.take c.length c)).length≤1000000:=by rw [List.length_map,List.length_take]; omega
  have eT:List.map (fun r=>r++[w]) (List.take c.length c)++[List.replicate b.length w++[0]]=lpT c w:=by unfold lpT dumC; rw [List.take_length,hcw]
  have eX:a++[lsum b]=dumA a b 0:=by unfold dumA; rw [Int.sub_zero]
  have eY:b++[lsum a]=dumA b a 0:=by unfold dumA; rw [Int.sub_zero]
  have eP:cheapV (dumA a b 0) (dumA b a 0) (lpT c w)=lpP a b c w:=rfl
  have eS:prV (lpT c w) (lpP a b c w)=lpS a b c w:=rfl
  have hmc:=hk.mc
  have hpr:=hk.pre
  have hrp:(List.replicate b.length w).length≤1000000:=by rw [List.length_replicate]; omega
  replace hnl:=And.intro hnl (And.intro hrp (And.intro hml (And.intro eT (And.intro eX (And.intro eY (And.intro eP (And.intro eS (And.intro hmc hpr))))))))
  repeat' (first|(refine goK (by assumption) ?_; iterate 4 (try clear hK K))|(refine zAb fun K hK=>?_)|(refine zAa hE rfl ?_; simp +contextual only [hnl,↓kA,push_cast,seval,reduceCtorEq,cI])|(refine zAj ?_; simp only [thenQ,zAh,if_true,if_false,Nat.reduceEqDiff,reduceCtorEq])|(refine zAe (by rfl) (fun hb=>?_) (fun hb=>?_)<;>(try simp only [bq,reduceCtorEq] at hb)<;>(try omega))|fail)
  (refine zR3 hE hP 5 (by omega) rfl rfl ?_; simp only [List.length_cons,List.length_nil,Nat.reduceAdd,Nat.reduceSub,List.take_succ_cons,List.take_zero,List.drop_succ_cons,List.drop_zero]; simp +contextual only [hnl,↓kA,push_cast,seval,reduceCtorEq,cI])
  refine ⟨rfl,RepQ.mk' (b.length:Int) w (by simp only [push_cast,seval,reduceCtorEq,cI]) (by simp only [push_cast,seval,reduceCtorEq,cI]) (by omega) (by omega) ?_⟩
  simp only [List.length_cons,List.length_nil,Nat.reduceAdd,Nat.reduceSub,List.take_succ_cons,List.take_zero,List.drop_succ_cons,List.drop_zero]
  simp +contextual only [hnl,↓kA,push_cast,seval,reduceCtorEq,cI]
  repeat' (first|(refine zAo (t:=AS.of [(0,.one (.val (.sl .int) a)),(1,.one (.val (.sl .int) b)),(8,.one (.box 8)),(16,.one (.ref 73)),(17,.one (.ref 1073))] [(73,.flat 3 .int (lpS a b c w).r),(1073,.flat 3 .int (lpS a b c w).k)] [(8,.rcd [.nils,.nils])]) ?_ (StopP.h ?_); · (refine zAf ?_ ?_ ?_<;>simp only [push_cast,seval,reduceCtorEq,cI]; all_goals exact .inl rfl))|(first|(refine goK (by assumption) ?_; iterate 4 (try clear hK K))|(refine zAb fun K hK=>?_)|((first|refine zAa hE rfl ?_|refine zAi ?_|((first|refine zAc hE 1 rfl rfl (by kernel_rfl) ?_|refine zAc hE 2 rfl rfl (by kernel_rfl) ?_|refine zAc hE 3 rfl rfl (by kernel_rfl) ?_|refine zAc hE 4 rfl rfl (by kernel_rfl) ?_); simp only [List.length_cons,List.length_nil,Nat.reduceAdd,Nat.reduceSub,List.take_succ_cons,List.take_zero,List.drop_succ_cons,List.drop_zero])); simp +contextual only [hnl,↓kA,push_cast,seval,reduceCtorEq,cI])|refine zAd ?_|((first|refine zAg ?_|refine zAj ?_); simp only [thenQ,zAh,if_true,if_false,Nat.reduceEqDiff,reduceCtorEq])|(refine zAe (by rfl) (fun hb=>?_) (fun hb=>?_)<;>(try simp only [bq,reduceCtorEq] at hb)<;>(try omega))|refine zAr (by rfl) ?_ ?_|refine andS ?_|(refine ⟨fun hc=>?_,fun hc=>?_⟩)|(intro hc; try omega)))
  all_goals try refine ⟨?_⟩
  refine zAb fun K hK=>?_
  refine zBL hE (fun D s=>(D 10=true→D 9=true)∧s.roots 73=some (.flat 3 .int (lpS a b c w).r)∧s.roots 1073=some (.flat 3 .int (lpS a b c w).k)∧(∀ q,q≠73→q≠1073→s.roots q=none) ∧
   s.boxes 8=some (.rcd [.nils,.nils])∧s.env 0=.one (.val (.sl .int) a)∧s.env 1=.one (.val (.sl .int) b)∧s.env 8=.one (.box 8)∧s.env 16=.one (.ref 73)∧s.env 17=.one (.ref 1073) ∧
   (D 0=true→s.env 76=.one (.ref 73))∧(D 1=true→s.env 77=.one (.val (.sl .int) a))∧(D 2=true→s.env 78=.I a.length)∧(D 3=true→s.env 79=.one (.refp 73 a.length)) ∧
   (D 4=true→s.env 80=.one (.ref 1073))∧(D 5=true→s.env 81=.one (.val (.sl .int) b))∧(D 6=true→s.env 82=.I b.length)∧(D 7=true→s.env 83=.one (.refp 1073 b.length)) ∧
   (D 8=true→s.env 84=.rcd [.refp 73 a.length,.refp 1073 b.length])∧(D 9=true→s.env 18=.one (.box 18))∧(D 9=true→s.boxes 18=some (if D 10=true then .rcd [.refp 73 a.length,.refp 1073 b.length] else .rcd [.nils,.nils]))) rfl (by kernel_rfl) ?_ ?_ ?_
  ·dsimp only
   simp +contextual only [push_cast,seval,reduceCtorEq,cI]
   all_goals done
  ·refine ⟨fun D s h0 hp hI=>?_,fun D s h0 hp hI=>?_,fun D s h0 hp hI=>?_,fun D s h0 hp hI=>?_,fun D s h0 hp hI=>?_,fun D s h0 hp hI=>?_,fun D s h0 hp hI=>?_,fun D s h0 hp hI=>?_,fun D s h0 hp hI=>?_,fun D s h0 hp hI=>?_,fun D s h0 hp hI=>?_,trivial⟩
   all_goals obtain ⟨o1,r1,r2,r3,b1,e0,e1,e8,e16,e17,f0,f1,f2,f3,f4,f5,f6,f7,f8,f9,f10⟩:=hI
   all_goals replace hp:=List.all_eq_true.1 hp
   ·simp +contextual only [hnl,h0,o1,r1,r2,r3,b1,e0,e1,e8,e16,e17,f0,f1,f2,f3,f4,f5,f6,f7,f8,f9,f10,setD,↓kN,↓kP,push_cast,seval,reduceCtorEq,cI]
   ·simp +contextual only [hnl,h0,o1,r1,r2,r3,b1,e0,e1,e8,e16,e17,f0,f1,f2,f3,f4,f5,f6,f7,f8,f9,f10,setD,↓kN,↓kP,push_cast,seval,reduceCtorEq,cI]
   ·have d1:=hp 1 (by decide)
    simp +contextual only [d1,hnl,h0,o1,r1,r2,r3,b1,e0,e1,e8,e16,e17,f0,f1,f2,f3,f4,f5,f6,f7,f8,f9,f10,setD,↓kN,↓kP,push_cast,seval,reduceCtorEq,cI]
   ·have d1:=hp 0 (by decide)
    have d2:=hp 2 (by decide)
    simp +contextual only [d1,d2,hnl,h0,o1,r1,r2,r3,b1,e0,e1,e8,e16,e17,f0,f1,f2,f3,f4,f5,f6,f7,f8,f9,f10,setD,↓kN,↓kP,push_cast,seval,reduceCtorEq,cI]
    first|omega|exact ⟨by omega,by omega⟩
   ·simp +contextual only [hnl,h0,o1,r1,r2,r3,b1,e0,e1,e8,e16,e17,f0,f1,f2,f3,f4,f5,f6,f7,f8,f9,f10,setD,↓kN,↓kP,push_cast,seval,reduceCtorEq,cI]
   ·simp +contextual only [hnl,h0,o1,r1,r2,r3,b1,e0,e1,e8,e16,e17,f0,f1,f2,f3,f4,f5,f6,f7,f8,f9,f10,setD,↓kN,↓kP,push_cast,seval,reduceCtorEq,cI]
   ·have d1:=hp 5 (by decide)
    simp +contextual only [d1,hnl,h0,o1,r1,r2,r3,b1,e0,e1,e8,e16,e17,f0,f1,f2,f3,f4,f5,f6,f7,f8,f9,f10,setD,↓kN,↓kP,push_cast,seval,reduceCtorEq,cI]
   ·have d1:=hp 4 (by decide)
    have d2:=hp 6 (by decide)
    simp +contextual only [d1,d2,hnl,h0,o1,r1,r2,r3,b1,e0,e1,e8,e16,e17,f0,f1,f2,f3,f4,f5,f6,f7,f8,f9,f10,setD,↓kN,↓kP,push_cast,seval,reduceCtorEq,cI]
    first|omega|exact ⟨by omega,by omega⟩
   ·have d1:=hp 3 (by decide)
    have d2:=hp 7 (by decide)
    simp +contextual only [d1,d2,hnl,h0,o1,r1,r2,r3,b1,e0,e1,e8,e16,e17,f0,f1,f2,f3,f4,f5,f6,f7,f8,f9,f10,setD,↓kN,↓kP,push_cast,seval,reduceCtorEq,cI]
   ·have n10:D 10=false:=by
     cases hd:D 10 with
     | false=>rfl
     | true=>rw [o1 hd] at h0; cases h0
    simp +contextual only [n10,hnl,h0,o1,r1,r2,r3,b1,e0,e1,e8,e16,e17,f0,f1,f2,f3,f4,f5,f6,f7,f8,f9,f10,setD,↓kN,↓kP,push_cast,seval,reduceCtorEq,cI]
   ·have d1:=hp 8 (by decide)
    have d2:=hp 9 (by decide)
    simp +contextual only [d1,d2,hnl,h0,o1,r1,r2,r3,b1,e0,e1,e8,e16,e17,f0,f1,f2,f3,f4,f5,f6,f7,f8,f9,f10,setD,↓kN,↓kP,push_cast,seval,reduceCtorEq,cI]
  intro D s hD hI
  obtain ⟨o1,r1,r2,r3,b1,e0,e1,e8,e16,e17,f0,f1,f2,f3,f4,f5,f6,f7,f8,f9,f10⟩:=hI
  have g9:=hD 9 (by decide)
  have g10:=hD 10 (by decide)
  have v1:=f9 g9
  have v2:=f10 g9
  rw [if_pos g10] at v2
  refine goK hK ?_
  refine zAo (t:=AS.of [(0,.one (.val (.sl .int) a)),(1,.one (.val (.sl .int) b)),(8,.one (.box 8)),(16,.one (.ref 73)),(17,.one (.ref 1073)),(18,.one (.box 18))] [(73,.flat 3 .int (lpS a b c w).r),(1073,.flat 3 .int (lpS a b c w).k)] [(8,.rcd [.nils,.nils]),(18,.rcd [.refp 73 a.length,.refp 1073 b.length])]) ?_ ?_
  ·refine zAf ?_ ?_ ?_<;>simp only [r1,r2,b1,e0,e1,e8,e16,e17,v1,v2,push_cast,seval,reduceCtorEq,cI]
  clear hK
  repeat' (first|(refine goK (by assumption) ?_; iterate 4 (try clear hK K))|(refine zAb fun K hK=>?_)|(refine zAa hE rfl ?_; simp +contextual only [hnl,↓kA,push_cast,seval,reduceCtorEq,cI])|refine zAd ?_|fail)
  refine zAk (fun k:Nat=>AS.of [(0,.one (.val (.sl .int) a)),(1,.one (.val (.sl .int) b)),(8,.one (.box 8)),(16,.one (.ref 73)),(17,.one (.ref 1073)),(18,.one (.box 18)),(87,.I a.length),(88,.I k)] [(73,.flat 3 .int (lpRk a b c w k)),(1073,.flat 3 .int (lpS a b c w).k)] [(8,.rcd [.nils,.nils]),(18,.rcd [.refp 73 a.length,.refp 1073 b.length])]) (fun k=>k≤a.length) (fun k=>a.length - k) 0 (Nat.zero_le _) ?_ ?_
  ·rw [zZ8 hk]
   refine zAf ?_ ?_ ?_<;>simp only [push_cast,seval,reduceCtorEq,cI]
   all_goals skip
  replace hnl:=hnl0
  intro k hka K2 hL2
  have q1:=zWa (a:=a) (b:=b) (c:=c) (w:=w) k
  rcases Nat.lt_or_ge k a.length with hkl2|hkl2
  ·have q2:=zTG (a:=a) (b:=b) (c:=c) (w:=w) (Nat.le_refl k) (by omega)
   have q3:=hk.b1 k (by omega)
   have q4:=hk.b2 b.length (by omega)
   have q5:=zTH (a:=a) (b:=b) (c:=c) (w:=w) hkl2 rfl
   replace hnl:=And.intro hnl (And.intro q2 q5)
   repeat' (first|(refine goK (by assumption) ?_; iterate 4 (try clear hK K))|(refine zAb fun K hK=>?_)|((first|refine zAa hE rfl ?_|((first|refine zAc hE 1 rfl rfl (by kernel_rfl) ?_|refine zAc hE 2 rfl rfl (by kernel_rfl) ?_|refine zAc hE 3 rfl rfl (by kernel_rfl) ?_|refine zAc hE 4 rfl rfl (by kernel_rfl) ?_); simp only [List.length_cons,List.length_nil,Nat.reduceAdd,Nat.reduceSub,List.take_succ_cons,List.take_zero,List.drop_succ_cons,List.drop_zero])); simp (maxSteps:=3000000) +contextual only [hnl,↓kA,push_cast,seval,reduceCtorEq,cI])|refine zAd ?_|(refine zAg ?_; simp only [thenQ,zAh,if_true,if_false,Nat.reduceEqDiff,reduceCtorEq])|(refine zAe (by rfl) (fun hb=>?_) (fun hb=>?_)<;>(try simp only [bq,reduceCtorEq] at hb)<;>(try omega))|refine andS ?_|fail)
   refine hL2 _ (k+1) (by omega) (by omega) ?_
   refine zAf ?_ ?_ ?_<;>simp only [push_cast,seval,reduceCtorEq,cI]
   all_goals exact .inl rfl
  obtain rfl:k=a.length:=by omega
  clear hL2
  repeat' (first|(refine goK (by assumption) ?_; iterate 4 (try clear hK K))|(refine zAb fun K hK=>?_)|(refine zAa hE rfl ?_; simp (maxSteps:=3000000) +contextual only [hnl,↓kA,push_cast,seval,reduceCtorEq,cI])|refine zAd ?_|(refine zAj ?_; simp only [thenQ,zAh,if_true,if_false,Nat.reduceEqDiff,reduceCtorEq])|(refine zAe (by rfl) (fun hb=>?_) (fun hb=>?_)<;>(try simp only [bq,reduceCtorEq] at hb)<;>(try omega))|fail)
  refine zAk (fun k:Nat=>AS.of [(0,.one (.val (.sl .int) a)),(1,.one (.val (.sl .int) b)),(8,.one (.box 8)),(16,.one (.ref 73)),(17,.one (.ref 1073)),(18,.one (.box 18)),(106,.I b.length),(107,.I k)] [(73,.flat 3 .int (lpRk a b c w a.length)),(1073,.flat 3 .int (lpCk a b c w k))] [(8,.rcd [.nils,.nils]),(18,.rcd [.refp 73 a.length,.refp 1073 b.length])]) (fun k=>k≤b.length) (fun k=>b.length - k) 0 (Nat.zero_le _) ?_ ?_
  ·rw [zZ7 hk]
   refine zAf ?_ ?_ ?_<;>simp only [push_cast,seval,reduceCtorEq,cI]
   all_goals skip
  replace hnl:=hnl0
  intro k hkb K3 hL3
  have q6:=zV8 (a:=a) (b:=b) (c:=c) (w:=w) k
  rcases Nat.lt_or_ge k b.length with hkl3|hkl3
  ·have q2:=zYn (a:=a) (b:=b) (c:=c) (w:=w) (Nat.le_refl k) (by omega)
   have q7:=zTG (a:=a) (b:=b) (c:=c) (w:=w) (Nat.le_refl a.length) (by omega)
   have q3:=hk.b2 k (by omega)
   have q4:=hk.b1 a.length (by omega)
   have q5:=zTF (a:=a) (b:=b) (c:=c) (w:=w) hkl3 rfl
   replace hnl:=And.intro hnl (And.intro q2 (And.intro q5 q7))
   repeat' (first|(refine goK (by assumption) ?_; iterate 4 (try clear hK K))|(refine zAb fun K hK=>?_)|((first|refine zAa hE rfl ?_|((first|refine zAc hE 1 rfl rfl (by kernel_rfl) ?_|refine zAc hE 2 rfl rfl (by kernel_rfl) ?_|refine zAc hE 3 rfl rfl (by kernel_rfl) ?_|refine zAc hE 4 rfl rfl (by kernel_rfl) ?_); simp only [List.length_cons,List.length_nil,Nat.reduceAdd,Nat.reduceSub,List.take_succ_cons,List.take_zero,List.drop_succ_cons,List.drop_zero])); simp (maxSteps:=3000000) +contextual only [hnl,↓kA,push_cast,seval,reduceCtorEq,cI])|refine zAd ?_|(refine zAg ?_; simp only [thenQ,zAh,if_true,if_false,Nat.reduceEqDiff,reduceCtorEq])|(refine zAe (by rfl) (fun hb=>?_) (fun hb=>?_)<;>(try simp only [bq,reduceCtorEq] at hb)<;>(try omega))|refine andS ?_|fail)
   refine hL3 _ (k+1) (by omega) (by omega) ?_
   refine zAf ?_ ?_ ?_<;>simp only [push_cast,seval,reduceCtorEq,cI]
   all_goals exact .inl rfl
  obtain rfl:k=b.length:=by omega
  clear hL3
  refine zAo (t:=AS.of [(8,.one (.box 8)),(18,.one (.box 18)),(106,.I b.length),(107,.I b.length)] [] [(8,.rcd [.nils,.nils]),(18,.rcd [.val (.sl .int) (lpR a b c w).1,.val (.sl .int) (lpR a b c w).2])]) ?_ ?_
  ·rw [←zV9,←zV7]
   refine zAf ?_ ?_ ?_<;>simp only [push_cast,seval,reduceCtorEq,cI]
   all_goals first|omega|exact ⟨by omega,rfl⟩|skip
  repeat' (first|(refine goK (by assumption) ?_; iterate 4 (try clear hK K))|(refine zAb fun K hK=>?_)|((first|refine zAa hE rfl ?_|refine zAi ?_); simp (maxSteps:=3000000) +contextual only [hnl,↓kA,push_cast,seval,reduceCtorEq,cI])|(refine zAj ?_; simp only [thenQ,zAh,if_true,if_false,Nat.reduceEqDiff,reduceCtorEq])|(refine zAe (by rfl) (fun hb=>?_) (fun hb=>?_)<;>(try simp only [bq,reduceCtorEq] at hb)<;>(try omega))|fail)
  all_goals try exact ⟨AS.of [(8,.one (.box 8)),(9,.one (.val .int (0:Int)))] [] [(8,.one (.val (.prod (.sl .int) (.sl .int)) (lpR a b c w)))],by refine zAf ?_ ?_ ?_<;>simp only [push_cast,seval,reduceCtorEq,cI],by simp only [he,h3,push_cast,seval,reduceCtorEq,cI]⟩
 ·have h3:lpE a b c w=([],[]):=if_neg he
  replace hnl:=And.intro hnl (And.intro (eq_false he) h3)
  rw [h3]
  repeat' (first|(refine goK (by assumption) ?_; iterate 4 (try clear hK K))|(refine zAb fun K hK=>?_)|((first|refine zAa hE rfl ?_|refine zAi ?_); simp (maxSteps:=3000000) +contextual only [hnl,↓kA,push_cast,seval,reduceCtorEq,cI])|(refine zAe (by rfl) (fun hb=>?_) (fun hb=>?_)<;>(try simp only [bq,reduceCtorEq] at hb)<;>(try omega))|fail)
  all_goals try exact ⟨AS.of [(8,.one (.box 8)),(9,.one (.val .int (errWd a b c w)))] [] [(8,.one (.val (.prod (.sl .int) (.sl .int)) (([]:List Int),([]:List Int))))],by refine zAf ?_ ?_ ?_<;>simp only [push_cast,seval,reduceCtorEq,cI],by simp only [push_cast,seval,reduceCtorEq,cI]⟩
end Go.Proofs.YtekfodeknpnkbaaGreatDoor
