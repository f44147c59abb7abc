import Derived.Test.YtlgkplnifaoeeaaGreatDoorW8
import Derived.Carry
import Derived.ChangeMaps5
import Derived.MapKept
import Derived.Tactics2
import Derived.LaidEql
import Derived.Stop.Asserts
import Derived.RowKitTokens
set_option linter.unusedSimpArgs false
set_option linter.unusedVariables false
namespace Go.Proofs.YtlgkplnifaoeeaaGreatDoor
open Go.RowKit Go.VS
theorem zS9 {C:Ctx} {f:FuncId} {fn:Func} {code:Code} {s0:AS} {γ:Gam} {w:World} {vs:List Value} {Q:Exit→AS→Prop} (hf:C.P.funcs[f]?=some fn) (hb:fn.body=some code) (hds:C.ds=[]) (hle:vs.length≤fn.ntmps)
 (hr:Rel C γ s0 {tmps:=vs.toArray++Array.replicate (fn.ntmps - vs.length) undef,defers:=[]} w) (h:tri C fn.ntmps code Q s0) (hQ:∀ e s,Q e s→e=.normal∨e=.ret) {R:Ending→World→Prop}
 (hR:∀ e s' γ' a' w',Rel C γ' s' a' w'→Q e s'→∃ v,(results fn a'.tmps).run C.P w'=.ok v w'∧R (.returned v) w'):Calls C.P f vs.toArray w R:=by
 refine calls_of_wp hf hb ?_
 refine wp_mono (h.run γ _ _ hr (by simp; omega)) ?_
 rintro e a' w' ⟨s',γ',h1,h2,h3⟩
 obtain ⟨v,k1,k2⟩:=hR e s' γ' a' w' h1 h3
 rcases hQ e s' h3 with rfl|rfl
 ·exact ⟨h1.defers.1.trans hds,v,k1,k2⟩
 ·exact ⟨h1.defers.1.trans hds,v,k1,k2⟩
def doV (k:Nat) (l:List Int) (s:State):Int×State :=
 if k=0 then (chgE s.2.1 (l.getD 0 0) (l.getD 1 0) (l.getD 1 0),s.1,chgL s.2.1 (l.getD 0 0) (l.getD 1 0) (l.getD 1 0),s.2.2)
 else if k=1 then (chgE s.2.1 (l.getD 0 0) (l.getD 1 0) (-(l.getD 1 0)),s.1,chgL s.2.1 (l.getD 0 0) (l.getD 1 0) (-(l.getD 1 0)),s.2.2)
 else if k=2 then (chgE s.2.2.1 (l.getD 0 0) (l.getD 1 0) (l.getD 1 0),s.1,s.2.1,chgL s.2.2.1 (l.getD 0 0) (l.getD 1 0) (l.getD 1 0),s.2.2.2)
 else if k=3 then (chgE s.2.2.1 (l.getD 0 0) (l.getD 1 0) (-(l.getD 1 0)),s.1,s.2.1,chgL s.2.2.1 (l.getD 0 0) (l.getD 1 0) (-(l.getD 1 0)),s.2.2.2)
 else if k=4 then (if (s.2.1.length:Int)≤l.getD 0 0∨(s.2.2.1.length:Int)≤l.getD 1 0 then (4,s) else if 99<l.getD 2 0 then (1,s) else (0,s.1.set (l.getD 0 0).toNat ((s.1.getD (l.getD 0 0).toNat []).set (l.getD 1 0).toNat (l.getD 2 0)),s.2))
 else if k=5 then (if 99<l.getD 0 0 then (1,s) else (0,s.1,s.2.1,s.2.2.1,l.getD 0 0))
 else (if zA7 s.2.1 s.2.2.1 s.1 s.2.2.2=l.getD 0 0 then (0,s) else (7,s))
theorem doV4 (l:List Int) (c:List (List Int)) (a b:List Int) (w:Int):doV 4 l (c,a,b,w)=if (a.length:Int)≤l.getD 0 0∨(b.length:Int)≤l.getD 1 0 then (4,(c,a,b,w)) else if 99<l.getD 2 0 then (1,(c,a,b,w)) else (0,(c.set (l.getD 0 0).toNat ((c.getD (l.getD 0 0).toNat []).set (l.getD 1 0).toNat (l.getD 2 0)),a,b,w)):=rfl
theorem doV5 (l:List Int) (c:List (List Int)) (a b:List Int) (w:Int):doV 5 l (c,a,b,w)=if 99<l.getD 0 0 then (1,(c,a,b,w)) else (0,(c,a,b,l.getD 0 0)):=rfl
theorem doV6 (l:List Int) (c:List (List Int)) (a b:List Int) (w:Int):doV 6 l (c,a,b,w)=if zA7 a b c w=l.getD 0 0 then (0,(c,a,b,w)) else (7,(c,a,b,w)):=rfl
structure DoPre (k:Nat) (l:List Int) (s:State):Prop where
 kind:k≤6
 len:l.length=if k=4 then 3 else if k≤3 then 2 else 1
 num:∀ i,i<l.length→0≤l.getD i 0∧l.getD i 0≤99999
 tab:InTab 0 99 s.1
 la:s.2.1.length=s.1.length
 lb:s.2.2.1.length=wid s.1
 a:∀ i,i<s.2.1.length→0≤s.2.1.getD i 0∧s.2.1.getD i 0≤30
 b:∀ i,i<s.2.2.1.length→0≤s.2.2.1.getD i 0∧s.2.2.1.getD i 0≤30
def doIn (k:Nat) (l:List Int) (s:State):AS:=AS.of [(0,.one (.box 0)),(1,.one (.val .int (k:Int))),(2,.one (.val (.sl .int) l))] [(1,.deep 25 3 .int s.1),(2,.flat 3 .int s.2.1),(3,.flat 3 .int s.2.2.1)] [(0,.rcd [.ref 1,.ref 2,.ref 3,.val .int s.2.2.2])]
def doOut (k:Nat) (l:List Int) (s:State):AS:=AS.of [(6,.one (.val (.err 161) (doV k l s).1))] [] [(0,.rcd [.val (.sl (.sl .int)) (doV k l s).2.1,.val (.sl .int) (doV k l s).2.2.1,.val (.sl .int) (doV k l s).2.2.2.1,.val .int (doV k l s).2.2.2.2])]
structure DoQ (nl:Nat) (k:Nat) (l:List Int) (s:State) (e:Exit) (t:AS):Prop where
 e:e=.normal∨e=.ret
 h:Weak nl t (doOut k l s)
def zXx:Know:=know [(127,zRo),(81,zDI)] []
theorem zRI:KnowOK Tryz.prog zXx:=zAl (all_cons zTH (all_cons zEK all_nil)) all_nil all_nil
set_option maxHeartbeats 4000000 in
theorem zXz {C:Ctx} (hP:C.P=Tryz.prog) (hE:KnowOK C.P (know [(127,zRo),(81,zDI)] [])) (hnl:C.nl=4) (k:Nat) (l:List Int) (s:State) (hpre:DoPre k l s) {code:Code} (hb:Tryz.f79.body=some code) :
 tri C 146 code (DoQ 4 k l s) (doIn k l s):=by
 obtain ⟨c,a,b,wst⟩:=s
 obtain ⟨hk,hl,hn,ht,hla,hlb,ha,hbb⟩:=hpre
 dsimp only at *
 unfold doIn
 dsimp only
 have hb':code=(Tryz.f79.body).getD .skip:=by rw [hb]; rfl
 subst hb'
 clear hb
 show tri C 146 _ _ _
 dsimp only [Tryz.f79]
 simp only [Option.getD_some]
 have hn0:=hn 0
 have hn1:=hn 1
 have hrs:=ht.rows
 have hcs:=ht.cols
 obtain rfl|rfl|rfl|rfl|rfl|rfl|rfl:k=0∨k=1∨k=2∨k=3∨k=4∨k=5∨k=6:=by omega
 ·have hl':l.length=2:=hl
  have hp:ChgPre (.flat 3 .int a) (l.getD 0 0) (l.getD 1 0):=⟨by rw [zA1],by rw [zA1]; omega,by rw [zA1]; exact ha,by have:=hn0 (by omega); omega,by have:=hn1 (by omega); omega⟩
  have e:doV 0 l (c,a,b,wst)=(chgE a (l.getD 0 0) (l.getD 1 0) (l.getD 1 0),c,chgL a (l.getD 0 0) (l.getD 1 0) (l.getD 1 0),b,wst):=rfl
  replace hnl:=And.intro hnl (And.intro (eq_true hp) hl')
  repeat' (first|(refine zAb hE 2 rfl rfl (by decide +kernel) ?_; simp only [List.length_cons,List.length_nil,Nat.reduceAdd,Nat.reduceSub,List.take_succ_cons,List.take_zero,List.drop_succ_cons,List.drop_zero]; simp +contextual only [hnl,↓kN,↓kP,↓kG,↓qN,↓qP,↓qG,push_cast,seval,reduceCtorEq])|(first|(refine goK (by assumption) ?_; iterate 4 (try clear hK K))|(refine zAc fun K hK=>?_)|((first|refine zAa hE rfl ?_|refine zAh ?_|((first|refine zAb hE 1 rfl rfl (by kernel_rfl) ?_|refine zAb hE 2 rfl rfl (by kernel_rfl) ?_|refine zAb hE 3 rfl rfl (by kernel_rfl) ?_|refine zAb hE 4 rfl rfl (by kernel_rfl) ?_); simp only [List.length_cons,List.length_nil,Nat.reduceAdd,Nat.reduceSub,List.take_succ_cons,List.take_zero,List.drop_succ_cons,List.drop_zero])); simp +contextual only [hnl,↓kN,↓kP,↓kG,↓qN,↓qP,↓qG,push_cast,seval,reduceCtorEq])|refine zAd ?_|((first|refine zAf ?_|refine zAj ?_); simp only [thenQ,zAi,if_true,if_false,Nat.reduceEqDiff,reduceCtorEq])|(refine zAe (by rfl) (fun hb=>?_) (fun hb=>?_)<;>(try simp only [bqa,bqb,bqc,bqd,reduceCtorEq,bqe,bqf] at hb)<;>(try omega))|refine zAm (by rfl) ?_ ?_|refine andS ?_|(refine ⟨fun hc=>?_,fun hc=>?_⟩)|(intro hc; try omega)))
  all_goals ((try refine zAh ?_); refine ⟨.inr rfl,?_⟩; unfold doOut; rw [e]; dsimp only; refine zAg ?_ ?_ ?_<;>simp only [push_cast,seval,reduceCtorEq])
 ·have hl':l.length=2:=hl
  have hp:ChgPre (.flat 3 .int a) (l.getD 0 0) (-(l.getD 1 0)):=⟨by rw [zA1],by rw [zA1]; omega,by rw [zA1]; exact ha,by have:=hn0 (by omega); omega,by have:=hn1 (by omega); omega⟩
  have e:doV 1 l (c,a,b,wst)=(chgE a (l.getD 0 0) (l.getD 1 0) (-(l.getD 1 0)),c,chgL a (l.getD 0 0) (l.getD 1 0) (-(l.getD 1 0)),b,wst):=rfl
  replace hnl:=And.intro hnl (And.intro (eq_true hp) hl')
  repeat' (first|(refine zAb hE 2 rfl rfl (by decide +kernel) ?_; simp only [List.length_cons,List.length_nil,Nat.reduceAdd,Nat.reduceSub,List.take_succ_cons,List.take_zero,List.drop_succ_cons,List.drop_zero]; simp +contextual only [hnl,↓kN,↓kP,↓kG,↓qN,↓qP,↓qG,push_cast,seval,reduceCtorEq])|(first|(refine goK (by assumption) ?_; iterate 4 (try clear hK K))|(refine zAc fun K hK=>?_)|((first|refine zAa hE rfl ?_|refine zAh ?_|((first|refine zAb hE 1 rfl rfl (by kernel_rfl) ?_|refine zAb hE 2 rfl rfl (by kernel_rfl) ?_|refine zAb hE 3 rfl rfl (by kernel_rfl) ?_|refine zAb hE 4 rfl rfl (by kernel_rfl) ?_); simp only [List.length_cons,List.length_nil,Nat.reduceAdd,Nat.reduceSub,List.take_succ_cons,List.take_zero,List.drop_succ_cons,List.drop_zero])); simp +contextual only [hnl,↓kN,↓kP,↓kG,↓qN,↓qP,↓qG,push_cast,seval,reduceCtorEq])|refine zAd ?_|((first|refine zAf ?_|refine zAj ?_); simp only [thenQ,zAi,if_true,if_false,Nat.reduceEqDiff,reduceCtorEq])|(refine zAe (by rfl) (fun hb=>?_) (fun hb=>?_)<;>(try simp only [bqa,bqb,bqc,bqd,reduceCtorEq,bqe,bqf] at hb)<;>(try omega))|refine zAm (by rfl) ?_ ?_|refine andS ?_|(refine ⟨fun hc=>?_,fun hc=>?_⟩)|(intro hc; try omega)))
  all_goals ((try refine zAh ?_); refine ⟨.inr rfl,?_⟩; unfold doOut; rw [e]; dsimp only; refine zAg ?_ ?_ ?_<;>simp only [push_cast,seval,reduceCtorEq])
 ·have hl':l.length=2:=hl
  have hp:ChgPre (.flat 3 .int b) (l.getD 0 0) (l.getD 1 0):=⟨by rw [zA1],by rw [zA1]; omega,by rw [zA1]; exact hbb,by have:=hn0 (by omega); omega,by have:=hn1 (by omega); omega⟩
  have e:doV 2 l (c,a,b,wst)=(chgE b (l.getD 0 0) (l.getD 1 0) (l.getD 1 0),c,a,chgL b (l.getD 0 0) (l.getD 1 0) (l.getD 1 0),wst):=rfl
  replace hnl:=And.intro hnl (And.intro (eq_true hp) hl')
  repeat' (first|(refine zAb hE 2 rfl rfl (by decide +kernel) ?_; simp only [List.length_cons,List.length_nil,Nat.reduceAdd,Nat.reduceSub,List.take_succ_cons,List.take_zero,List.drop_succ_cons,List.drop_zero]; simp +contextual only [hnl,↓kN,↓kP,↓kG,↓qN,↓qP,↓qG,push_cast,seval,reduceCtorEq])|(first|(refine goK (by assumption) ?_; iterate 4 (try clear hK K))|(refine zAc fun K hK=>?_)|((first|refine zAa hE rfl ?_|refine zAh ?_|((first|refine zAb hE 1 rfl rfl (by kernel_rfl) ?_|refine zAb hE 2 rfl rfl (by kernel_rfl) ?_|refine zAb hE 3 rfl rfl (by kernel_rfl) ?_|refine zAb hE 4 rfl rfl (by kernel_rfl) ?_); simp only [List.length_cons,List.length_nil,Nat.reduceAdd,Nat.reduceSub,List.take_succ_cons,List.take_zero,List.drop_succ_cons,List.drop_zero])); simp +contextual only [hnl,↓kN,↓kP,↓kG,↓qN,↓qP,↓qG,push_cast,seval,reduceCtorEq])|refine zAd ?_|((first|refine zAf ?_|refine zAj ?_); simp only [thenQ,zAi,if_true,if_false,Nat.reduceEqDiff,reduceCtorEq])|(refine zAe (by rfl) (fun hb=>?_) (fun hb=>?_)<;>(try simp only [bqa,bqb,bqc,bqd,reduceCtorEq,bqe,bqf] at hb)<;>(try omega))|refine zAm (by rfl) ?_ ?_|refine andS ?_|(refine ⟨fun hc=>?_,fun hc=>?_⟩)|(intro hc; try omega)))
  all_goals ((try refine zAh ?_); refine ⟨.inr rfl,?_⟩; unfold doOut; rw [e]; dsimp only; refine zAg ?_ ?_ ?_<;>simp only [push_cast,seval,reduceCtorEq])
 ·have hl':l.length=2:=hl
  have hp:ChgPre (.flat 3 .int b) (l.getD 0 0) (-(l.getD 1 0)):=⟨by rw [zA1],by rw [zA1]; omega,by rw [zA1]; exact hbb,by have:=hn0 (by omega); omega,by have:=hn1 (by omega); omega⟩
  have e:doV 3 l (c,a,b,wst)=(chgE b (l.getD 0 0) (l.getD 1 0) (-(l.getD 1 0)),c,a,chgL b (l.getD 0 0) (l.getD 1 0) (-(l.getD 1 0)),wst):=rfl
  replace hnl:=And.intro hnl (And.intro (eq_true hp) hl')
  repeat' (first|(refine zAb hE 2 rfl rfl (by decide +kernel) ?_; simp only [List.length_cons,List.length_nil,Nat.reduceAdd,Nat.reduceSub,List.take_succ_cons,List.take_zero,List.drop_succ_cons,List.drop_zero]; simp +contextual only [hnl,↓kN,↓kP,↓kG,↓qN,↓qP,↓qG,push_cast,seval,reduceCtorEq])|(first|(refine goK (by assumption) ?_; iterate 4 (try clear hK K))|(refine zAc fun K hK=>?_)|((first|refine zAa hE rfl ?_|refine zAh ?_|((first|refine zAb hE 1 rfl rfl (by kernel_rfl) ?_|refine zAb hE 2 rfl rfl (by kernel_rfl) ?_|refine zAb hE 3 rfl rfl (by kernel_rfl) ?_|refine zAb hE 4 rfl rfl (by kernel_rfl) ?_); simp only [List.length_cons,List.length_nil,Nat.reduceAdd,Nat.reduceSub,List.take_succ_cons,List.take_zero,List.drop_succ_cons,List.drop_zero])); simp +contextual only [hnl,↓kN,↓kP,↓kG,↓qN,↓qP,↓qG,push_cast,seval,reduceCtorEq])|refine zAd ?_|((first|refine zAf ?_|refine zAj ?_); simp only [thenQ,zAi,if_true,if_false,Nat.reduceEqDiff,reduceCtorEq])|(refine zAe (by rfl) (fun hb=>?_) (fun hb=>?_)<;>(try simp only [bqa,bqb,bqc,bqd,reduceCtorEq,bqe,bqf] at hb)<;>(try omega))|refine zAm (by rfl) ?_ ?_|refine andS ?_|(refine ⟨fun hc=>?_,fun hc=>?_⟩)|(intro hc; try omega)))
  all_goals ((try refine zAh ?_); refine ⟨.inr rfl,?_⟩; unfold doOut; rw [e]; dsimp only; refine zAg ?_ ?_ ?_<;>simp only [push_cast,seval,reduceCtorEq])
 ·have hl':l.length=3:=hl
  have hn2:=hn 2
  by_cases h1:(a.length:Int)≤l.getD 0 0∨(b.length:Int)≤l.getD 1 0
  ·have e:doV 4 l (c,a,b,wst)=(4,(c,a,b,wst)):=by rw [doV4,if_pos h1]
   replace hnl:=And.intro hnl hl'
   repeat' (first|(refine goK (by assumption) ?_; iterate 4 (try clear hK K))|(refine zAc fun K hK=>?_)|((first|refine zAa hE rfl ?_|refine zAh ?_|((first|refine zAb hE 1 rfl rfl (by kernel_rfl) ?_|refine zAb hE 2 rfl rfl (by kernel_rfl) ?_|refine zAb hE 3 rfl rfl (by kernel_rfl) ?_|refine zAb hE 4 rfl rfl (by kernel_rfl) ?_); simp only [List.length_cons,List.length_nil,Nat.reduceAdd,Nat.reduceSub,List.take_succ_cons,List.take_zero,List.drop_succ_cons,List.drop_zero])); simp +contextual only [hnl,↓kN,↓kP,↓kG,↓qN,↓qP,↓qG,push_cast,seval,reduceCtorEq])|refine zAd ?_|(refine zAe (by rfl) (fun hb=>?_) (fun hb=>?_)<;>(try simp only [bqa,bqb,bqc,bqd,reduceCtorEq,bqe,bqf] at hb)<;>(try omega))|(refine ⟨fun hc=>?_,fun hc=>?_⟩)|fail)
   all_goals ((try refine zAh ?_); refine ⟨.inr rfl,?_⟩; unfold doOut; rw [e]; dsimp only; refine zAg ?_ ?_ ?_<;>simp only [push_cast,seval,reduceCtorEq])
  by_cases h2:99<l.getD 2 0
  ·have e:doV 4 l (c,a,b,wst)=(1,(c,a,b,wst)):=by rw [doV4,if_neg h1,if_pos h2]
   replace hnl:=And.intro hnl hl'
   repeat' (first|(refine goK (by assumption) ?_; iterate 4 (try clear hK K))|(refine zAc fun K hK=>?_)|((first|refine zAa hE rfl ?_|refine zAh ?_|((first|refine zAb hE 1 rfl rfl (by kernel_rfl) ?_|refine zAb hE 2 rfl rfl (by kernel_rfl) ?_|refine zAb hE 3 rfl rfl (by kernel_rfl) ?_|refine zAb hE 4 rfl rfl (by kernel_rfl) ?_); simp only [List.length_cons,List.length_nil,Nat.reduceAdd,Nat.reduceSub,List.take_succ_cons,List.take_zero,List.drop_succ_cons,List.drop_zero])); simp +contextual only [hnl,↓kN,↓kP,↓kG,↓qN,↓qP,↓qG,push_cast,seval,reduceCtorEq])|refine zAd ?_|(refine zAf ?_; simp only [thenQ,zAi,if_true,if_false,Nat.reduceEqDiff,reduceCtorEq])|(refine zAe (by rfl) (fun hb=>?_) (fun hb=>?_)<;>(try simp only [bqa,bqb,bqc,bqd,reduceCtorEq,bqe,bqf] at hb)<;>(try omega))|(refine ⟨fun hc=>?_,fun hc=>?_⟩)|fail)
   all_goals ((try refine zAh ?_); refine ⟨.inr rfl,?_⟩; unfold doOut; rw [e]; dsimp only; refine zAg ?_ ?_ ?_<;>simp only [push_cast,seval,reduceCtorEq])
  ·have e:doV 4 l (c,a,b,wst)=(0,(c.set (l.getD 0 0).toNat ((c.getD (l.getD 0 0).toNat []).set (l.getD 1 0).toNat (l.getD 2 0)),a,b,wst)):=by rw [doV4,if_neg h1,if_neg h2]
   have q0:=hn0 (by omega)
   have q1:=hn1 (by omega)
   have hrl:=ht.len (show (l.getD 0 0).toNat<c.length by omega)
   replace hnl:=And.intro hnl (And.intro hl' hrl)
   repeat' (first|(refine goK (by assumption) ?_; iterate 4 (try clear hK K))|(refine zAc fun K hK=>?_)|((first|refine zAa hE rfl ?_|refine zAh ?_|((first|refine zAb hE 1 rfl rfl (by kernel_rfl) ?_|refine zAb hE 2 rfl rfl (by kernel_rfl) ?_|refine zAb hE 3 rfl rfl (by kernel_rfl) ?_|refine zAb hE 4 rfl rfl (by kernel_rfl) ?_); simp only [List.length_cons,List.length_nil,Nat.reduceAdd,Nat.reduceSub,List.take_succ_cons,List.take_zero,List.drop_succ_cons,List.drop_zero])); simp +contextual only [hnl,↓kN,↓kP,↓kG,↓qN,↓qP,↓qG,push_cast,seval,reduceCtorEq])|refine zAd ?_|(refine zAf ?_; simp only [thenQ,zAi,if_true,if_false,Nat.reduceEqDiff,reduceCtorEq])|(refine zAe (by rfl) (fun hb=>?_) (fun hb=>?_)<;>(try simp only [bqa,bqb,bqc,bqd,reduceCtorEq,bqe,bqf] at hb)<;>(try omega))|refine andS ?_|(refine ⟨fun hc=>?_,fun hc=>?_⟩)|fail)
   all_goals ((try refine zAh ?_); refine ⟨.inr rfl,?_⟩; unfold doOut; rw [e]; dsimp only; refine zAg ?_ ?_ ?_<;>simp only [push_cast,seval,reduceCtorEq]; exact ⟨_,rfl⟩)
 ·have hl':l.length=1:=hl
  by_cases h1:99<l.getD 0 0
  ·have e:doV 5 l (c,a,b,wst)=(1,(c,a,b,wst)):=by rw [doV5,if_pos h1]
   replace hnl:=And.intro hnl hl'
   repeat' (first|(refine goK (by assumption) ?_; iterate 4 (try clear hK K))|(refine zAc fun K hK=>?_)|((first|refine zAa hE rfl ?_|refine zAh ?_); simp +contextual only [hnl,↓kN,↓kP,↓kG,↓qN,↓qP,↓qG,push_cast,seval,reduceCtorEq])|refine zAd ?_|(refine zAe (by rfl) (fun hb=>?_) (fun hb=>?_)<;>(try simp only [bqa,bqb,bqc,bqd,reduceCtorEq,bqe,bqf] at hb)<;>(try omega))|fail)
   all_goals ((try refine zAh ?_); refine ⟨.inr rfl,?_⟩; unfold doOut; rw [e]; dsimp only; refine zAg ?_ ?_ ?_<;>simp only [push_cast,seval,reduceCtorEq])
  ·have e:doV 5 l (c,a,b,wst)=(0,(c,a,b,l.getD 0 0)):=by rw [doV5,if_neg h1]
   replace hnl:=And.intro hnl hl'
   repeat' (first|(refine goK (by assumption) ?_; iterate 4 (try clear hK K))|(refine zAc fun K hK=>?_)|((first|refine zAa hE rfl ?_|refine zAh ?_); simp +contextual only [hnl,↓kN,↓kP,↓kG,↓qN,↓qP,↓qG,push_cast,seval,reduceCtorEq])|refine zAd ?_|(refine zAf ?_; simp only [thenQ,zAi,if_true,if_false,Nat.reduceEqDiff,reduceCtorEq])|(refine zAe (by rfl) (fun hb=>?_) (fun hb=>?_)<;>(try simp only [bqa,bqb,bqc,bqd,reduceCtorEq,bqe,bqf] at hb)<;>(try omega))|fail)
   all_goals ((try refine zAh ?_); refine ⟨.inr rfl,?_⟩; unfold doOut; rw [e]; dsimp only; refine zAg ?_ ?_ ?_<;>simp only [push_cast,seval,reduceCtorEq]; exact ⟨_,rfl⟩)
 ·have hl':l.length=1:=hl
  refine zAo (t:=AS.of [(0,.one (.box 0)),(1,.one (.val .int ((6:Nat):Int))),(2,.one (.val (.sl .int) l))] [] [(0,.rcd [.val (.sl (.sl .int)) c,.val (.sl .int) a,.val (.sl .int) b,.val .int wst])]) (by refine zAg ?_ ?_ ?_<;>simp only [push_cast,seval,reduceCtorEq]) ?_
  by_cases h1:zA7 a b c wst=l.getD 0 0
  ·have e:doV 6 l (c,a,b,wst)=(0,(c,a,b,wst)):=by rw [doV6,if_pos h1]
   replace hnl:=And.intro hnl (And.intro hl' h1)
   repeat' (first|(refine goK (by assumption) ?_; iterate 4 (try clear hK K))|(refine zAc fun K hK=>?_)|((first|refine zAa hE rfl ?_|refine zAh ?_|((first|refine zAb hE 1 rfl rfl (by kernel_rfl) ?_|refine zAb hE 2 rfl rfl (by kernel_rfl) ?_|refine zAb hE 3 rfl rfl (by kernel_rfl) ?_|refine zAb hE 4 rfl rfl (by kernel_rfl) ?_); simp only [List.length_cons,List.length_nil,Nat.reduceAdd,Nat.reduceSub,List.take_succ_cons,List.take_zero,List.drop_succ_cons,List.drop_zero])); simp +contextual only [hnl,↓kN,↓kP,↓kG,↓qN,↓qP,↓qG,push_cast,seval,reduceCtorEq])|refine zAd ?_|(refine zAf ?_; simp only [thenQ,zAi,if_true,if_false,Nat.reduceEqDiff,reduceCtorEq])|(refine zAe (by rfl) (fun hb=>?_) (fun hb=>?_)<;>(try simp only [bqa,bqb,bqc,bqd,reduceCtorEq,bqe,bqf] at hb)<;>(try omega))|fail)
   all_goals ((try refine zAh ?_); refine ⟨.inr rfl,?_⟩; unfold doOut; rw [e]; dsimp only; refine zAg ?_ ?_ ?_<;>simp only [push_cast,seval,reduceCtorEq]; exact ⟨_,rfl⟩)
  ·have e:doV 6 l (c,a,b,wst)=(7,(c,a,b,wst)):=by rw [doV6,if_neg h1]
   replace hnl:=And.intro hnl (And.intro hl' (eq_false h1))
   repeat' (first|(refine goK (by assumption) ?_; iterate 4 (try clear hK K))|(refine zAc fun K hK=>?_)|((first|refine zAa hE rfl ?_|refine zAh ?_|((first|refine zAb hE 1 rfl rfl (by kernel_rfl) ?_|refine zAb hE 2 rfl rfl (by kernel_rfl) ?_|refine zAb hE 3 rfl rfl (by kernel_rfl) ?_|refine zAb hE 4 rfl rfl (by kernel_rfl) ?_); simp only [List.length_cons,List.length_nil,Nat.reduceAdd,Nat.reduceSub,List.take_succ_cons,List.take_zero,List.drop_succ_cons,List.drop_zero])); simp +contextual only [hnl,↓kN,↓kP,↓kG,↓qN,↓qP,↓qG,push_cast,seval,reduceCtorEq])|refine zAd ?_|(refine zAe (by rfl) (fun hb=>?_) (fun hb=>?_)<;>(try simp only [bqa,bqb,bqc,bqd,reduceCtorEq,bqe,bqf] at hb)<;>(try omega))|fail)
   all_goals ((try refine zAh ?_); refine ⟨.inr rfl,?_⟩; unfold doOut; rw [e]; dsimp only; refine zAg ?_ ?_ ?_<;>simp only [push_cast,seval,reduceCtorEq])
end Go.Proofs.YtlgkplnifaoeeaaGreatDoor
namespace Go.Proofs.YtlgkplnifaoeeaaGreatDoor
open Go.RowKit Go.VS
def zCp (s:ByteArray) (y:Nat):Nat→Nat→Nat
 | 0,_=>s.size
 | n+1,k=>if byteV s k=y then k else zCp s y n (k+1)
def cutI (s:ByteArray) (y:Nat):Nat:=zCp s y s.size 0
def zAy (s:ByteArray) (y:Nat):Bool:=decide (cutI s y<s.size)
def rcut1 (s:ByteArray) (y:Nat):ByteArray:=if zAy s y=true then s.extract 0 (cutI s y) else s
def rcut2 (s:ByteArray) (y:Nat):ByteArray:=if zAy s y=true then s.extract (cutI s y+1) s.size else ByteArray.empty
end Go.Proofs.YtlgkplnifaoeeaaGreatDoor
namespace Go.Proofs.YtlgkplnifaoeeaaGreatDoor
open Go.RowKit Go.VS
def zBF (book:ByteArray):ByteArray:=rcut1 book 10
def zAX (book:ByteArray):ByteArray:=rcut2 (rcut1 book 10) 32
def zBJ (book:ByteArray):ByteArray:=rcut1 (rcut2 (rcut1 book 10) 32) 32
def zA5 (book:ByteArray):ByteArray:=rcut2 (rcut2 (rcut1 book 10) 32) 32
def zCN (book:ByteArray):Line:=(zA5 book,numRV (zBJ book))
def nxIs (book:ByteArray):Bool:=zBi (zBJ book) && decide (numRV (zBJ book)≤999999)
def zCh (book:ByteArray):Bool:=zAy book 10 && (zAy (zBF book) 32 && (zAy (zAX book) 32 && (nxIs book && decide (1≤((zA5 book).size:Int)∧((zA5 book).size:Int)≤30))))
end Go.Proofs.YtlgkplnifaoeeaaGreatDoor
namespace Go.Proofs.YtlgkplnifaoeeaaGreatDoor
open Go.RowKit Go.VS
def nxOK (b:ByteArray) (s:Int):Bool:=zCh b && decide (lineV s (zCN b)=zBF b)
def nxSum (b:ByteArray) (s:Int):Int:=sumV s (textV (numRV (zBJ b)) (zA5 b))
def zAJ:Nat→ByteArray→Int→List Line×ByteArray
 | 0,b,_=>([],b)
 | n+1,b,s=>if nxOK b s=true then (zCN b::(zAJ n (rcut2 b 10) (nxSum b s)).1,(zAJ n (rcut2 b 10) (nxSum b s)).2) else ([],b)
theorem zEe {n:Nat} {b:ByteArray} {s:Int} (h:nxOK b s=true):zAJ (n+1) b s=(zCN b::(zAJ n (rcut2 b 10) (nxSum b s)).1,(zAJ n (rcut2 b 10) (nxSum b s)).2):=if_pos h
theorem zBq {n:Nat} {b:ByteArray} {s:Int} (h:¬nxOK b s=true):zAJ n b s=([],b):=by
 cases n with
 | zero=>rfl
 | succ n=>exact if_neg h
end Go.Proofs.YtlgkplnifaoeeaaGreatDoor
namespace Go.Proofs.YtlgkplnifaoeeaaGreatDoor
open Go.RowKit Go.VS Go.ChangeMaps Go.MapKept
def formsL:List (ByteArray×Int×Int):=[(pPut,0,2),(pTake,1,2),(pWant,2,2),(pDrop,3,2),(pCost,4,3),(zIL,5,1),(zIK,6,1)]
structure MapAt (w0 w:World) (b:Nat) (l:List (ByteArray×Int×Int)):Prop where
 new:w0.heap.size≤b
 keep:Keep (fun _=>False) w0 w
 at':∃ es clock,w.heap[b]?=some (.map es clock)∧MapIs es l
theorem zSn (w:World):MapAt w (w.alloc (.map #[] 0)) w.heap.size [] :=
 ⟨Nat.le_refl _,⟨rfl,rfl,rfl,by simp,fun k hk _=>Below.heap_alloc w _ k hk⟩,#[],0,heap_alloc_new w _,rfl⟩
theorem zWh {P:Program} {t k e:TypeId} (ht:P.underlying t=some (.map k e)) (hk:P.underlying k=some .string) {w0 w:World} {b:Nat} {l:List (ByteArray×Int×Int)} (h:MapAt w0 w b l) (s:ByteArray) (y:Int×Int) (hs:smHas l s=false) :
 ∃ w',(Instr.mapUpdate t (.map (some b)) (.string s) (.agg #[.int .i64 y.1,.int .i64 y.2])).run P w=.ok () w'∧MapAt w0 w' b (l++[(s,y)]):=by
 obtain ⟨h1,h2,es,cl,hb,hm⟩:=h
 have hck:(Instr.checkKey false 10000 k (.string s)).run P w=.ok () w:=by rw [show (10000:Nat)=9999+1 from rfl]; unfold Instr.checkKey; simp only [Sem.run_bind,run_underlying hk,Result.andThen_ok,Sem.run_pure]
 have hf:Instr.findNow .string (.string s) es.toList 0=some none:=by
  rcases zF0 s es.toList l 0 hm with ⟨h5,_⟩|⟨j,p,_,h6⟩
  ·exact h5
  ·rw [smHas,h6] at hs; cases hs
 have hfind:(Instr.findKey k (.string s) es.toList).run P w=.ok none w:=by
  simp only [Instr.findKey,Sem.run_bind,run_underlying hk,Result.andThen_ok,hf,Sem.run_pure]
 refine ⟨setBlock w b (.map (es.push ⟨.string s,.agg #[.int .i64 y.1,.int .i64 y.2],cl⟩) (cl+1)),?_,h1,?_,_,_,heap_setBlock_same hb _,?_⟩
 ·have hset:(setObj b (.map (es.push ⟨.string s,.agg #[.int .i64 y.1,.int .i64 y.2],cl⟩) (cl+1))).run P w=.ok () (setBlock w b (.map (es.push ⟨.string s,.agg #[.int .i64 y.1,.int .i64 y.2],cl⟩) (cl+1))):=by
   exact run_setObj_map _ hb
  simp only [Instr.mapUpdate,Sem.run_bind,run_underlying ht,Result.andThen_ok,run_getObj_map w b es cl hb,hck,hfind]
  exact hset
 ·exact h2.step (M:=fun k=>k=b) ⟨rfl,rfl,rfl,by simp [setBlock],fun k hk hne=>heap_setBlock_other hb _ hne⟩ (fun k hk hlt=>by omega)
 ·show ((es.push _).toList.map _)=_
  rw [Array.toList_push,List.map_append,List.map_append,hm]
  rfl
theorem zQ3 {P:Program} {ops:Array Oper} {rest:List Oper} {o:Oper} {a:Act} {w w0:World} {Q:Exit→Act→World→Prop} (hg:o.guard=none) {t:TypeId} {mo x v:Operand} (hop:o.op=.insert t mo x v) {k e:TypeId}
 (ht:P.underlying t=some (.map k e)) (hk:P.underlying k=some .string) {b:Nat} {s:ByteArray} {n m:Int} {l:List (ByteArray×Int×Int)} (hm:a.eval mo=.map (some b)) (hx:a.eval x=.string s) (hv:a.eval v=.agg #[.int .i64 n,.int .i64 m])
 (h:MapAt w0 w b l) (hs:smHas l s=false) (K:∀ w',MapAt w0 w' b (l++[(s,n,m)])→wpList P ops Q rest (a.put o.dst undef) w'):wpList P ops Q (o::rest) a w:=by
 refine wpList_plain hg fun K' hK'=>?_
 obtain ⟨w',hrun,h'⟩:=zWh ht hk h s (n,m) hs
 unfold Oper.wp
 simp [execOp,hop,hm,hx,hv,hrun,Result.andThen]
 exact hK' _ _ (K w' h')
theorem zPW (n m:Int) (w:World):(Instr.build 164 #[(0,.int .i64 n),(1,.int .i64 m)]).run Tryz.prog w=.ok (.agg #[.int .i64 n,.int .i64 m]) w:=by kernel_rfl
set_option maxRecDepth 20000 in
set_option maxHeartbeats 1000000 in
theorem zNq (w:World):Calls Tryz.prog 123 #[] w fun e w'=>∃ b,e=.returned (.map (some b))∧MapAt w w' b formsL:=by
 have h0:=zSn w
 have hb:=zPW
 have hmk:=fun w=>run_makeMap (P:=Tryz.prog) 166 w
 go_enter Tryz.func123,Tryz.ntmps123
 go_wp2_with (refine zQ3 rfl rfl Tryz.underlying166 Tryz.underlying9 (b:=w.heap.size) rfl rfl rfl (by assumption) (by decide +kernel) ?_; intro w' h0')
 go_ret
 exact ⟨_,rfl,by assumption⟩
@[push_cast] def zTX:Con:=⟨[],fun _=>True,fun _=>{res:=[.val .smap formsL]}⟩
theorem zPY:FnSpec Tryz.prog 123 zTX:=by
 refine zBS ⟨_,Tryz.func123,by kernel_rfl,rfl⟩ (fun _=>rfl) (fun _=>rfl) fun C γ x vs hpre hen=>?_
 have hlt:=hen.ownlt
 have hargs:=hen.args
 obtain rfl:vs=[]:=hargs
 refine (zNq C.w0).mono ?_
 rintro e w' ⟨b,rfl,h1,h2,es,cl,hb,hm⟩
 refine ⟨[_],rfl,⟨_,[],rfl,⟨_,⟨b,es,cl,rfl,⟨.inr (.inl h1),?_⟩,?_,hb,hm⟩,rfl⟩,rfl,rfl,rfl⟩,h2⟩
 ·cases ho:γ.own b with
  | none=>rfl
  | some l=>have:=hlt b l ho; omega
 ·exact (Array.getElem?_eq_some_iff.1 hb).1
end Go.Proofs.YtlgkplnifaoeeaaGreatDoor
namespace Go.Proofs.YtlgkplnifaoeeaaGreatDoor
open Go.RowKit Go.VS
theorem zAV {x y:Bool} (o:x=true→y=true) (h:y=false):x=false:=by
 cases x with
 | false=>rfl
 | true=>rw [o rfl] at h; cases h
structure StateSz (s:State):Prop where
 c:s.1.length≤1000
 row:∀ k,k<s.1.length→(s.1.getD k []).length≤1000
 a:s.2.1.length≤1000
 b:s.2.2.1.length≤1000
abbrev stSh:Sh:=.prod (.sl (.sl .int)) (.prod (.sl .int) (.prod (.sl .int) .int))
def zC2 (s:State):AS:=AS.of [(2,.one (.box 2))] [(27,.deep 25 3 .int s.1),(8,.flat 3 .int s.2.1),(11,.flat 3 .int s.2.2.1)] [(2,.rcd [.ref 27,.ref 8,.ref 11,.val .int s.2.2.2])]
def zKE (s:State):AS:=AS.of [(2,.one (.box 2))] [] [(2,.rcd [.val (.sl (.sl .int)) s.1,.val (.sl .int) s.2.1,.val (.sl .int) s.2.2.1,.val .int s.2.2.2])]
structure CloneQ (nl:Nat) (s:State) (e:Exit) (t:AS):Prop where
 e:e=.normal∨e=.ret
 h:Weak nl t (zC2 s)
set_option maxHeartbeats 4000000 in
theorem zLu {C:Ctx} (hE:KnowOK C.P (know [(119,zGi)] [])) (hnl:C.nl=0) (s:State) (hs:StateSz s) {code:Code} (hb:Tryz.f74.body=some code) :
 tri C 31 code (CloneQ 0 s) (AS.of [(0,.one (.val stSh s))] [] []):=by
 obtain ⟨c,a,b,w⟩:=s
 obtain ⟨hc,hrow,ha,hbl⟩:=hs
 dsimp only at *
 have hb':code=(Tryz.f74.body).getD .skip:=by rw [hb]; rfl
 subst hb'
 clear hb
 show tri C 31 _ _ _
 dsimp only [Tryz.f74]
 simp only [Option.getD_some]
 have hnl0:=hnl
 replace hnl:=And.intro hnl (And.intro ha hbl)
 repeat' (first|(refine goK (by assumption) ?_; iterate 4 (try clear hK K))|(refine zAc fun K hK=>?_)|(refine zAa hE rfl ?_; simp +contextual only [hnl,↓kN,↓kP,↓kG,↓qN,↓qP,↓qG,push_cast,seval,reduceCtorEq])|refine andS ?_|fail)
 refine zBE hE (fun D s=>(D 8=true→D 2=true) ∧
  (D 8=true→D 5=true) ∧
  (D 10=true→D 8=true) ∧
  (D 10=true→D 9=true) ∧
  s.boxes 1=some (.one (.val (.prod (.sl (.sl .int)) (.prod (.sl .int) (.prod (.sl .int) .int))) (c,a,b,w))) ∧
  s.boxes 2=some (.rcd [.nils,.nils,.nils,.val .int 0]) ∧
  s.env 1=.one (.box 1) ∧
  s.env 2=.one (.box 2) ∧
  (D 2=true→s.roots 8=some (.flat 3 .int a)) ∧
  (D 5=true→s.roots 11=some (.flat 3 .int b)) ∧
  (D 0=true→s.env 6=.one (.boxf 1 4 1 1)) ∧
  (D 1=true→s.env 7=.one (.val (.sl .int) a)) ∧
  (D 2=true→s.env 8=.one (.ref 8)) ∧
  (D 3=true→s.env 9=.one (.boxf 1 4 2 2)) ∧
  (D 4=true→s.env 10=.one (.val (.sl .int) b)) ∧
  (D 5=true→s.env 11=.one (.ref 11)) ∧
  (D 6=true→s.env 12=.one (.boxf 1 4 3 3)) ∧
  (D 7=true→s.env 13=.one (.val .int w)) ∧
  (D 8=true→s.env 14=.rcd [.nils,.ref 8,.ref 11,.val .int w]) ∧
  (D 9=true→s.env 3=.one (.box 3)) ∧
  (D 9=true→D 10=false→s.boxes 3=some (.rcd [.nils,.nils,.nils,.val .int 0])) ∧
  (D 10=true→s.boxes 3=some (.rcd [.nils,.ref 8,.ref 11,.val .int w]))) rfl (by kernel_rfl) ?_ ?_ ?_
 ·dsimp only
  simp only [push_cast,seval,reduceCtorEq]
 ·refine ⟨fun D s h0 hp hI=>?_,fun D s h0 hp hI=>?_,fun D s h0 hp hI=>?_,fun D s h0 hp hI=>?_,fun D s h0 hp hI=>?_,fun D s h0 hp hI=>?_,fun D s h0 hp hI=>?_,fun D s h0 hp hI=>?_,fun D s h0 hp hI=>?_,fun D s h0 hp hI=>?_,fun D s h0 hp hI=>?_,trivial⟩
  all_goals obtain ⟨o1,o2,o3,o4,q1,q2,e1,e2,r8,r11,f0,f1,f2,f3,f4,f5,f6,f7,f8,f9,g9,f10⟩:=hI
  all_goals replace hp:=List.all_eq_true.1 hp
  ·simp +contextual only [hnl,h0,o1,o2,o3,o4,q1,q2,e1,e2,r8,r11,f0,f1,f2,f3,f4,f5,f6,f7,f8,f9,g9,f10,setD,↓kN,↓kP,push_cast,seval,reduceCtorEq]
  ·have d0:=hp 0 (by decide)
   simp +contextual only [d0,hnl,h0,o1,o2,o3,o4,q1,q2,e1,e2,r8,r11,f0,f1,f2,f3,f4,f5,f6,f7,f8,f9,g9,f10,setD,↓kN,↓kP,push_cast,seval,reduceCtorEq]
  ·have d1:=hp 1 (by decide)
   have n8:=zAV o1 h0
   have n10:=zAV o3 n8
   simp +contextual only [d1,n8,n10,hnl,h0,o1,o2,o3,o4,q1,q2,e1,e2,r8,r11,f0,f1,f2,f3,f4,f5,f6,f7,f8,f9,g9,f10,setD,↓kN,↓kP,push_cast,seval,reduceCtorEq]
  ·simp +contextual only [hnl,h0,o1,o2,o3,o4,q1,q2,e1,e2,r8,r11,f0,f1,f2,f3,f4,f5,f6,f7,f8,f9,g9,f10,setD,↓kN,↓kP,push_cast,seval,reduceCtorEq]
  ·have d3:=hp 3 (by decide)
   simp +contextual only [d3,hnl,h0,o1,o2,o3,o4,q1,q2,e1,e2,r8,r11,f0,f1,f2,f3,f4,f5,f6,f7,f8,f9,g9,f10,setD,↓kN,↓kP,push_cast,seval,reduceCtorEq]
  ·have d4:=hp 4 (by decide)
   have n8:=zAV o2 h0
   have n10:=zAV o3 n8
   simp +contextual only [d4,n8,n10,hnl,h0,o1,o2,o3,o4,q1,q2,e1,e2,r8,r11,f0,f1,f2,f3,f4,f5,f6,f7,f8,f9,g9,f10,setD,↓kN,↓kP,push_cast,seval,reduceCtorEq]
  ·simp +contextual only [hnl,h0,o1,o2,o3,o4,q1,q2,e1,e2,r8,r11,f0,f1,f2,f3,f4,f5,f6,f7,f8,f9,g9,f10,setD,↓kN,↓kP,push_cast,seval,reduceCtorEq]
  ·have d6:=hp 6 (by decide)
   simp +contextual only [d6,hnl,h0,o1,o2,o3,o4,q1,q2,e1,e2,r8,r11,f0,f1,f2,f3,f4,f5,f6,f7,f8,f9,g9,f10,setD,↓kN,↓kP,push_cast,seval,reduceCtorEq]
  ·have d2:=hp 2 (by decide)
   have d5:=hp 5 (by decide)
   have d7:=hp 7 (by decide)
   have n10:=zAV o3 h0
   simp +contextual only [d2,d5,d7,n10,hnl,h0,o1,o2,o3,o4,q1,q2,e1,e2,r8,r11,f0,f1,f2,f3,f4,f5,f6,f7,f8,f9,g9,f10,setD,↓kN,↓kP,push_cast,seval,reduceCtorEq]
  ·have n10:=zAV o4 h0
   simp +contextual only [n10,hnl,h0,o1,o2,o3,o4,q1,q2,e1,e2,r8,r11,f0,f1,f2,f3,f4,f5,f6,f7,f8,f9,g9,f10,setD,↓kN,↓kP,push_cast,seval,reduceCtorEq]
  ·have d8:=hp 8 (by decide)
   have d9:=hp 9 (by decide)
   simp +contextual only [d8,d9,hnl,h0,o1,o2,o3,o4,q1,q2,e1,e2,r8,r11,f0,f1,f2,f3,f4,f5,f6,f7,f8,f9,g9,f10,setD,↓kN,↓kP,push_cast,seval,reduceCtorEq]
 intro D s hD hI
 obtain ⟨o1,o2,o3,o4,q1,q2,e1,e2,r8,r11,f0,f1,f2,f3,f4,f5,f6,f7,f8,f9,g9,f10⟩:=hI
 have v1:=r8 (hD 2 (by decide))
 have v2:=r11 (hD 5 (by decide))
 have v3:=f10 (hD 10 (by decide))
 have v4:=f9 (hD 9 (by decide))
 refine goK hK ?_
 refine zAo (t:=AS.of [(1,.one (.box 1)),(2,.one (.box 2)),(3,.one (.box 3))] [(8,.flat 3 .int a),(11,.flat 3 .int b)] [(1,.one (.val stSh (c,a,b,w))),(2,.rcd [.nils,.nils,.nils,.val .int 0]),(3,.rcd [.nils,.ref 8,.ref 11,.val .int w])]) ?_ ?_
 ·refine zAg ?_ ?_ ?_<;>simp only [v1,v2,v3,v4,q1,q2,e1,e2,push_cast,seval,reduceCtorEq]
 clear hK hD
 repeat' (first|(refine goK (by assumption) ?_; iterate 4 (try clear hK K))|(refine zAc fun K hK=>?_)|(refine zAa hE rfl ?_; simp +contextual only [hnl,↓kN,↓kP,↓kG,↓qN,↓qP,↓qG,push_cast,seval,reduceCtorEq])|refine zAd ?_|fail)
 refine zAk (fun k:Nat=>AS.of [(2,.one (.box 2)),(3,.one (.box 3)),(16,.one (.val (.sl (.sl .int)) c)),(17,.I (c.length:Nat)),(18,.I (k:Nat))] [(27,.deep 25 3 .int (c.take k)),(8,.flat 3 .int a),(11,.flat 3 .int b)] [(2,.rcd [.nils,.nils,.nils,.val .int 0]),(3,.rcd [.ref 27,.ref 8,.ref 11,.val .int w])]) (fun k=>k≤c.length) (fun k=>c.length - k) 0 (Nat.zero_le _) ?_ ?_
 ·refine zAg ?_ ?_ ?_<;>simp only [push_cast,seval,reduceCtorEq]
  all_goals first|omega|rfl|exact ⟨by omega,rfl⟩|skip
 intro k hk K' hL
 rcases Nat.lt_or_ge k c.length with hkl|hkl
 ·have hrk:=hrow k hkl
  have htl:(c.take k).length≤1000000:=by rw [List.length_take]; omega
  have hst:c.take k++[c.getD k []]=c.take (k+1):=by
   rw [List.take_succ_eq_append_getElem hkl]
   simp [List.getD_eq_getElem?_getD,hkl]
  replace hnl:=And.intro hnl (And.intro hrk (And.intro htl hst))
  repeat' (first|(refine goK (by assumption) ?_; iterate 4 (try clear hK K))|(refine zAc fun K hK=>?_)|(refine zAa hE rfl ?_; simp +contextual only [hnl,↓kN,↓kP,↓kG,↓qN,↓qP,↓qG,push_cast,seval,reduceCtorEq])|refine zAd ?_|(refine zAf ?_; simp only [thenQ,zAi,if_true,if_false,Nat.reduceEqDiff,reduceCtorEq])|(refine zAe (by rfl) (fun hb=>?_) (fun hb=>?_)<;>(try simp only [bqa,bqb,bqc,bqd,reduceCtorEq,bqe,bqf] at hb)<;>(try omega))|refine andS ?_|fail)
  refine zBE hE (fun D s=>(D 5=true→D 1=true) ∧
   (D 5=true→D 4=true) ∧
   (D 4=true→D 3=true) ∧
   (D 7=true→D 5=true) ∧
   s.env 2=.one (.box 2) ∧
   s.env 3=.one (.box 3) ∧
   s.env 5=.one (.val (.sl .int) (c.getD k [])) ∧
   s.env 16=.one (.val (.sl (.sl .int)) c) ∧
   s.env 17=.I (c.length:Nat) ∧
   s.env 18=.I (k:Nat) ∧
   s.boxes 2=some (.rcd [.nils,.nils,.nils,.val .int 0]) ∧
   s.roots 8=some (.flat 3 .int a) ∧
   s.roots 11=some (.flat 3 .int b) ∧
   s.roots 27=some (.deep 25 3 .int (if D 5=true then c.take (k+1) else c.take k)) ∧
   (D 3=true→D 5=false→s.roots 25=some (.flat 3 .int (c.getD k []))) ∧
   (D 5=false→s.boxes 3=some (.rcd [.ref 27,.ref 8,.ref 11,.val .int w])) ∧
   (D 5=true→D 7=false→s.boxes 3=some (.rcd [.any,.ref 8,.ref 11,.val .int w])) ∧
   (D 7=true→s.boxes 3=some (.rcd [.ref 27,.ref 8,.ref 11,.val .int w])) ∧
   (D 0=true→s.env 22=.one (.boxf 3 4 0 0)) ∧
   (D 1=true→D 5=false→s.env 23=.one (.ref 27)) ∧
   (D 2=true→s.env 24=.one (.val (.sl .int) (c.getD k []))) ∧
   (D 3=true→D 5=false→s.env 25=.one (.ref 25)) ∧
   (D 4=true→D 5=false→s.env 26=.one (.lits 25)) ∧
   (D 5=true→s.env 27=.one (.ref 27)) ∧
   (D 6=true→s.env 28=.one (.boxf 3 4 0 0))) rfl (by kernel_rfl) ?_ ?_ ?_
  ·dsimp only
   simp only [push_cast,seval,reduceCtorEq]
  ·refine ⟨fun D s h0 hp hI=>?_,fun D s h0 hp hI=>?_,fun D s h0 hp hI=>?_,fun D s h0 hp hI=>?_,fun D s h0 hp hI=>?_,fun D s h0 hp hI=>?_,fun D s h0 hp hI=>?_,fun D s h0 hp hI=>?_,trivial⟩
   all_goals obtain ⟨o1,o2,o3,o4,e2,e3,e5,e16,e17,e18,q2,r8,r11,r27,r25,q3,q5,q7,f0,f1,f2,f3,f4,f5,f6⟩:=hI
   all_goals replace hp:=List.all_eq_true.1 hp
   ·simp +contextual only [hnl,h0,o1,o2,o3,o4,e2,e3,e5,e16,e17,e18,q2,r8,r11,r27,r25,q3,q5,q7,f0,f1,f2,f3,f4,f5,f6,setD,↓kN,↓kP,push_cast,seval,reduceCtorEq]
   ·have d0:=hp 0 (by decide)
    have n5:=zAV o1 h0
    have n7:=zAV o4 n5
    simp +contextual only [d0,n5,n7,hnl,h0,o1,o2,o3,o4,e2,e3,e5,e16,e17,e18,q2,r8,r11,r27,r25,q3,q5,q7,f0,f1,f2,f3,f4,f5,f6,setD,↓kN,↓kP,push_cast,seval,reduceCtorEq]
   ·simp +contextual only [hnl,h0,o1,o2,o3,o4,e2,e3,e5,e16,e17,e18,q2,r8,r11,r27,r25,q3,q5,q7,f0,f1,f2,f3,f4,f5,f6,setD,↓kN,↓kP,push_cast,seval,reduceCtorEq]
   ·have d2:=hp 2 (by decide)
    have n4:=zAV o3 h0
    have n5:=zAV o2 n4
    have n7:=zAV o4 n5
    simp +contextual only [d2,n4,n5,n7,hnl,h0,o1,o2,o3,o4,e2,e3,e5,e16,e17,e18,q2,r8,r11,r27,r25,q3,q5,q7,f0,f1,f2,f3,f4,f5,f6,setD,↓kN,↓kP,push_cast,seval,reduceCtorEq]
   ·have d3:=hp 3 (by decide)
    have n5:=zAV o2 h0
    have n7:=zAV o4 n5
    simp +contextual only [d3,n5,n7,hnl,h0,o1,o2,o3,o4,e2,e3,e5,e16,e17,e18,q2,r8,r11,r27,r25,q3,q5,q7,f0,f1,f2,f3,f4,f5,f6,setD,↓kN,↓kP,push_cast,seval,reduceCtorEq]
   ·have d1:=hp 1 (by decide)
    have d4:=hp 4 (by decide)
    have n7:=zAV o4 h0
    have d3:=o3 d4
    simp +contextual only [d1,d4,n7,d3,hnl,h0,o1,o2,o3,o4,e2,e3,e5,e16,e17,e18,q2,r8,r11,r27,r25,q3,q5,q7,f0,f1,f2,f3,f4,f5,f6,setD,↓kN,↓kP,push_cast,seval,reduceCtorEq]
   ·simp +contextual only [hnl,h0,o1,o2,o3,o4,e2,e3,e5,e16,e17,e18,q2,r8,r11,r27,r25,q3,q5,q7,f0,f1,f2,f3,f4,f5,f6,setD,↓kN,↓kP,push_cast,seval,reduceCtorEq]
   ·have d5:=hp 5 (by decide)
    have d6:=hp 6 (by decide)
    simp +contextual only [d5,d6,hnl,h0,o1,o2,o3,o4,e2,e3,e5,e16,e17,e18,q2,r8,r11,r27,r25,q3,q5,q7,f0,f1,f2,f3,f4,f5,f6,setD,↓kN,↓kP,push_cast,seval,reduceCtorEq]
  intro D s hD hI
  obtain ⟨o1,o2,o3,o4,e2,e3,e5,e16,e17,e18,q2,r8,r11,r27,r25,q3,q5,q7,f0,f1,f2,f3,f4,f5,f6⟩:=hI
  have v1:=r27
  rw [if_pos (hD 5 (by decide))] at v1
  have v3:=q7 (hD 7 (by decide))
  refine goK hK ?_
  refine zAo (t:=AS.of [(2,.one (.box 2)),(3,.one (.box 3)),(16,.one (.val (.sl (.sl .int)) c)),(17,.I (c.length:Nat)),(18,.I (k:Nat))] [(27,.deep 25 3 .int (c.take (k+1))),(8,.flat 3 .int a),(11,.flat 3 .int b)] [(2,.rcd [.nils,.nils,.nils,.val .int 0]),(3,.rcd [.ref 27,.ref 8,.ref 11,.val .int w])]) ?_ ?_
  ·refine zAg ?_ ?_ ?_<;>simp only [v1,v3,r8,r11,q2,e2,e3,e16,e17,e18,push_cast,seval,reduceCtorEq]
  clear hK hD
  repeat' (first|(refine zAa hE rfl ?_; simp +contextual only [hnl,↓kN,↓kP,↓kG,↓qN,↓qP,↓qG,push_cast,seval,reduceCtorEq])|refine andS ?_|fail)
  refine hL _ (k+1) (by omega) (by omega) ?_
  refine zAg ?_ ?_ ?_<;>simp only [push_cast,seval,reduceCtorEq]
 ·obtain rfl:k=c.length:=by omega
  clear hL
  repeat' (first|(refine goK (by assumption) ?_; iterate 4 (try clear hK K))|(refine zAc fun K hK=>?_)|((first|refine zAa hE rfl ?_|refine zAh ?_); simp +contextual only [hnl,↓kN,↓kP,↓kG,↓qN,↓qP,↓qG,push_cast,seval,reduceCtorEq])|(refine zAj ?_; simp only [thenQ,zAi,if_true,if_false,Nat.reduceEqDiff,reduceCtorEq])|(refine zAe (by rfl) (fun hb=>?_) (fun hb=>?_)<;>(try simp only [bqa,bqb,bqc,bqd,reduceCtorEq,bqe,bqf] at hb)<;>(try omega))|fail)
  all_goals ((try refine zAh ?_); refine ⟨.inr rfl,?_⟩; unfold zC2; dsimp only; refine zAg ?_ ?_ ?_<;>simp only [push_cast,seval,reduceCtorEq]; exact .inl (by rw [List.take_length]))
def zRr:Know:=know [(119,zGi)] []
theorem zLt:KnowOK Tryz.prog zRr:=zAl (all_cons zJt all_nil) all_nil all_nil
@[push_cast] def zEp:Con:=⟨[.dat stSh],fun (x:State×Unit)=>StateSz x.1,fun (x:State×Unit)=>{res:=[.val stSh x.1]}⟩
theorem stClone_spec:FnSpec Tryz.prog 74 zEp:=by
 refine FnSpec.of_tri' (E:=zRr) zLt Tryz.func74 rfl rfl (by kernel_rfl) ?_
 intro C x hE hnl hfit hpre
 simp only [Tryz.ntmps74,Tryz.results74,lends] at hnl ⊢
 obtain ⟨s,_⟩:=x
 refine zLh (zLh (zVc (zLu hE hnl s hpre rfl) ?_))
 rintro e t ⟨he,hw⟩
 refine ⟨zC2 s,by rw [hnl]; exact hw,zKE s,?_,?_⟩
 ·unfold zC2 zKE
  refine zAg ?_ ?_ ?_<;>simp only [push_cast,seval,reduceCtorEq]
 ·unfold zKE
  rcases he with rfl|rfl<;>simp only [zRr,hnl,push_cast,seval,reduceCtorEq]
end Go.Proofs.YtlgkplnifaoeeaaGreatDoor
namespace Go.Proofs.YtlgkplnifaoeeaaGreatDoor
open Go.RowKit Go.VS
def hw (t:ByteArray) (i:Nat):ByteArray:=(zAA t spS).getD i ByteArray.empty
def zFb (s:ByteArray):Bool:=zDA s && decide (0≤atoiV s) && decide (atoiV s≤99999) && decide (itoaV (atoiV s)=s)
def hform (t:ByteArray):Int×Int:=smGet formsL (hw t 0)
def hpOK (t:ByteArray):Bool:=decide (1≤t.size∧t.size≤30) && smHas formsL (hw t 0) && decide (((zAA t spS).length:Int)=(hform t).2+1) && (List.range ((zAA t spS).length - 1)).all fun i=>zFb (hw t (i+1))
def zJL (t:ByteArray) (k:Nat):List Int:=tbl k fun i=>atoiV (hw t (i+1))
def hargs (t:ByteArray):List Int:=zJL t ((zAA t spS).length - 1)
section
variable {t:ByteArray} {k:Nat}
theorem zCb:hpOK t=true↔((1≤t.size∧t.size≤30)∧smHas formsL (hw t 0)=true∧((zAA t spS).length:Int)=(hform t).2+1)∧∀ i,i<(zAA t spS).length - 1→zFb (hw t (i+1))=true:=by
 simp only [hpOK,Bool.and_eq_true,decide_eq_true_eq,List.all_eq_true,List.mem_range,and_assoc]
theorem zXJ (h:¬(1≤t.size∧t.size≤30)):hpOK t=false:=by
 rw [Bool.eq_false_iff]; exact fun h2=>h (zCb.1 h2).1.1
theorem zXK (h:¬smHas formsL (hw t 0)=true):hpOK t=false:=by
 rw [Bool.eq_false_iff]; exact fun h2=>h (zCb.1 h2).1.2.1
theorem zXL (h:¬((zAA t spS).length:Int)=(hform t).2+1):hpOK t=false:=by
 rw [Bool.eq_false_iff]; exact fun h2=>h (zCb.1 h2).1.2.2
theorem zXM (hk:k<(zAA t spS).length - 1) (h:¬zFb (hw t (k+1))=true):hpOK t=false:=by
 rw [Bool.eq_false_iff]; exact fun h2=>h ((zCb.1 h2).2 k hk)
theorem zG3 {s:ByteArray}:zFb s=true↔zDA s=true∧0≤atoiV s∧atoiV s≤99999∧itoaV (atoiV s)=s:=by
 simp only [zFb,Bool.and_eq_true,decide_eq_true_eq,and_assoc]
theorem zLd (k:ByteArray):0≤(smGet formsL k).1∧(smGet formsL k).1≤6∧0≤(smGet formsL k).2∧(smGet formsL k).2≤3:=by
 unfold smGet
 cases h:formsL.find? (fun p=>decide (p.1=k)) with
 | none=>exact ⟨by decide,by decide,by decide,by decide⟩
 | some p =>
  have hm:=List.mem_of_find?_eq_some h
  simp only [formsL,List.mem_cons,List.not_mem_nil,or_false] at hm
  rcases hm with rfl|rfl|rfl|rfl|rfl|rfl|rfl<;>exact ⟨by decide,by decide,by decide,by decide⟩
end
@[push_cast] def zGt:Con:=⟨[.dat .str],fun _=>True,fun (x:ByteArray×Unit) =>
 {res:=[.val .int (if hpOK x.1=true then (hform x.1).1 else 0),.own (.flat 3 .int (if hpOK x.1=true then hargs x.1 else [])),.val (.err 161) (if hpOK x.1=true then 0 else 2)]}⟩
set_option maxHeartbeats 4000000 in
theorem zNt:FnSpec Tryz.prog 77 zGt:=by
 refine FnSpec.of_tri' (E:=know _ [] [] []) (zAl (kc zKd (kc zPY (kc zIb (kc zGv all_nil)))) all_nil all_nil) Tryz.func77 rfl rfl (by kernel_rfl) ?_
 intro C x hE hnl hfit hpre
 simp only [Tryz.ntmps77,Tryz.results77,maxLen,seval,push_cast] at hnl hfit hpre ⊢
 obtain ⟨(t:ByteArray),_⟩:=x
 dsimp only at hfit hpre ⊢
 by_cases h1:1≤t.size∧t.size≤30
 rotate_left
 ·have e:=zXJ h1
  replace hnl:=And.intro hnl (And.intro e zMA)
  exact auD
 have hsp:spS.size=1:=rfl
 have hpos:1≤(zAA t spS).length:=by rw [zFL t spS (by omega)]; omega
 have hlen:=zKb t spS (by omega)
 have hw0:(zAA t spS).getD 0 ByteArray.empty=hw t 0:=rfl
 have hfo:smGet formsL (hw t 0)=hform t:=rfl
 obtain ⟨f1,f2,f3,f4⟩:=zLd (hw t 0)
 rw [hfo] at f1 f2 f3 f4
 have hnl1:=hnl
 replace hnl:=And.intro hnl (And.intro zMA (And.intro hw0 (And.intro hfo hsp)))
 repeat' (first|(refine goK (by assumption) ?_; iterate 4 (try clear hK K))|(refine zAc fun K hK=>?_)|(refine zAa hE rfl ?_; simp +contextual only [hnl,↓kN,↓kP,↓kG,↓qN,↓qP,↓qG,push_cast,seval,reduceCtorEq])|(refine zAf ?_; simp only [thenQ,zAi,if_true,if_false,Nat.reduceEqDiff,reduceCtorEq])|(refine zAe (by rfl) (fun hb=>?_) (fun hb=>?_)<;>(try simp only [bqa,bqb,bqc,bqd,reduceCtorEq,bqe,bqf] at hb)<;>(try omega))|refine andS ?_|(refine ⟨fun hc=>?_,fun hc=>?_⟩)|fail)
 refine zBE hE (fun D s=>(D 9=true→D 8=true) ∧
  s.env 5=.one (.val (.sl .str) (zAA t spS)) ∧
  (D 0=true→s.env 26=.one (.val .smap formsL)) ∧
  (D 1=true→s.env 27=.one (.val (.sl .str) (zAA t spS))) ∧
  (D 2=true→s.env 28=.one (.padr .str (hw t 0))) ∧
  (D 3=true→s.env 29=.one (.val .str (hw t 0))) ∧
  (D 4=true→s.env 30=.tup [.val (.prod .int .int) (hform t),.val .bool (smHas formsL (hw t 0))]) ∧
  (D 5=true→s.env 25=.tup [.val (.prod .int .int) (hform t),.val .bool (smHas formsL (hw t 0))]) ∧
  (D 6=true→s.env 31=.one (.val (.prod .int .int) (hform t))) ∧
  (D 7=true→s.env 32=.one (.val .bool (smHas formsL (hw t 0)))) ∧
  (D 8=true→s.env 6=.one (.box 6)) ∧
  (D 8=true→D 9=false→s.boxes 6=some (.rcd [.val .int 0,.val .int 0])) ∧
  (D 9=true→s.boxes 6=some (.one (.val (.prod .int .int) (hform t)))) ∧
  (D 10=true→s.env 7=.one (.val .bool (smHas formsL (hw t 0))))) rfl (by kernel_rfl) ?_ ?_ ?_
 ·dsimp only
  simp only [push_cast,seval,reduceCtorEq]
 ·refine ⟨fun D s h0 hp hI=>?_,fun D s h0 hp hI=>?_,fun D s h0 hp hI=>?_,fun D s h0 hp hI=>?_,fun D s h0 hp hI=>?_,fun D s h0 hp hI=>?_,fun D s h0 hp hI=>?_,fun D s h0 hp hI=>?_,fun D s h0 hp hI=>?_,fun D s h0 hp hI=>?_,fun D s h0 hp hI=>?_,trivial⟩
  all_goals obtain ⟨o1,e5,f0,f1,f2,f3,f4,f5,f6,f7,f8,g8,f9,f10⟩:=hI
  all_goals (try simp [preds,Region.binds] at hp)
  all_goals (try have n0x:=zAV o1 h0)
  all_goals (simp +contextual only [*,setD,↓kN,↓kP,push_cast,seval,reduceCtorEq])
  all_goals first|omega|(refine And.intro ?_ ?_<;>omega)|rfl
 intro D s hD hI
 obtain ⟨o1,e5,f0,f1,f2,f3,f4,f5,f6,f7,f8,g8,f9,f10⟩:=hI
 have v1:=f8 (hD 8 (by decide))
 have v2:=f9 (hD 9 (by decide))
 have v3:=f10 (hD 10 (by decide))
 refine goK hK ?_
 refine zAo (t:=AS.of [(5,.one (.val (.sl .str) (zAA t spS))),(6,.one (.box 6)),(7,.one (.val .bool (smHas formsL (hw t 0))))] [] [(6,.one (.val (.prod .int .int) (hform t)))]) ?_ ?_
 ·refine zAg ?_ ?_ ?_<;>simp only [v1,v2,v3,e5,push_cast,seval,reduceCtorEq]
  all_goals first|exact ⟨_,rfl⟩|skip
 clear hK hD
 replace hnl:=hnl1
 by_cases h2:smHas formsL (hw t 0)=true
 rotate_left
 ·have e:=zXK h2
  rw [Bool.not_eq_true] at h2
  replace hnl:=And.intro hnl (And.intro e h2)
  exact auD
 by_cases h3:((zAA t spS).length:Int)=(hform t).2+1
 rotate_left
 ·have e:=zXL h3
  replace hnl:=And.intro hnl (And.intro e (And.intro h2 (eq_false h3)))
  exact auD
 replace hnl:=And.intro hnl (And.intro h2 (eq_true h3))
 repeat' (first|(refine goK (by assumption) ?_; iterate 4 (try clear hK K))|(refine zAc fun K hK=>?_)|(refine zAa hE rfl ?_; simp +contextual only [hnl,↓kN,↓kP,↓kG,↓qN,↓qP,↓qG,push_cast,seval,reduceCtorEq])|refine zAd ?_|(refine zAf ?_; simp only [thenQ,zAi,if_true,if_false,Nat.reduceEqDiff,reduceCtorEq])|(refine zAe (by rfl) (fun hb=>?_) (fun hb=>?_)<;>(try simp only [bqa,bqb,bqc,bqd,reduceCtorEq,bqe,bqf] at hb)<;>(try omega))|refine andS ?_|fail)
 refine zAk (fun k:Nat=>AS.of [(6,.one (.box 6)),(8,.one (.ref 78)),(46,.one (.val (.sl .str) ((zAA t spS).drop 1))),(47,.I ((zAA t spS).length - 1:Nat)),(48,.I k)] [(78,.flat 3 .int (zJL t k))] [(6,.one (.val (.prod .int .int) (hform t)))]) (fun k=>k≤(zAA t spS).length - 1∧∀ i,i<k→zFb (hw t (i+1))=true) (fun k=>(zAA t spS).length - 1 - k) 0 ⟨Nat.zero_le _,by omega⟩ ?_ ?_
 ·refine zAg ?_ ?_ ?_<;>simp only [push_cast,seval,reduceCtorEq]
  all_goals first|omega|rfl|exact ⟨by omega,rfl⟩|(rw [List.length_drop])|skip
 intro k ⟨hk,hall⟩ K' hL
 have hal:(zJL t k).length=k:=zAZ _ _
 have hdl:((zAA t spS).drop 1).length=(zAA t spS).length - 1:=List.length_drop ..
 rcases Nat.lt_or_ge k ((zAA t spS).length - 1) with hkl|hkl
 ·have hwk:((zAA t spS).drop 1).getD k ByteArray.empty=hw t (k+1):=by
   simp only [List.getD_eq_getElem?_getD,List.getElem?_drop,hw]
   rw [Nat.add_comm]
  have hws:(hw t (k+1)).size≤30:=by
   have:=zKc t spS (hw t (k+1)) (by
    have hk1:k+1<(zAA t spS).length:=by omega
    simp only [hw,List.getD_eq_getElem?_getD,List.getElem?_eq_getElem hk1,Option.getD_some]
    exact List.getElem_mem _)
   omega
  replace hnl:=And.intro hnl (And.intro hwk (And.intro hdl hal))
  by_cases h4:zFb (hw t (k+1))=true
  ·obtain ⟨q1,q2,q3,q4⟩:=zG3.1 h4
   have hst:zJL t (k+1)=zJL t k++[atoiV (hw t (k+1))]:=zD2 _ _
   have hin:InR (atoiV (hw t (k+1))):=by unfold InR; omega
   replace hnl:=And.intro hnl (And.intro q1 (And.intro q4 (eq_true hin)))
   repeat' (first|(refine goK (by assumption) ?_; iterate 4 (try clear hK K))|(refine zAc fun K hK=>?_)|(refine zAa hE rfl ?_; simp +contextual only [hnl,↓kN,↓kP,↓kG,↓qN,↓qP,↓qG,push_cast,seval,reduceCtorEq])|refine zAd ?_|(refine zAf ?_; simp only [thenQ,zAi,if_true,if_false,Nat.reduceEqDiff,reduceCtorEq])|(refine zAe (by rfl) (fun hb=>?_) (fun hb=>?_)<;>(try simp only [bqa,bqb,bqc,bqd,reduceCtorEq,bqe,bqf] at hb)<;>(try omega))|refine andS ?_|(refine ⟨fun hc=>?_,fun hc=>?_⟩)|fail)
   refine hL _ (k+1) ⟨by omega,fun i hi=>?_⟩ (by omega) ?_
   ·rcases Nat.lt_or_ge i k with h5|h5
    ·exact hall i h5
    ·obtain rfl:i=k:=by omega
     exact h4
   refine zAg ?_ ?_ ?_<;>simp only [push_cast,seval,reduceCtorEq]
   exact .inl (by rw [hst])
  ·have e:=zXM hkl h4
   cases q1:zDA (hw t (k+1)) with
   | false =>
    replace hnl:=And.intro hnl (And.intro q1 e)
    exact auD
   | true =>
    by_cases q2:atoiV (hw t (k+1))<0
    ·replace hnl:=And.intro hnl (And.intro q1 (And.intro e (eq_true q2)))
     exact auD
    by_cases q3:99999<atoiV (hw t (k+1))
    ·replace hnl:=And.intro hnl (And.intro q1 (And.intro e (And.intro (eq_false q2) (eq_true q3))))
     exact auD
    have q4:¬itoaV (atoiV (hw t (k+1)))=hw t (k+1):=fun h=>h4 (zG3.2 ⟨q1,by omega,by omega,h⟩)
    have hin:InR (atoiV (hw t (k+1))):=by unfold InR; omega
    replace hnl:=And.intro hnl (And.intro q1 (And.intro e (And.intro (eq_false q2) (And.intro (eq_false q3) (And.intro (eq_false q4) (eq_true hin))))))
    exact auD
 ·obtain rfl:k=(zAA t spS).length - 1:=by omega
  have e:hpOK t=true:=zCb.2 ⟨⟨h1,h2,h3⟩,hall⟩
  replace hnl:=And.intro hnl (And.intro e hdl)
  repeat' (first|(refine goK (by assumption) ?_; iterate 4 (try clear hK K))|(refine zAc fun K hK=>?_)|((first|refine zAa hE rfl ?_|refine zAh ?_); simp +contextual only [hnl,↓kN,↓kP,↓kG,↓qN,↓qP,↓qG,push_cast,seval,reduceCtorEq])|(refine zAj ?_; simp only [thenQ,zAi,if_true,if_false,Nat.reduceEqDiff,reduceCtorEq])|(refine zAe (by rfl) (fun hb=>?_) (fun hb=>?_)<;>(try simp only [bqa,bqb,bqc,bqd,reduceCtorEq,bqe,bqf] at hb)<;>(try omega))|fail)
  all_goals first|rfl|skip
end Go.Proofs.YtlgkplnifaoeeaaGreatDoor
namespace Go.Proofs.YtlgkplnifaoeeaaGreatDoor
open Go.RowKit Go.VS Go.Extern.Stop Go.Stop Go.Extern
theorem zXm (t:Value) (w:World):Calls Tryz.prog 126 #[.nilIface,t] w fun e w'=>e=.returned (.bool false)∧w'=w:=by
 go_enter Tryz.func126,Tryz.ntmps126
 go_wp2
 go_ret
 exact ⟨rfl,rfl⟩
theorem as_vp (t:Addr) (w:World):(ReflectliteValue.unpack (.iface 172 (.pointer (some t)))).run Tryz.prog w=.ok (.agg #[.pointer (some ⟨9,172,none⟩),.pointer (some ⟨w.heap.size,0,none⟩),.int .u64 150]) (w.alloc (.cells #[.pointer (some t)] 172)):=by kernel_rfl
theorem as_vr (n:Int) (w:World):(ReflectliteValue.unpack (.iface 161 (.agg #[.int .i64 n]))).run Tryz.prog w=.ok (.agg #[.pointer (some ⟨9,161,none⟩),.pointer (some ⟨w.heap.size,0,none⟩),.int .u64 153]) (w.alloc (.cells #[.int .i64 n] 161)):=by kernel_rfl
theorem zXr (a:Addr) (w:World):(ReflectliteValue.methodAny (ReflectliteValue.valueError "reflectlite.Value.Type" 0) (fun t _ _ _=>ReflectliteType.toType t) #[.agg #[.pointer (some ⟨9,172,none⟩),.pointer (some a),.int .u64 150]]).run Tryz.prog w=.ok (.iface 238 (.agg #[.pointer (some ⟨9,172,none⟩)])) w:=by kernel_rfl
theorem as_mk (h:Value) (w:World):(Go.method 418 238 (.agg #[h]) "Kind").run Tryz.prog w=.ok (260,h) w:=by kernel_rfl
theorem as_kp (w:World):((ReflectliteType.abiMethod fun t=>(fun a:Nat=>Value.int IntKind.u8 (a:Int)) <$> Rtype.kind t) #[.pointer (some ⟨9,172,none⟩)]).run Tryz.prog w=.ok (.int .u8 22) w:=by kernel_rfl
theorem as_kr (w:World):((ReflectliteType.abiMethod fun t=>(fun a:Nat=>Value.int IntKind.u8 (a:Int)) <$> Rtype.kind t) #[.pointer (some ⟨9,161,none⟩)]).run Tryz.prog w=.ok (.int .u8 25) w:=by kernel_rfl
theorem zVl (z:Sem Value) (f:TypeId→Addr→Nat→Nat→Sem Value) (v:Value):ReflectliteValue.method z f #[v]=(do match ←ReflectliteValue.parts v with|none=>z|some (t,a,fl)=>f t a fl (fl % 32)):=rfl
theorem as_pp (a:Addr) (w:World):(ReflectliteValue.parts (.agg #[.pointer (some ⟨9,172,none⟩),.pointer (some a),.int .u64 150])).run Tryz.prog w=.ok (some (172,a,150)) w:=by kernel_rfl
theorem zTB (a p:Addr) (W:World) (ha:W.cell? a=some (.pointer (some p))):(ReflectliteValue.method (ReflectliteValue.valueError "reflectlite.Value.IsNil" 0) ReflectliteValue.isNil #[.agg #[.pointer (some ⟨9,172,none⟩),.pointer (some a),.int .u64 150]]).run Tryz.prog W=.ok (.bool false) W:=by
 rw [zVl]
 simp only [Sem.run_bind,as_pp,Result.andThen]
 simp [ReflectliteValue.isNil,loadVar,isAgg,underlying,Tryz.underlying172,ha,Result.andThen]
theorem as_me (h:Value) (w:World):(Go.method 418 238 (.agg #[h]) "Elem").run Tryz.prog w=.ok (273,.agg #[h]) w:=by kernel_rfl
theorem as_mi (h:Value) (w:World):(Go.method 418 238 (.agg #[h]) "Implements").run Tryz.prog w=.ok (274,.agg #[h]) w:=by kernel_rfl
theorem as_ma (h:Value) (w:World):(Go.method 418 238 (.agg #[h]) "AssignableTo").run Tryz.prog w=.ok (271,.agg #[h]) w:=by kernel_rfl
theorem as_ep (w:World):(ReflectliteType.method ReflectliteType.elem #[.agg #[.pointer (some ⟨9,172,none⟩)]]).run Tryz.prog w=.ok (.iface 238 (.agg #[.pointer (some ⟨9,161,none⟩)])) w:=by kernel_rfl
theorem as_ir (w:World) : (ReflectliteType.relation "Implements" ReflectliteType.implements_ #[.agg #[.pointer (some ⟨9,161,none⟩)],.iface 238 (.agg #[.pointer (some ⟨9,116,none⟩)])]).run Tryz.prog w=.ok (.bool true) w:=by kernel_rfl
theorem as_to (v:Value) (w:World):(ReflectliteType.typeOf #[.iface 161 v]).run Tryz.prog w=.ok (.iface 238 (.agg #[.pointer (some ⟨9,161,none⟩)])) w:=by kernel_rfl
theorem as_ar (w:World) : (ReflectliteType.relation "AssignableTo" ReflectliteType.assignableTo #[.agg #[.pointer (some ⟨9,161,none⟩)],.iface 238 (.agg #[.pointer (some ⟨9,161,none⟩)])]).run Tryz.prog w=.ok (.bool true) w:=by kernel_rfl
theorem as_eo (w:World):(Rtype.elem? 172).run Tryz.prog w=.ok (some 161) w:=by kernel_rfl
theorem zXl (p:Addr) (w:World):(ReflectliteValue.mk 161 p ReflectliteValue.flagAddr).run Tryz.prog w=.ok (.agg #[.pointer (some ⟨9,161,none⟩),.pointer (some p),.int .u64 409]) w:=by kernel_rfl
theorem as_ev (a p:Addr) (W:World) (ha:W.cell? a=some (.pointer (some p))):(ReflectliteValue.method (ReflectliteValue.valueError "reflectlite.Value.Elem" 0) ReflectliteValue.elem #[.agg #[.pointer (some ⟨9,172,none⟩),.pointer (some a),.int .u64 150]]).run Tryz.prog W=.ok (.agg #[.pointer (some ⟨9,161,none⟩),.pointer (some p),.int .u64 409]) W:=by
 rw [zVl]
 simp only [Sem.run_bind,as_pp,Result.andThen]
 simp [ReflectliteValue.elem,loadVar,isAgg,underlying,Tryz.underlying172,ha,Result.andThen,as_eo,zXl]
theorem zXp (v x:Value):ReflectliteValue.set #[v,x]=(do
 let (some (dst,a,fl),some (src,b,_)):=(←ReflectliteValue.parts v,←ReflectliteValue.parts x)
  | unsupported (.noEntry "extern/(internal/reflectlite.Value).Set.zeroValue")
 if fl / ReflectliteValue.flagAddr % 2 == 0 then unsupported (.noEntry "extern/(internal/reflectlite.Value).Set.unaddressable")
 let val ←loadVar src b
 if ←Rtype.directlyAssignable dst src then storeVar dst a val
 else if ←Rtype.implements dst src then
  if (←Rtype.kind src) == 20 then
   match val with
   | .nilIface=>unsupported (.noEntry "extern/reflectlite: a nil value of one interface type handed on as a value of another")
   | _=>storeVar dst a val
  else storeVar dst a (.iface src val)
 else panicString ("reflectlite.Set: value of type "++(←Rtype.spelt src) ++ " is not assignable to type "++(←Rtype.spelt dst))
 pure (.tuple #[])):=rfl
theorem zXn (a:Addr) (w:World):(ReflectliteValue.parts (.agg #[.pointer (some ⟨9,161,none⟩),.pointer (some a),.int .u64 409])).run Tryz.prog w=.ok (some (161,a,409)) w:=by kernel_rfl
theorem zXo (a:Addr) (w:World):(ReflectliteValue.parts (.agg #[.pointer (some ⟨9,161,none⟩),.pointer (some a),.int .u64 153])).run Tryz.prog w=.ok (some (161,a,153)) w:=by kernel_rfl
theorem as_dr (w:World):(Rtype.directlyAssignable 161 161).run Tryz.prog w=.ok true w:=by kernel_rfl
theorem as_sz (w:World):(sizeOf 161).run Tryz.prog w=.ok 1 w:=by kernel_rfl
theorem as_ag (w:World):(isAgg 161).run Tryz.prog w=.ok true w:=by kernel_rfl
theorem zXq (t b:Addr) (n:Int) (old:Value) (W:World) (hb:W.cell? b=some (.int .i64 n)) (ht:W.cell? t=some old) (hf:W.frozen? t=false) :
 (ReflectliteValue.set #[.agg #[.pointer (some ⟨9,161,none⟩),.pointer (some t),.int .u64 409],.agg #[.pointer (some ⟨9,161,none⟩),.pointer (some b),.int .u64 153]]).run Tryz.prog W=.ok (.tuple #[]) (W.setCell t (.int .i64 n)):=by
 rw [zXp]
 simp only [Sem.run_bind,zXn,zXo,Result.andThen]
 simp [ReflectliteValue.flagAddr,loadVar,as_ag,as_sz,loadCells,loadCellsFrom,Addr.add,hb,Result.andThen,as_dr,storeVar,Value.cells,storeCells]
 rw [run_store Tryz.prog W t _ _ (by rfl)]
 simp [ht,hf]
set_option maxHeartbeats 4000000 in
theorem zXk (n:Int) (t:Addr) (old:Value) (w:World) (hg:w.cell? ⟨0,0,none⟩=some (.iface 238 (.agg #[.pointer (some ⟨9,116,none⟩)]))) (ht0:w.cell? t=some old) (hf0:w.frozen? t=false) :
 Calls Tryz.prog 126 #[.iface 161 (.agg #[.int .i64 n]),.iface 172 (.pointer (some t))] w fun ev w'=>ev=.returned (.bool true)∧w'=((((w.alloc (.cells #[.pointer (some t)] 172)).alloc (.cells #[.pointer (some ⟨9,172,none⟩),.pointer (some ⟨w.heap.size,0,none⟩),.int .u64 150] 206)).alloc (.cells #[.pointer (some ⟨9,172,none⟩),.pointer (some ⟨w.heap.size,0,none⟩),.int .u64 150] 206)).alloc (.cells #[.int .i64 n] 161)).setCell t (.int .i64 n):=by
 have h6:=@run_callFunc_extern Tryz.prog 171 _ (fun args=>ReflectliteValue.unpack (args.getD 0 (.tuple #[]))) Tryz.func171 (by kernel_rfl) (by kernel_rfl) (by kernel_rfl) (by kernel_rfl)
 have h7:=@run_callFunc_extern Tryz.prog 172 _ (ReflectliteValue.methodAny (ReflectliteValue.valueError "reflectlite.Value.Type" 0) (fun t _ _ _=>ReflectliteType.toType t)) Tryz.func172 (by kernel_rfl) (by kernel_rfl) (by kernel_rfl) (by kernel_rfl)
 have h8:=@run_callFunc_extern Tryz.prog 173 _ (ReflectliteValue.method (ReflectliteValue.valueError "reflectlite.Value.IsNil" 0) ReflectliteValue.isNil) Tryz.func173 (by kernel_rfl) (by kernel_rfl) (by kernel_rfl) (by kernel_rfl)
 have h27:=@run_callFunc_extern Tryz.prog 260 _ (ReflectliteType.abiMethod fun t=>do pure (.int .u8 (←Rtype.kind t))) Tryz.func260 (by kernel_rfl) (by kernel_rfl) (by kernel_rfl) (by kernel_rfl)
 have h37:=@run_callFunc_extern Tryz.prog 273 _ (ReflectliteType.method ReflectliteType.elem) Tryz.func273 (by kernel_rfl) (by kernel_rfl) (by kernel_rfl) (by kernel_rfl)
 have h38:=@run_callFunc_extern Tryz.prog 274 _ (ReflectliteType.relation "Implements" ReflectliteType.implements_) Tryz.func274 (by kernel_rfl) (by kernel_rfl) (by kernel_rfl) (by kernel_rfl)
 have h10:=@run_callFunc_extern Tryz.prog 206 _ ReflectliteType.typeOf Tryz.func206 (by kernel_rfl) (by kernel_rfl) (by kernel_rfl) (by kernel_rfl)
 have h35:=@run_callFunc_extern Tryz.prog 271 _ (ReflectliteType.relation "AssignableTo" ReflectliteType.assignableTo) Tryz.func271 (by kernel_rfl) (by kernel_rfl) (by kernel_rfl) (by kernel_rfl)
 have h11:=@run_callFunc_extern Tryz.prog 207 _ (ReflectliteValue.method (ReflectliteValue.valueError "reflectlite.Value.Elem" 0) ReflectliteValue.elem) Tryz.func207 (by kernel_rfl) (by kernel_rfl) (by kernel_rfl) (by kernel_rfl)
 have h12:=@run_callFunc_extern Tryz.prog 208 _ ReflectliteValue.set Tryz.func208 (by kernel_rfl) (by kernel_rfl) (by kernel_rfl) (by kernel_rfl)
 have tO:=as_to
 have mA:=as_ma
 have aR:=as_ar
 have vR:=as_vr
 have f6:=as_vp
 have f7:=zXr
 have mK:=as_mk
 have mE:=as_me
 have mI:=as_mi
 have kP:=as_kp
 have kR:=as_kr
 have eP:=as_ep
 have iR:=as_ir
 have n8:=zTB ⟨w.heap.size,0,none⟩ t ((w.alloc (.cells #[.pointer (some t)] 172)).alloc (.cells #[.pointer (some ⟨9,172,none⟩),.pointer (some ⟨w.heap.size,0,none⟩),.int .u64 150] 206)) (by simp)
 have hlt:0<w.heap.size:=by
  rcases Nat.lt_or_ge 0 w.heap.size with h|h
  ·exact h
  ·simp [World.cell?,Array.getElem?_eq_none h] at hg
 have hg2:((w.alloc (.cells #[.pointer (some t)] 172)).alloc (.cells #[.pointer (some ⟨9,172,none⟩),.pointer (some ⟨w.heap.size,0,none⟩),.int .u64 150] 206)).cell? ⟨0,0,none⟩=some (.iface 238 (.agg #[.pointer (some ⟨9,116,none⟩)])):=by
  rw [World.cell?_alloc_lt _ _ ⟨0,0,none⟩ (by simp),World.cell?_alloc_lt _ _ ⟨0,0,none⟩ hlt]; exact hg
 have htl:t.block<w.heap.size:=by
  rcases Nat.lt_or_ge t.block w.heap.size with h|h
  ·exact h
  ·simp [World.cell?,Array.getElem?_eq_none h] at ht0
 have el:=as_ev ⟨w.heap.size,0,none⟩ t (((w.alloc (.cells #[.pointer (some t)] 172)).alloc (.cells #[.pointer (some ⟨9,172,none⟩),.pointer (some ⟨w.heap.size,0,none⟩),.int .u64 150] 206)).alloc (.cells #[.pointer (some ⟨9,172,none⟩),.pointer (some ⟨w.heap.size,0,none⟩),.int .u64 150] 206)) (by rw [World.cell?_alloc_lt _ _ ⟨w.heap.size,0,none⟩ (by simp; omega)]; simp)
 have st:=zXq t ⟨w.heap.size+1+1+1,0,none⟩ n old ((((w.alloc (.cells #[.pointer (some t)] 172)).alloc (.cells #[.pointer (some ⟨9,172,none⟩),.pointer (some ⟨w.heap.size,0,none⟩),.int .u64 150] 206)).alloc (.cells #[.pointer (some ⟨9,172,none⟩),.pointer (some ⟨w.heap.size,0,none⟩),.int .u64 150] 206)).alloc (.cells #[.int .i64 n] 161))
  (by rw [World.cell?_alloc_at _ _ _ _ (by simp)]; rfl)
  (by rw [World.cell?_alloc_lt _ _ t (by simp; omega),World.cell?_alloc_lt _ _ t (by simp; omega),World.cell?_alloc_lt _ _ t (by simp; omega),World.cell?_alloc_lt _ _ t htl]; exact ht0)
  (by rw [World.frozen?_alloc_old _ _ t (by simp; omega),World.frozen?_alloc_old _ _ t (by simp; omega),World.frozen?_alloc_old _ _ t (by simp; omega),World.frozen?_alloc_old _ _ t (Nat.ne_of_lt htl)]; exact hf0)
 go_enter Tryz.func126,Tryz.ntmps126
 go_wp2
 refine wp_loop_rounds 1 ?_
 rw [rounds_succ]
 go_wp2
 go_ret
 exact ⟨rfl,rfl⟩
end Go.Proofs.YtlgkplnifaoeeaaGreatDoor
namespace Go.Proofs.YtlgkplnifaoeeaaGreatDoor
open Go.RowKit Go.VS
set_option maxRecDepth 20000
theorem et_rt:(Tryz.prog.cutTypes.find? (·.1 == "internal/reflectlite.rtype")).map (·.2)=some 238:=by kernel_rfl
theorem zXG:((List.range 318).filter fun t=>Tryz.prog.rowNamed t [101,114,114,111,114])=[116]:=by kernel_rfl
theorem zV7:Tryz.prog.types.size=318:=by kernel_rfl
theorem et_g : Tryz.prog.globalNamed "errors.errorType"=some 0:=by kernel_rfl
theorem zV6 {w:World} (h:Gd Tryz.prog w):w.cell? ⟨0,0,none⟩=some (.iface 238 (.agg #[.pointer (some ⟨9,116,none⟩)])):=by
 obtain ⟨u,ty,e2,e3,e4,e5⟩:=h.typ _ et_g
 obtain rfl:=Option.some.inj (et_rt.symm.trans e2)
 have hm:ty∈(List.range 318).filter fun t=>Tryz.prog.rowNamed t [101,114,114,111,114]:=List.mem_filter.2 ⟨List.mem_range.2 (by rw [←zV7]; exact e3),e4⟩
 rw [zXG] at hm
 obtain rfl:=List.mem_singleton.1 hm
 have hh:typeHandle Tryz.prog 116=.pointer (some ⟨9,116,none⟩):=by kernel_rfl
 rw [hh] at e5
 simpa using World.var?_cell et_g e5 0
theorem zVL (n:Int) (t:Addr) (old:Value) (w:World) (hgd:Gd Tryz.prog w) (ht0:w.cell? t=some old) (hf0:w.frozen? t=false) :
 Calls Tryz.prog 126 #[.iface 161 (.agg #[.int .i64 n]),.iface 172 (.pointer (some t))] w fun ev w'=>ev=.returned (.bool true)∧w'.cell? t=some (.int .i64 n)∧Keep (fun k=>k=t.block) w w':=by
 refine (zXk n t old w (zV6 hgd) ht0 hf0).mono ?_
 rintro e w' ⟨rfl,rfl⟩
 have htl:t.block<w.heap.size:=by
  rcases Nat.lt_or_ge t.block w.heap.size with h|h
  ·exact h
  ·simp [World.cell?,Array.getElem?_eq_none h] at ht0
 refine ⟨rfl,World.cell?_setCell_same _ t _ (u:=old) ?_,?_⟩
 ·rw [World.cell?_alloc_lt _ _ t (by simp; omega),World.cell?_alloc_lt _ _ t (by simp; omega),World.cell?_alloc_lt _ _ t (by simp; omega),World.cell?_alloc_lt _ _ t htl]; exact ht0
 ·have k4:Keep (fun k=>k=t.block) w ((((w.alloc (.cells #[.pointer (some t)] 172)).alloc (.cells #[.pointer (some ⟨9,172,none⟩),.pointer (some ⟨w.heap.size,0,none⟩),.int .u64 150] 206)).alloc (.cells #[.pointer (some ⟨9,172,none⟩),.pointer (some ⟨w.heap.size,0,none⟩),.int .u64 150] 206)).alloc (.cells #[.int .i64 n] 161)) :=
   ⟨rfl,rfl,rfl,by simp; omega,fun k hk _=>by
    rw [Below.heap_alloc _ _ k (by simp; omega),Below.heap_alloc _ _ k (by simp; omega),Below.heap_alloc _ _ k (by simp; omega),Below.heap_alloc _ _ k hk]⟩
  refine k4.step (M:=fun k=>k=t.block) ⟨rfl,rfl,rfl,?_,fun k hk hne=>?_⟩ (fun b hb _=>hb)
  ·simp [World.setCell]
  ·exact Below.heap_setCell _ _ _ k hne
set_option maxHeartbeats 2000000 in
theorem zPJ (n:Int) (w:World) (hg:Gd Tryz.prog w):Calls Tryz.prog 78 #[errV 161 n] w fun e w'=>e=.returned (.int .i64 n)∧Keep (fun _=>False) w w':=by
 have hkA:Keep (fun _=>False) w (w.alloc (.cells #[.int .i64 0] 161)):=⟨rfl,rfl,rfl,by simp,fun k hk _=>Below.heap_alloc w _ k hk⟩
 by_cases hn:n=0
 ·subst hn
  rw [show errV 161 0=.nilIface from rfl]
  go_enter Tryz.func78,Tryz.ntmps78
  go_wp2_with (go_at_call 126; refine (zXm _ _).mono ?_; rintro e w' ⟨rfl,rfl⟩)
  go_ret
  exact ⟨rfl,hkA⟩
 ·rw [show errV 161 n=.iface 161 (.agg #[.int .i64 n]) from if_neg hn]
  have hgA:=hg.later hkA
  have hnew:=heap_alloc_new w (.cells #[.int .i64 0] 161)
  have c0:(w.alloc (.cells #[.int .i64 0] 161)).cell? ⟨w.heap.size,0,none⟩=some (.int .i64 0):=by simp only [World.cell?,hnew]; rfl
  have z0:(w.alloc (.cells #[.int .i64 0] 161)).frozen? ⟨w.heap.size,0,none⟩=false:=by simp only [World.frozen?,hnew]; rfl
  have hcall:=zVL n ⟨w.heap.size,0,none⟩ _ _ hgA c0 z0
  clear hnew c0 z0 hgA
  go_enter Tryz.func78,Tryz.ntmps78
  go_wp2_with (go_at_call 126; refine hcall.mono ?_; rintro e w' ⟨rfl,hc,hk⟩)
  go_ret
  exact ⟨rfl,hkA.step hk (fun b hb hlt=>by have:b=w.heap.size:=hb; omega)⟩
@[push_cast] def zKF:Con:=⟨[.dat (.err 161)],fun _=>True,fun (x:Int×Unit)=>{res:=[.val .int x.1]}⟩
theorem zRt:FnSpec Tryz.prog 78 zKF:=by
 refine zBS ⟨_,Tryz.func78,by kernel_rfl,rfl⟩ (fun _=>rfl) (fun _=>rfl) fun C γ x vs hpre hen=>?_
 have hg:=hen.ds.2.gd
 rw [hen.P] at hg
 have hargs:=hen.args
 obtain ⟨(n:Int),_⟩:=x
 obtain ⟨v0,_,rfl,h0,rfl⟩:=hargs
 obtain rfl:v0=errV 161 n:=zNT h0
 refine (zPJ n C.w0 hg).mono ?_
 rintro e w' ⟨rfl,hk⟩
 exact ⟨[_],rfl,⟨_,[],rfl,⟨[.int .i64 n],rfl,rfl⟩,rfl,rfl,rfl⟩,hk⟩
end Go.Proofs.YtlgkplnifaoeeaaGreatDoor
