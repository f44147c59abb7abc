import Derived.Test.YtekfodeknpnkbaaGreatDoorT27
import Derived.Test.YtekfodeknpnkbaaGreatDoorT32
set_option linter.unusedSimpArgs false
set_option linter.unusedVariables false
namespace Go.Proofs.YtekfodeknpnkbaaGreatDoor
open Go.RowKit Go.VS
@[push_cast] def zXN:Con:=⟨[.dat (.sl (.sl .int))],fun (x:List (List Int)×Unit)=>Small x.1,fun (x:List (List Int)×Unit)=>{res:=[.own (.deep 38 3 .int x.1)]}⟩
theorem zRE:FnSpec Tryz.prog 95 zXN:=by
 refine FnSpec.of_tri' (E:=know [] [] [] [12]) (zAl all_nil all_nil all_nil) Tryz.func95 rfl rfl (by kernel_rfl) ?_
 intro C x hE hnl hfit hpre
 simp only [Tryz.ntmps95,Tryz.results95,maxLen,seval,push_cast] at hnl hfit hpre ⊢
 obtain ⟨(p:List (List Int)),_⟩:=x
 dsimp only at hfit hpre ⊢
 have hl:=hpre.1
 repeat' (first|(refine goK (by assumption) ?_; iterate 4 (try clear hK K))|(refine zAb fun K hK=>?_)|(refine zAa hE rfl ?_; simp +contextual only [hnl,↓kA,push_cast,seval,reduceCtorEq,cI])|refine zAd ?_|fail)
 refine zAk (fun i:Nat=>AS.of [(0,.one (.val (.sl (.sl .int)) p)),(3,.one (.ref 19)),(4,.I i)] [(19,.deep 38 3 .int (tbl i fun r=>p.getD r []))] []) (fun i=>i≤p.length) (fun i=>p.length - i) 0 (Nat.zero_le _) ?_ ?_
 ·refine zAf ?_ ?_ ?_<;>simp only [push_cast,seval,reduceCtorEq,cI]
  exact ⟨by omega,zIg _⟩
 intro i hi K' hL
 replace hnl:=And.intro hnl (zAZ i fun r=>p.getD r [])
 have hrow:=@Small.row p hpre i
 repeat' (first|(refine goK (by assumption) ?_; iterate 4 (try clear hK K))|(refine zAb fun K hK=>?_)|((first|refine zAa hE rfl ?_|refine zAi ?_); simp +contextual only [hnl,↓kA,push_cast,seval,reduceCtorEq,cI])|refine zAd ?_|((first|refine zAg ?_|refine zAj ?_); simp only [thenQ,zAh,if_true,if_false,Nat.reduceEqDiff,reduceCtorEq])|(refine zAe (by rfl) (fun hb=>?_) (fun hb=>?_)<;>(try simp only [bq,reduceCtorEq] at hb)<;>(try omega))|refine andS ?_|fail)
 ·have hrow:=hrow (by omega)
  repeat' (first|(refine goK (by assumption) ?_; iterate 4 (try clear hK K))|(refine zAb fun K hK=>?_)|((first|refine zAa hE rfl ?_|refine zAi ?_); simp +contextual only [hnl,↓kA,push_cast,seval,reduceCtorEq,cI])|refine zAd ?_|((first|refine zAg ?_|refine zAj ?_); simp only [thenQ,zAh,if_true,if_false,Nat.reduceEqDiff,reduceCtorEq])|(refine zAe (by rfl) (fun hb=>?_) (fun hb=>?_)<;>(try simp only [bq,reduceCtorEq] at hb)<;>(try omega))|refine zAr (by rfl) ?_ ?_|refine andS ?_|(refine ⟨fun hc=>?_,fun hc=>?_⟩)|(intro hc; try omega))
  refine hL _ (i+1) (by omega) (by omega) ?_
  refine zAf ?_ ?_ ?_<;>simp only [push_cast,seval,reduceCtorEq,cI]
  left
  rw [zD9]
 ·obtain rfl:i=p.length:=by omega
  rw [←zLg p []]
end Go.Proofs.YtekfodeknpnkbaaGreatDoor
namespace Go.Proofs.YtekfodeknpnkbaaGreatDoor
open Go.RowKit Go.VS
theorem zKI (s:ByteArray):0<(zBx s).length:=by
 unfold zBx
 rw [zH2 (.inl rfl),List.length_append]
 simp
@[push_cast] def zW3:Con:=⟨[.dat .str],fun (x:ByteArray×Unit)=>x.1.size≤100000,fun (x:ByteArray×Unit)=>{res:=[.val (.sl .str) (zBx x.1)]}⟩
theorem zSb:FnSpec Tryz.prog 106 zW3:=by
 refine FnSpec.of_tri' (E:=know [] [] [] []) (zAl all_nil all_nil all_nil) Tryz.func106 rfl rfl (by kernel_rfl) ?_
 intro C x hE hnl hfit hpre
 simp only [Tryz.ntmps106,Tryz.results106,maxLen,seval,push_cast] at hnl hfit hpre ⊢
 obtain ⟨(s:ByteArray),_⟩:=x
 dsimp only at hfit hpre ⊢
 repeat' (first|(refine goK (by assumption) ?_; iterate 4 (try clear hK K))|(refine zAb fun K hK=>?_)|(refine zAa hE rfl ?_; simp +contextual only [hnl,↓kA,push_cast,seval,reduceCtorEq])|refine zAd ?_|fail)
 refine zAk (fun k:Nat=>AS.of [(0,.one (.val .str s)),(3,.one (.ref 28)),(4,.I (wK s k).2),(5,.I k)] [(28,.flat 9 .str (wK s k).1)] []) (fun k=>k≤s.size+1) (fun k=>s.size+1 - k) 0 (Nat.zero_le _) ?_ ?_
 ·refine zAf ?_ ?_ ?_<;>simp only [push_cast,seval,reduceCtorEq]
  ·rfl
  ·first|omega|exact ⟨by omega,rfl⟩
 intro k hk K' hL
 have hle:=wK_le s k
 rcases Nat.lt_or_ge s.size k with hks|hks
 ·obtain rfl:k=s.size+1:=by omega
  repeat' (first|(refine goK (by assumption) ?_; iterate 4 (try clear hK K))|(refine zAb fun K hK=>?_)|((first|refine zAa hE rfl ?_|refine zAi ?_); simp +contextual only [hnl,↓kA,push_cast,seval,reduceCtorEq])|(refine zAj ?_; simp only [thenQ,zAh,if_true,if_false,Nat.reduceEqDiff,reduceCtorEq])|(refine zAe (by rfl) (fun hb=>?_) (fun hb=>?_)<;>(try simp only [bq,reduceCtorEq] at hb)<;>(try omega))|fail)
  rfl
 ·by_cases h1:k=s.size
  ·subst h1
   have hw:=zH2 (s:=s) (k:=s.size) (.inl rfl)
   repeat' (first|(refine goK (by assumption) ?_; iterate 4 (try clear hK K))|(refine zAb fun K hK=>?_)|(refine zAa hE rfl ?_; simp +contextual only [hnl,↓kA,push_cast,seval,reduceCtorEq])|refine zAd ?_|(refine zAg ?_; simp only [thenQ,zAh,if_true,if_false,Nat.reduceEqDiff,reduceCtorEq])|(refine zAe (by rfl) (fun hb=>?_) (fun hb=>?_)<;>(try simp only [bq,reduceCtorEq] at hb)<;>(try omega))|fail)
   refine ⟨⟨Int.natCast_nonneg _,Int.ofNat_le.2 hle.1,Int.ofNat_le.2 hks⟩,rfl,by omega,?_⟩
   repeat' (first|(refine goK (by assumption) ?_; iterate 4 (try clear hK K))|(refine zAa hE rfl ?_; simp +contextual only [hnl,↓kA,push_cast,seval,reduceCtorEq])|refine andS ?_|fail)
   refine hL _ (s.size+1) (by omega) (by omega) ?_
   refine zAf ?_ ?_ ?_<;>simp only [push_cast,seval,reduceCtorEq]
   ·rw [hw]; rfl
   ·exact .inl (by rw [hw])
  ·by_cases h2:byteV s k=32
   ·have hw:=zH2 (s:=s) (k:=k) (.inr h2)
    replace hnl:=And.intro hnl (show decide ((s.data.toList.getD k 0).toNat=32)=true from decide_eq_true h2)
    repeat' (first|(refine goK (by assumption) ?_; iterate 4 (try clear hK K))|(refine zAb fun K hK=>?_)|(refine zAa hE rfl ?_; simp +contextual only [hnl,↓kA,push_cast,seval,reduceCtorEq])|refine zAd ?_|(refine zAg ?_; simp only [thenQ,zAh,if_true,if_false,Nat.reduceEqDiff,reduceCtorEq])|(refine zAe (by rfl) (fun hb=>?_) (fun hb=>?_)<;>(try simp only [bq,reduceCtorEq] at hb)<;>(try omega))|refine andS ?_|(refine ⟨fun hc=>?_,fun hc=>?_⟩)|fail)
    refine ⟨⟨Int.natCast_nonneg _,Int.ofNat_le.2 hle.1,Int.ofNat_le.2 hks⟩,rfl,by omega,?_⟩
    repeat' (first|(refine goK (by assumption) ?_; iterate 4 (try clear hK K))|(refine zAa hE rfl ?_; simp +contextual only [hnl,↓kA,push_cast,seval,reduceCtorEq])|refine andS ?_|fail)
    refine hL _ (k+1) (by omega) (by omega) ?_
    refine zAf ?_ ?_ ?_<;>simp only [push_cast,seval,reduceCtorEq]
    ·rw [hw]; rfl
    ·exact .inl (by rw [hw])
   ·have hw:=zJo (s:=s) (k:=k) (fun h=>h.elim h1 h2)
    replace hnl:=And.intro hnl (show decide ((s.data.toList.getD k 0).toNat=32)=false from decide_eq_false h2)
    repeat' (first|(refine goK (by assumption) ?_; iterate 4 (try clear hK K))|(refine zAb fun K hK=>?_)|(refine zAa hE rfl ?_; simp +contextual only [hnl,↓kA,push_cast,seval,reduceCtorEq])|refine zAd ?_|(refine zAg ?_; simp only [thenQ,zAh,if_true,if_false,Nat.reduceEqDiff,reduceCtorEq])|(refine zAe (by rfl) (fun hb=>?_) (fun hb=>?_)<;>(try simp only [bq,reduceCtorEq] at hb)<;>(try omega))|refine andS ?_|(refine ⟨fun hc=>?_,fun hc=>?_⟩)|fail)
    refine hL _ (k+1) (by omega) (by omega) ?_
    refine zAf ?_ ?_ ?_<;>simp only [push_cast,seval,reduceCtorEq]
    ·rw [hw]
    ·exact .inl (by rw [hw])
@[push_cast] def zYs:Con:=⟨[.dat .str,.dat .int],fun _=>True,fun (x:ByteArray×Int×Unit)=>{res:=[.val .int (numRV x.1),.val .bool (zBl x.1 && decide (numRV x.1≤x.2.1))]}⟩
theorem zIV {s:ByteArray} (h:zBl s=false):numRV s=0:=by rw [numRV,h]; rfl
theorem zOo {s:ByteArray} (h:¬(1≤s.size∧s.size≤6∧¬(1<s.size∧byteV s 0=48))):zBl s=false:=by rw [zBl,decide_eq_false h]; rfl
theorem zD1 {s:ByteArray} {k:Nat} (hk:k<s.size) (h:¬(48≤byteV s k∧byteV s k≤57)):zBl s=false:=by
 rw [zBl,Bool.and_eq_false_iff]
 right
 rw [Bool.eq_false_iff]
 exact fun h2=>h (zCT.1 h2 k hk)
theorem zKe {s:ByteArray} (h:1≤s.size∧s.size≤6∧¬(1<s.size∧byteV s 0=48)) (h2:∀ k,k<s.size→48≤byteV s k∧byteV s k≤57):zBl s=true:=by
 rw [zBl,decide_eq_true h,Bool.true_and]
 exact zCT.2 h2
theorem zE9 {s:ByteArray} (h6:s.size≤6) {k:Nat} (hk:k≤6) (h:∀ i,i<k→48≤byteV s i∧byteV s i≤57):0≤decK s k∧decK s k≤999999:=by
 obtain ⟨h1,h2⟩:=zG7 h6 h
 have:(10:Int) ^ k≤10 ^ 6:=by
  rcases k with _|_|_|_|_|_|_|k<;>first|decide|omega
 have e:(10:Int) ^ 6=1000000:=rfl
 omega
theorem zMC:FnSpec Tryz.prog 108 zYs:=by
 refine FnSpec.of_tri' (E:=know [] [] [] []) (zAl all_nil all_nil all_nil) Tryz.func108 rfl rfl (by kernel_rfl) ?_
 intro C x hE hnl hfit hpre
 simp only [Tryz.ntmps108,Tryz.results108,maxLen,seval,push_cast] at hnl hfit hpre ⊢
 obtain ⟨(s:ByteArray),(most:Int),_⟩:=x
 dsimp only at hfit hpre ⊢
 by_cases hd:1≤s.size∧s.size≤6∧¬(1<s.size∧byteV s 0=48)
 rotate_left
 ·have e1:=zOo hd
  have e2:=zIV e1
  by_cases h0:byteV s 0=48
  ·replace hnl:=And.intro hnl (And.intro e1 (And.intro e2 (show decide ((s.data.toList.getD 0 0).toNat=48)=true from decide_eq_true h0)))
   exact auC
  ·replace hnl:=And.intro hnl (And.intro e1 (And.intro e2 (show decide ((s.data.toList.getD 0 0).toNat=48)=false from decide_eq_false h0)))
   exact auC
 obtain ⟨d1,d2,d3⟩:=hd
 by_cases h0:1<s.size
 ·have h00:¬byteV s 0=48:=fun h=>d3 ⟨h0,h⟩
  replace hnl:=And.intro hnl (show decide ((s.data.toList.getD 0 0).toNat=48)=false from decide_eq_false h00)
  repeat' (first|(refine goK (by assumption) ?_; iterate 4 (try clear hK K))|(refine zAb fun K hK=>?_)|(refine zAa hE rfl ?_; simp +contextual only [hnl,↓kA,push_cast,seval,reduceCtorEq])|refine zAd ?_|(refine zAg ?_; simp only [thenQ,zAh,if_true,if_false,Nat.reduceEqDiff,reduceCtorEq])|(refine zAe (by rfl) (fun hb=>?_) (fun hb=>?_)<;>(try simp only [bq,reduceCtorEq] at hb)<;>(try omega))|refine andS ?_|(refine ⟨fun hc=>?_,fun hc=>?_⟩)|fail)
  all_goals try omega
  refine zAk (fun k:Nat=>AS.of [(0,.one (.val .str s)),(1,.one (.val .int most)),(6,.I (decK s k)),(7,.I k)] [] []) (fun k=>k≤s.size∧∀ i,i<k→48≤byteV s i∧byteV s i≤57) (fun k=>s.size - k) 0 ⟨Nat.zero_le _,by omega⟩ ?_ ?_
  ·refine zAf ?_ ?_ ?_<;>simp only [push_cast,seval,reduceCtorEq]
   all_goals first|rfl|exact ⟨rfl,rfl⟩
  intro k ⟨hk,hall⟩ K' hL
  have hb:=zE9 d2 (k:=k) (by omega) hall
  rcases Nat.lt_or_ge k s.size with hks|hks
  ·by_cases h1:48≤byteV s k
   ·by_cases h2:byteV s k≤57
    ·have hb2:=zE9 d2 (k:=k+1) (by omega) (fun i hi=>by rcases Nat.lt_or_ge i k with h3|h3; exact hall i h3; (obtain rfl:i=k:=by omega); exact ⟨h1,h2⟩)
     have he:decK s (k+1)=10*decK s k+((byteV s k:Int) - 48):=rfl
     have h1':48≤(s.data.toList.getD k 0).toNat:=h1
     have h2':(s.data.toList.getD k 0).toNat≤57:=h2
     replace hnl:=And.intro hnl (And.intro (show decide ((s.data.toList.getD k 0).toNat<48)=false from decide_eq_false (by omega)) (show decide (57<(s.data.toList.getD k 0).toNat)=false from decide_eq_false (by omega)))
     repeat' (first|(refine goK (by assumption) ?_; iterate 4 (try clear hK K))|(refine zAb fun K hK=>?_)|(refine zAa hE rfl ?_; simp +contextual only [hnl,↓kA,push_cast,seval,reduceCtorEq])|refine zAd ?_|(refine zAg ?_; simp only [thenQ,zAh,if_true,if_false,Nat.reduceEqDiff,reduceCtorEq])|(refine zAe (by rfl) (fun hb=>?_) (fun hb=>?_)<;>(try simp only [bq,reduceCtorEq] at hb)<;>(try omega))|refine andS ?_|fail)
     refine hL _ (k+1) ⟨by omega,fun i hi=>?_⟩ (by omega) ?_
     ·rcases Nat.lt_or_ge i k with h3|h3
      ·exact hall i h3
      ·obtain rfl:i=k:=by omega
       exact ⟨h1,h2⟩
     refine zAf ?_ ?_ ?_<;>simp only [push_cast,seval,reduceCtorEq]
     show 10*decK s k+((((s.data.toList.getD k 0).toNat:Int) - 48) % 256).toNat=10*decK s k+(((s.data.toList.getD k 0).toNat:Int) - 48)
     omega
    ·have e1:=zD1 hks (fun h=>h2 h.2)
     have e2:=zIV e1
     have h2':¬(s.data.toList.getD k 0).toNat≤57:=h2
     replace hnl:=And.intro hnl (And.intro e1 (And.intro e2 (And.intro (show decide ((s.data.toList.getD k 0).toNat<48)=false from decide_eq_false (by omega)) (show decide (57<(s.data.toList.getD k 0).toNat)=true from decide_eq_true (by omega)))))
     exact auC
   ·have e1:=zD1 hks (fun h=>h1 h.1)
    have e2:=zIV e1
    have h1':¬48≤(s.data.toList.getD k 0).toNat:=h1
    replace hnl:=And.intro hnl (And.intro e1 (And.intro e2 (show decide ((s.data.toList.getD k 0).toNat<48)=true from decide_eq_true (by omega))))
    exact auC
  ·obtain rfl:k=s.size:=by omega
   have e1:=zKe ⟨d1,d2,d3⟩ hall
   have e2:numRV s=decK s s.size:=by rw [numRV,if_pos e1]
   replace hnl:=And.intro hnl (And.intro e1 e2)
   exact auC
 ·repeat' (first|(refine goK (by assumption) ?_; iterate 4 (try clear hK K))|(refine zAb fun K hK=>?_)|(refine zAa hE rfl ?_; simp +contextual only [hnl,↓kA,push_cast,seval,reduceCtorEq])|refine zAd ?_|(refine zAg ?_; simp only [thenQ,zAh,if_true,if_false,Nat.reduceEqDiff,reduceCtorEq])|(refine zAe (by rfl) (fun hb=>?_) (fun hb=>?_)<;>(try simp only [bq,reduceCtorEq] at hb)<;>(try omega))|refine andS ?_|(refine ⟨fun hc=>?_,fun hc=>?_⟩)|(intro hc; try omega))
  all_goals try omega
  refine zAk (fun k:Nat=>AS.of [(0,.one (.val .str s)),(1,.one (.val .int most)),(6,.I (decK s k)),(7,.I k)] [] []) (fun k=>k≤s.size∧∀ i,i<k→48≤byteV s i∧byteV s i≤57) (fun k=>s.size - k) 0 ⟨Nat.zero_le _,by omega⟩ ?_ ?_
  ·refine zAf ?_ ?_ ?_<;>simp only [push_cast,seval,reduceCtorEq]
   all_goals first|rfl|exact ⟨rfl,rfl⟩
  intro k ⟨hk,hall⟩ K' hL
  have hb:=zE9 d2 (k:=k) (by omega) hall
  rcases Nat.lt_or_ge k s.size with hks|hks
  ·by_cases h1:48≤byteV s k
   ·by_cases h2:byteV s k≤57
    ·have hb2:=zE9 d2 (k:=k+1) (by omega) (fun i hi=>by rcases Nat.lt_or_ge i k with h3|h3; exact hall i h3; (obtain rfl:i=k:=by omega); exact ⟨h1,h2⟩)
     have he:decK s (k+1)=10*decK s k+((byteV s k:Int) - 48):=rfl
     have h1':48≤(s.data.toList.getD k 0).toNat:=h1
     have h2':(s.data.toList.getD k 0).toNat≤57:=h2
     replace hnl:=And.intro hnl (And.intro (show decide ((s.data.toList.getD k 0).toNat<48)=false from decide_eq_false (by omega)) (show decide (57<(s.data.toList.getD k 0).toNat)=false from decide_eq_false (by omega)))
     repeat' (first|(refine goK (by assumption) ?_; iterate 4 (try clear hK K))|(refine zAb fun K hK=>?_)|(refine zAa hE rfl ?_; simp +contextual only [hnl,↓kA,push_cast,seval,reduceCtorEq])|refine zAd ?_|(refine zAg ?_; simp only [thenQ,zAh,if_true,if_false,Nat.reduceEqDiff,reduceCtorEq])|(refine zAe (by rfl) (fun hb=>?_) (fun hb=>?_)<;>(try simp only [bq,reduceCtorEq] at hb)<;>(try omega))|refine andS ?_|fail)
     refine hL _ (k+1) ⟨by omega,fun i hi=>?_⟩ (by omega) ?_
     ·rcases Nat.lt_or_ge i k with h3|h3
      ·exact hall i h3
      ·obtain rfl:i=k:=by omega
       exact ⟨h1,h2⟩
     refine zAf ?_ ?_ ?_<;>simp only [push_cast,seval,reduceCtorEq]
     show 10*decK s k+((((s.data.toList.getD k 0).toNat:Int) - 48) % 256).toNat=10*decK s k+(((s.data.toList.getD k 0).toNat:Int) - 48)
     omega
    ·have e1:=zD1 hks (fun h=>h2 h.2)
     have e2:=zIV e1
     have h2':¬(s.data.toList.getD k 0).toNat≤57:=h2
     replace hnl:=And.intro hnl (And.intro e1 (And.intro e2 (And.intro (show decide ((s.data.toList.getD k 0).toNat<48)=false from decide_eq_false (by omega)) (show decide (57<(s.data.toList.getD k 0).toNat)=true from decide_eq_true (by omega)))))
     exact auC
   ·have e1:=zD1 hks (fun h=>h1 h.1)
    have e2:=zIV e1
    have h1':¬48≤(s.data.toList.getD k 0).toNat:=h1
    replace hnl:=And.intro hnl (And.intro e1 (And.intro e2 (show decide ((s.data.toList.getD k 0).toNat<48)=true from decide_eq_true (by omega))))
    exact auC
  ·obtain rfl:k=s.size:=by omega
   have e1:=zKe ⟨d1,d2,d3⟩ hall
   have e2:numRV s=decK s s.size:=by rw [numRV,if_pos e1]
   replace hnl:=And.intro hnl (And.intro e1 e2)
   exact auC
end Go.Proofs.YtekfodeknpnkbaaGreatDoor
namespace Go.Proofs.YtekfodeknpnkbaaGreatDoor
open Go.RowKit Go.VS Go.OT
theorem zGO:FnSpec Tryz.prog 122 zEC:=by
 refine FnSpec.of_tri' (E:=know [] [] [] []) (zAl all_nil all_nil all_nil) Tryz.func122 rfl rfl (by kernel_rfl) ?_
 intro C x hE hnl hfit hpre
 simp only [Tryz.ntmps122,Tryz.results122,maxLen,seval,push_cast] at hnl hfit hpre ⊢
 obtain ⟨(n:Int),(lo:Int),(hi:Int),_⟩:=x
 dsimp only at hfit hpre ⊢
 repeat' (first|(refine goK (by assumption) ?_; iterate 4 (try clear hK K))|(refine zAb fun K hK=>?_)|((first|refine zAa hE rfl ?_|refine zAi ?_); simp +contextual only [hnl,↓kA,push_cast,seval,reduceCtorEq,cI])|(refine ⟨fun hc=>?_,fun hc=>?_⟩)|fail)
 all_goals first|omega|(simp only [decide_eq_decide]; omega)|(simp only [hc,decide_true,decide_false,Bool.true_or,Bool.false_or]; done)|(simp; done)|(simp; omega)|(simp [*]; done)|(simp [*]; omega)
theorem zGN:FnSpec Tryz.prog 77 zNt:=by
 refine FnSpec.of_tri' (E:=know _ [] [] []) (zAl (kc zVA (kc zGO all_nil)) all_nil all_nil) Tryz.func77 rfl rfl (by kernel_rfl) ?_
 intro C x hE hnl hfit hpre
 simp only [Tryz.ntmps77,Tryz.results77,maxLen,seval,push_cast] at hnl hfit hpre ⊢
 obtain ⟨(a:List Int),(b:List Int),(c:List (List Int)),(w:Int),_⟩:=x
 dsimp only at hfit hpre ⊢
 by_cases h:zDl a b c=0
 ·have e1:errWd a b c w=errW w:=if_pos h
  by_cases h2:0≤w∧w≤99
  ·have e2:errW w=0:=if_pos h2
   replace hnl:=And.intro hnl (And.intro h (And.intro e1 (And.intro e2 (And.intro (eq_true h2.1) (eq_true h2.2)))))
   exact auB
  ·have e2:errW w=1:=if_neg h2
   replace hnl:=And.intro hnl (And.intro h (And.intro e1 (And.intro e2 (eq_false h2))))
   exact auB
 ·have e1:errWd a b c w=zDl a b c:=if_neg h
  replace hnl:=And.intro hnl (And.intro (eq_false h) e1)
  exact auB
end Go.Proofs.YtekfodeknpnkbaaGreatDoor
namespace Go.Proofs.YtekfodeknpnkbaaGreatDoor
open Go.RowKit Go.VS Go.OT Go.LC
theorem zTb {a b:List Int} {c:List (List Int)} (h:MQ a b c):Fit c (zEv a b c):=⟨_,_,⟨by have:=h.a5; omega,by have:=h.b5; omega⟩,h.hc,(zQb h).1.tab⟩
@[push_cast] def zWC:Con:=⟨[.dat (.sl .int),.dat (.sl .int),.dat (.sl (.sl .int))],fun (x:zKL)=>MQ x.1 x.2.1 x.2.2.1,fun (x:zKL)=>{res:=[.val .int (spend x.2.2.1 (zEv x.1 x.2.1 x.2.2.1))]}⟩
theorem zRD:FnSpec Tryz.prog 156 zWC:=by
 refine FnSpec.of_tri' (E:=know _ [] [] []) (zAl (kc zWO (kc zKp all_nil)) all_nil all_nil) Tryz.func156 rfl rfl (by kernel_rfl) ?_
 intro C x hE hnl hfit hpre
 simp only [Tryz.ntmps156,Tryz.results156,maxLen,seval,push_cast] at hnl hfit hpre ⊢
 obtain ⟨(a:List Int),(b:List Int),(c:List (List Int)),_⟩:=x
 dsimp only at hfit hpre ⊢
 have h1:=zTb hpre
 exact auA
section
variable {a b:List Int} {c:List (List Int)}
end
end Go.Proofs.YtekfodeknpnkbaaGreatDoor
namespace Go.Proofs.YtekfodeknpnkbaaGreatDoor
open Go.RowKit Go.VS Go.OT
abbrev zSj:=List Int×List Int×List (List Int)×Int×Int×Int×Unit
@[push_cast] def zZz:Con:=⟨[.dat (.sl .int),.dat (.sl .int),.dat (.sl (.sl .int)),.dat .int,.dat .int,.dat .int],fun (x:zSj)=>DumP x.1 x.2.1 x.2.2.1 x.2.2.2.1,
 fun (x:zSj)=>{res:=[.own (.flat 3 .int (dumA x.1 x.2.1 x.2.2.2.1)),.own (.flat 3 .int (dumA x.2.1 x.1 x.2.2.2.1)),.own (.deep 38 3 .int (dumC x.2.2.1 x.2.2.2.2.1 x.2.2.2.2.2.1))]}⟩
theorem zVt:FnSpec Tryz.prog 157 zZz:=by
 refine FnSpec.of_tri' (E:=know _ [] [] [21,30,46]) (zAl (kc zER all_nil) all_nil all_nil) Tryz.func157 rfl rfl (by kernel_rfl) ?_
 intro C x hE hnl hfit hpre
 simp only [Tryz.ntmps157,Tryz.results157,maxLen,seval,push_cast] at hnl hfit hpre ⊢
 obtain ⟨(a:List Int),(b:List Int),(c:List (List Int)),(m:Int),(d:Int),(e:Int),_⟩:=x
 dsimp only at hfit hpre ⊢
 obtain ⟨hf,hm0,hm1,hm2⟩:=hpre
 obtain ⟨s1,s2,s3,s4⟩:=MC.sums hf
 have ha5:=hf.mc.a5
 have hb5:=hf.mc.b5
 have hr:=hf.rows
 have hw:=hf.cols
 replace hnl:=And.intro hnl (And.intro (fun m=>eq_true (s1 m)) (fun m=>eq_true (s2 m)))
 repeat' (first|(refine goK (by assumption) ?_; iterate 4 (try clear hK K))|(refine zAb fun K hK=>?_)|(refine zAa hE rfl ?_; simp +contextual only [hnl,↓kA,push_cast,seval,reduceCtorEq,cI])|refine zAd ?_|refine andS ?_|fail)
 refine zAk (fun k:Nat=>AS.of [(1,.one (.val (.sl .int) b)),(2,.one (.val (.sl (.sl .int)) c)),(4,.I d),(5,.I e),(15,.one (.ref 21)),(16,.one (.ref 30)),(17,.one (.ref 56)),(18,.one .nils),(19,.I k)] [(21,.flat 3 .int (dumA a b m)),(30,.flat 3 .int (dumA b a m)),(56,.deep 38 3 .int ((c.take k).map fun r=>r++[d]))] []) (fun k=>k≤c.length) (fun k=>c.length - k) 0 (Nat.zero_le _) ?_ ?_
 ·refine zAf ?_ ?_ ?_<;>simp only [push_cast,seval,reduceCtorEq,cI]
  exact ⟨.inl rfl,.inl rfl,by omega⟩
 intro k hk K' hL
 rcases Nat.lt_or_ge k c.length with hkc|hkc
 ·have hrow:(c.getD k []).length=wid c:=hf.hc.len hkc
  have hml:(List.map (fun r=>r++[d]) (List.take k c)).length≤6:=by rw [List.length_map,List.length_take]; omega
  have hms:List.map (fun r=>r++[d]) (List.take k c)++[c.getD k []++[d]]=List.map (fun r=>r++[d]) (List.take (k+1) c):=by
   rw [List.take_succ_eq_append_getElem hkc,List.map_append]
   simp [List.getD_eq_getElem?_getD,hkc]
  have hrl:List.length (c.getD k [])≤1000000:=by rw [hrow]; omega
  have hml2:(List.map (fun r=>r++[d]) (List.take k c)).length≤1000000:=by omega
  replace hnl:=And.intro hnl (And.intro hrl hml2)
  repeat' (first|(refine goK (by assumption) ?_; iterate 4 (try clear hK K))|(refine zAb fun K hK=>?_)|(refine zAa hE rfl ?_; simp +contextual only [hnl,↓kA,push_cast,seval,reduceCtorEq,cI])|refine zAd ?_|(refine zAg ?_; simp only [thenQ,zAh,if_true,if_false,Nat.reduceEqDiff,reduceCtorEq])|(refine zAe (by rfl) (fun hb=>?_) (fun hb=>?_)<;>(try simp only [bq,reduceCtorEq] at hb)<;>(try omega))|refine andS ?_|fail)
  rw [hms]
  refine hL _ (k+1) (by omega) (by omega) ?_
  refine zAf ?_ ?_ ?_<;>simp only [push_cast,seval,reduceCtorEq,cI]
  all_goals exact .inl rfl
 ·obtain rfl:k=c.length:=by omega
  repeat' (first|(refine goK (by assumption) ?_; iterate 4 (try clear hK K))|(refine zAb fun K hK=>?_)|(refine zAa hE rfl ?_; simp +contextual only [hnl,↓kA,push_cast,seval,reduceCtorEq,cI])|refine zAd ?_|(refine zAj ?_; simp only [thenQ,zAh,if_true,if_false,Nat.reduceEqDiff,reduceCtorEq])|(refine zAe (by rfl) (fun hb=>?_) (fun hb=>?_)<;>(try simp only [bq,reduceCtorEq] at hb)<;>(try omega))|fail)
  refine zAk (fun k:Nat=>AS.of [(1,.one (.val (.sl .int) b)),(4,.I d),(5,.I e),(15,.one (.ref 21)),(16,.one (.ref 30)),(17,.one (.ref 56)),(18,.one (.ref 66)),(20,.I k)] [(21,.flat 3 .int (dumA a b m)),(30,.flat 3 .int (dumA b a m)),(56,.deep 38 3 .int (c.map fun r=>r++[d])),(66,.flat 3 .int (List.replicate k d))] []) (fun k=>k≤b.length) (fun k=>b.length - k) 0 (Nat.zero_le _) ?_ ?_
  ·refine zAf ?_ ?_ ?_<;>simp only [push_cast,seval,reduceCtorEq,cI]
   first|exact ⟨.inl (by rw [List.take_length]),by omega⟩|exact ⟨.inl (by rw [List.take_length]),by omega,rfl⟩
  intro k hk2 K2 hL2
  have hl1:(List.replicate k d).length≤1000000:=by rw [List.length_replicate]; omega
  have hl2:(List.map (fun r=>r++[d]) c).length≤1000000:=by rw [List.length_map]; omega
  have hl3:List.replicate k d++[d]=List.replicate (k+1) d:=List.replicate_succ'.symm
  replace hnl:=And.intro hnl (And.intro hl1 hl2)
  repeat' (first|(refine goK (by assumption) ?_; iterate 4 (try clear hK K))|(refine zAb fun K hK=>?_)|((first|refine zAa hE rfl ?_|refine zAi ?_); simp +contextual only [hnl,↓kA,push_cast,seval,reduceCtorEq,cI])|refine zAd ?_|((first|refine zAg ?_|refine zAj ?_); simp only [thenQ,zAh,if_true,if_false,Nat.reduceEqDiff,reduceCtorEq])|(refine zAe (by rfl) (fun hb=>?_) (fun hb=>?_)<;>(try simp only [bq,reduceCtorEq] at hb)<;>(try omega))|refine andS ?_|fail)
  ·rw [hl3]
   refine hL2 _ (k+1) (by omega) (by omega) ?_
   refine zAf ?_ ?_ ?_<;>simp only [push_cast,seval,reduceCtorEq,cI]
   all_goals exact .inl rfl
  ·obtain rfl:k=b.length:=by omega
   simp only [dumC,hw]
end Go.Proofs.YtekfodeknpnkbaaGreatDoor
namespace Go.Proofs.YtekfodeknpnkbaaGreatDoor
open Go.RowKit Go.VS Go.OT Go.LC
section
variable {a b:List Int} {c:List (List Int)} {m d e:Int}
theorem zVs (h:DumP a b c m) (hd:0≤d∧d≤99) (he:0≤e∧e≤1000000) :
 (∃ Q,IsPlan (a.length+1) (b.length+1) (withD a.length (ga a) (sumL b - m)) (withD b.length (ga b) (sumL a - m)) Q∧cst (a.length+1) (b.length+1) (costD a.length b.length (gt c) d e) Q=spend (dumC c d e) (zEv (dumA a b m) (dumA b a m) (dumC c d e))) ∧
 ∀ Q,IsPlan (a.length+1) (b.length+1) (withD a.length (ga a) (sumL b - m)) (withD b.length (ga b) (sumL a - m)) Q→spend (dumC c d e) (zEv (dumA a b m) (dumA b a m) (dumC c d e))≤cst (a.length+1) (b.length+1) (costD a.length b.length (gt c) d e) Q:=by
 have hq:=zPv h hd he
 obtain ⟨g1,g2,g3⟩:=zQb hq
 have hpl:=g1.plan
 have hr:=h.f.rows
 have hw:=h.f.cols
 rw [zB2,zB2] at hpl g2 g3
 have hsz:=g1.tab.sz
 rw [zB2,zB2] at hsz
 have eC:∀ Q,cst (a.length+1) (b.length+1) (costD a.length b.length (gt c) d e) Q=cst (a.length+1) (b.length+1) (gt (dumC c d e)) Q:=fun Q=>by
  unfold cst
  refine zAm _ fun i hi=>zAm _ fun j hj=>?_
  rw [zK0 h.f.hc (by omega) (by omega),hr,hw]
 refine ⟨⟨gt (zEv (dumA a b m) (dumA b a m) (dumC c d e)),⟨hpl.nn,fun i hi=>(hpl.row i hi).trans (zGd hi),fun j hj=>(hpl.col j hj).trans (zGd hj)⟩,?_⟩,fun Q hQ=>?_⟩
 ·rw [eC,zGW hsz]
 ·rw [eC,zGW hsz]
  exact hpl.least g2 g3 ⟨hQ.nn,fun i hi=>(hQ.row i hi).trans (zGd hi).symm,fun j hj=>(hQ.col j hj).trans (zGd hj).symm⟩
end
end Go.Proofs.YtekfodeknpnkbaaGreatDoor
namespace Go.Proofs.YtekfodeknpnkbaaGreatDoor
open Go.RowKit Go.VS Go.OT Go.LC
theorem zTt {a b:List Int} {c:List (List Int)} {w:Int} (hf:ForOK a b c) (hw:0≤w∧w≤99):DumP a b c 0∧spend (dumC c w 0) (zEv (dumA a b 0) (dumA b a 0) (dumC c w 0))=zBa a b c w:=by
 have hd:DumP a b c 0:=⟨hf,by omega,by have:=MC.sums hf; omega⟩
 obtain ⟨h1,h2⟩:=zVs hd hw (e:=0) (by omega)
 exact ⟨hd,zJM hf.mc w h1 h2⟩
theorem zMT:FnSpec Tryz.prog 110 zMv:=by
 refine FnSpec.of_tri' (E:=know _ [] [] []) (zAl (kc zVt (kc zRD all_nil)) all_nil all_nil) Tryz.func110 rfl rfl (by kernel_rfl) ?_
 intro C x hE hnl hfit hpre
 simp only [Tryz.ntmps110,Tryz.results110,maxLen,seval,push_cast] at hnl hfit hpre ⊢
 obtain ⟨(a:List Int),(b:List Int),(c:List (List Int)),(w:Int),_⟩:=x
 dsimp only at hfit hpre ⊢
 obtain ⟨hf,hw⟩:=hpre
 obtain ⟨h1,h2⟩:=zTt hf hw
 have h3:=zPv h1 hw (e:=0) (by omega)
 replace hnl:=And.intro hnl (And.intro h1 (And.intro h2 h3))
 exact auB
theorem zMS:FnSpec Tryz.prog 60 zMo:=by
 refine FnSpec.of_tri' (E:=know _ [] [] []) (zAl (kc zGN (kc zMT all_nil)) all_nil all_nil) Tryz.func60 rfl rfl (by kernel_rfl) ?_
 intro C x hE hnl hfit hpre
 simp only [Tryz.ntmps60,Tryz.results60,maxLen,seval,push_cast] at hnl hfit hpre ⊢
 obtain ⟨(a:List Int),(b:List Int),(c:List (List Int)),(w:Int),_⟩:=x
 dsimp only at hfit hpre ⊢
 by_cases he:errWd a b c w=0
 ·have h1:=zBE he
  have h3:zA9 a b c w=zBa a b c w:=if_pos he
  replace hnl:=And.intro hnl (And.intro he (And.intro h3 (And.intro h1.1 h1.2)))
  exact auB
 ·have h3:zA9 a b c w=0:=if_neg he
  replace hnl:=And.intro hnl (And.intro h3 (eq_false he))
  exact auB
end Go.Proofs.YtekfodeknpnkbaaGreatDoor
