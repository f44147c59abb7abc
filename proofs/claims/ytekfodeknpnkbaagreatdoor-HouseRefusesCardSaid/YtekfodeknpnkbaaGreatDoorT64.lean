import Derived.Test.YtekfodeknpnkbaaGreatDoorT56
set_option linter.unusedSimpArgs false
set_option linter.unusedVariables false
namespace Go.Proofs.YtekfodeknpnkbaaGreatDoor
open Go.RowKit Go.VS
@[push_cast] def zOD:Con:=⟨[.dat (.sl (.sl .int)),.dat (.sl .str),.dat .str],fun _=>True,fun _=>{res:=[.val .bool true]}⟩
set_option maxHeartbeats 8000000 in
theorem zLv:FnSpec Tryz.prog 4 zOD:=by
 refine FnSpec.of_tri' (E:=know _ [] [] []) (zAl (kc zDg (kc zDB (kc zBU (kc zCQ (kc zCU (kc zIm (kc zC2 (kc zDK (kc zB7 (kc zEg (kc zGQ all_nil))))))))))) all_nil all_nil) Tryz.func4 rfl rfl (by kernel_rfl) ?_
 intro C x hE hnl hfit hpre
 simp only [Tryz.ntmps4,Tryz.results4,maxLen,seval,push_cast] at hnl hfit hpre ⊢
 obtain ⟨(q:List (List Int)),(l:List ByteArray),(t:ByteArray),_⟩:=x
 dsimp only at hfit hpre ⊢
 have hem:({data:=#[]}:ByteArray)=ByteArray.empty:=rfl
 by_cases hlg:zFm l=true
 ·replace hnl:=And.intro hnl hlg
  exact auA
 rw [Bool.not_eq_true] at hlg
 have hls:∀ t∈l,t.size≤100000:=fun t ht=>by have:=(zFM hlg).2 t ht; omega
 by_cases he:zAu q=0
 rotate_left
 ·replace hnl:=And.intro hnl (And.intro hlg (eq_false he))
  exact auA
 have hin:=zAR he
 have hbp:BothP q l:=⟨he,hls⟩
 have hr:=(HR.new hin).all (l.take 30)
 have hhi:=zGC (l.take 30) (Hist.new (c:=q))
 obtain ⟨⟨⟨⟩,⟨⟩,(f:List (List Int)),(c:List (List Int)),(a:List Int),(b:List Int),(w:Int),(ord:List ByteArray),(bk:ByteArray),⟨⟩⟩,hh⟩:∃ h2,doAll (newH q) (l.take 30)=h2:=⟨_,rfl⟩
 obtain ⟨⟨(rc:List (List Int)),(ra:List Int),(rb:List Int),(rw:Int),(rn:Int),(rl:List Line),⟨⟩⟩,hx⟩:∃ x2,zGP (newR q) (l.take 30)=x2:=⟨_,rfl⟩
 rw [hh,hx] at hr
 rw [hh] at hhi
 have h1:=hr.hl.inv
 obtain ⟨e,hde⟩:∃ e,doE ((),(),f,c,a,b,w,ord,bk,()) t=e:=⟨_,rfl⟩
 by_cases e0:e=0
 ·subst e0
  have hF:∃ M,Hist q (doX ((),(),f,c,a,b,w,ord,bk,()) t) M:=by
   obtain ⟨M,hM⟩:=hhi
   exact ⟨_,hM.step hde⟩
  obtain ⟨⟨⟨⟩,⟨⟩,(f2:List (List Int)),(c2:List (List Int)),(a2:List Int),(b2:List Int),(w2:Int),(ord2:List ByteArray),(bk2:ByteArray),⟨⟩⟩,hh2⟩:∃ h2,doX ((),(),f,c,a,b,w,ord,bk,()) t=h2:=⟨_,rfl⟩
  rw [hh2] at hF
  replace hnl:=And.intro hnl (And.intro hlg (And.intro he (And.intro (eq_true hbp) (And.intro hh (And.intro hx (And.intro (eq_true h1) (And.intro hde hh2)))))))
  obtain ⟨M,hM⟩:=hF
  have hl:=hM.hl hin
  have hrd:zAL 60 bk2 0=(M,ByteArray.empty):=hl.read
  have hla:=hM.last hin
  have h60:=hl.len.2
  have hS:hSt ((),(),f2,c2,a2,b2,w2,ord2,bk2,())=(c2,a2,b2,w2):=rfl
  have hB:hBk ((),(),f2,c2,a2,b2,w2,ord2,bk2,())=bk2:=rfl
  have hsz:=hl.inv.st.sz
  rw [hS] at hsz hla
  have hbs:bk2.size≤6000:=by have h6:=hl.inv.bk; have h7:=hl.inv.ord; rw [hB] at h6; omega
  have hlm:(M.map Prod.snd).length=M.length:=List.length_map ..
  obtain ⟨v,hv⟩:∃ v,lst (c2,a2,b2,w2)=v:=⟨_,rfl⟩
  rw [hv] at hla
  replace hnl:=And.intro hnl (And.intro hem (And.intro hrd (And.intro hS (And.intro hB (And.intro (eq_true hsz) (And.intro hlm hv))))))
  rcases hla with ⟨e1,e2⟩|⟨e1,e2⟩
  ·subst e1
   subst e2
   have e3:([]:List Line).length=0:=rfl
   replace hnl:=And.intro hnl e3
   exact auA
  ·have e3:(M.map Prod.snd).getD ((M.length:Int) - 1).toNat 0=v:=by rw [show ((M.length:Int) - 1).toNat=M.length - 1 by omega]; exact e2
   have e4:¬(M.length:Int)=0:=by omega
   have e5:0<(M.length:Int):=by omega
   replace hnl:=And.intro hnl (And.intro e3 (And.intro (eq_false e4) (eq_true e5)))
   exact auA
 ·have hh2:=zL5 (h:=((),(),f,c,a,b,w,ord,bk,())) (t:=t) (by rw [hde]; exact e0)
  have hF:=hhi
  replace hnl:=And.intro hnl (And.intro hlg (And.intro he (And.intro (eq_true hbp) (And.intro hh (And.intro hx (And.intro (eq_true h1) (And.intro hde (And.intro hh2 (And.intro (eq_false e0) (eq_true hr))))))))))
  obtain ⟨M,hM⟩:=hF
  have hl:=hM.hl hin
  have hrd:zAL 60 bk 0=(M,ByteArray.empty):=hl.read
  have hla:=hM.last hin
  have h60:=hl.len.2
  have hS:hSt ((),(),f,c,a,b,w,ord,bk,())=(c,a,b,w):=rfl
  have hB:hBk ((),(),f,c,a,b,w,ord,bk,())=bk:=rfl
  have hsz:=hl.inv.st.sz
  rw [hS] at hsz hla
  have hbs:bk.size≤6000:=by have h6:=hl.inv.bk; have h7:=hl.inv.ord; rw [hB] at h6; omega
  have hlm:(M.map Prod.snd).length=M.length:=List.length_map ..
  obtain ⟨v,hv⟩:∃ v,lst (c,a,b,w)=v:=⟨_,rfl⟩
  rw [hv] at hla
  replace hnl:=And.intro hnl (And.intro hem (And.intro hrd (And.intro hS (And.intro hB (And.intro (eq_true hsz) (And.intro hlm hv))))))
  rcases hla with ⟨e1,e2⟩|⟨e1,e2⟩
  ·subst e1
   subst e2
   have e3:([]:List Line).length=0:=rfl
   replace hnl:=And.intro hnl e3
   exact auA
  ·have e3:(M.map Prod.snd).getD ((M.length:Int) - 1).toNat 0=v:=by rw [show ((M.length:Int) - 1).toNat=M.length - 1 by omega]; exact e2
   have e4:¬(M.length:Int)=0:=by omega
   have e5:0<(M.length:Int):=by omega
   replace hnl:=And.intro hnl (And.intro e3 (And.intro (eq_false e4) (eq_true e5)))
   exact auA
end Go.Proofs.YtekfodeknpnkbaaGreatDoor
