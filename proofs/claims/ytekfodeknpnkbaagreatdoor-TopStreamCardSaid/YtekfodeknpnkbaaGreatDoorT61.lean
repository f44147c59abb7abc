import Derived.Test.YtekfodeknpnkbaaGreatDoorT30
import Derived.Test.YtekfodeknpnkbaaGreatDoorT38
import Derived.Test.YtekfodeknpnkbaaGreatDoorT43
import Derived.Test.YtekfodeknpnkbaaGreatDoorT47
import Derived.Test.YtekfodeknpnkbaaGreatDoorT55
set_option linter.unusedSimpArgs false
set_option linter.unusedVariables false
namespace Go.Proofs.YtekfodeknpnkbaaGreatDoor
open Go.RowKit Go.VS Go.OT
theorem getD_set {a:List Int} {i k:Nat} {x:Int} (hk:k<a.length):(a.set i x).getD k 0=if i=k then x else a.getD k 0:=by
 rw [List.getD_eq_getElem?_getD,List.getElem?_set]
 split
 ·rw [if_pos (by omega)]; rfl
 ·rw [←List.getD_eq_getElem?_getD]
theorem zNZ {a u:List Int} {i:Nat} {y:Int} (hi:i<a.length):∀ n,n≤a.length→dotK (a.set i (a.getD i 0+y)) u n=dotK a u n+if i<n then y*u.getD i 0 else 0
 | 0,_=>by simp [dotK]
 | n+1,hn=>by
  have ih:=zNZ (a:=a) (u:=u) (y:=y) hi n (by omega)
  simp only [dotK]
  rw [ih,getD_set (by omega)]
  by_cases h:i=n
  ·subst h
   rw [if_pos rfl,if_neg (Nat.lt_irrefl _),if_pos (Nat.lt_succ_self _),Int.add_mul]
   omega
  ·rw [if_neg h]
   by_cases h2:i<n
   ·rw [if_pos h2,if_pos (by omega)]; omega
   ·rw [if_neg h2,if_neg (by omega)]; omega
theorem zLh:∀ {a:List Int} {i:Nat} {y:Int},i<a.length→lsum (a.set i (a.getD i 0+y))=lsum a+y
 | [],i,y,h=>by simp at h
 | x::a,0,y,_=>by
  show x+y+lsum a=x+lsum a+y
  omega
 | x::a,i+1,y,h=>by
  show x+lsum (a.set i (a.getD i 0+y))=x+lsum a+y
  rw [zLh (by simpa using h)]
  omega
section
variable {a b:List Int} {c:List (List Int)} {w:Int}
theorem lp_in (h:errWd a b c w=0):(∀ i,i<a.length → -99≤(lpR a b c w).1.getD i 0∧(lpR a b c w).1.getD i 0≤w)∧∀ j,j<b.length → -99≤(lpR a b c w).2.getD j 0∧(lpR a b c w).2.getD j 0≤w:=by
 obtain ⟨hf,hw⟩:=zBE h
 have ho:=lp_ok hf hw
 have hp:=(zH9 hf hw).1
 have hlow:LowP w (lpR a b c w):=by
  unfold zA8 at hp
  split at hp
  ·split at hp
   ·split at hp
    ·assumption
    ·omega
   ·rename_i q; exact absurd hp q
  ·omega
 have lR:(lpR a b c w).1.length=a.length:=zAZ _ _
 have lC:(lpR a b c w).2.length=b.length:=zAZ _ _
 refine ⟨fun i hi=>⟨?_,hlow _ (List.mem_append_left _ (zAJ 0 (by omega)))⟩,fun j hj=>⟨?_,hlow _ (List.mem_append_right _ (zAJ 0 (by omega)))⟩⟩
 ·have e:(lpR a b c w).1.getD i 0=(lpS a b c w).r.getD i 0+(lpS a b c w).k.getD b.length 0:=zBu _ _ hi
  have:=ho.b1 i (by omega)
  have:=ho.b2 b.length (by omega)
  omega
 ·have e:(lpR a b c w).2.getD j 0=(lpS a b c w).k.getD j 0+(lpS a b c w).r.getD a.length 0:=zBu _ _ hj
  have:=ho.b2 j (by omega)
  have:=ho.b1 a.length (by omega)
  omega
theorem worth_le {p:zA3} (h:errWd a b c w=0) (hp:zA8 c w p=0):zDh a b p≤zBa a b c w:=by
 have e:errWL a b c w p=0:=by rw [errWL,if_pos h]; exact hp
 have:=zOk e
 rwa [show zU6 a b c w p=zDh a b p from if_pos e] at this
theorem yAu {i:Nat} {y:Int} (hi:i<a.length) (h:errWd a b c w=0) (h':errWd (a.set i (a.getD i 0+y)) b c w=0):∃ u:Int,-99≤u∧u≤w∧zBa (a.set i (a.getD i 0+y)) b c w≤zBa a b c w+y*u:=by
 obtain ⟨hf,hw⟩:=zBE h'
 obtain ⟨h1,h2⟩:=zH9 hf hw
 have hl:(a.set i (a.getD i 0+y)).length=a.length:=List.length_set ..
 have hin:=(lp_in h').1 i (by omega)
 have hle:=worth_le h h1
 refine ⟨_,hin.1,hin.2,?_⟩
 have e:zDh (a.set i (a.getD i 0+y)) b (lpR (a.set i (a.getD i 0+y)) b c w)=zDh a b (lpR (a.set i (a.getD i 0+y)) b c w)+y*(lpR (a.set i (a.getD i 0+y)) b c w).1.getD i 0:=by
  generalize lpR (a.set i (a.getD i 0+y)) b c w=p
  unfold zDh
  rw [hl,zNZ hi _ (Nat.le_refl _),if_pos hi]
  omega
 omega
theorem yAv {i:Nat} {y:Int} (hi:i<b.length) (h:errWd a b c w=0) (h':errWd a (b.set i (b.getD i 0+y)) c w=0):∃ u:Int,-99≤u∧u≤w∧zBa a (b.set i (b.getD i 0+y)) c w≤zBa a b c w+y*u:=by
 obtain ⟨hf,hw⟩:=zBE h'
 obtain ⟨h1,h2⟩:=zH9 hf hw
 have hl:(b.set i (b.getD i 0+y)).length=b.length:=List.length_set ..
 have hin:=(lp_in h').2 i (by omega)
 have hle:=worth_le h h1
 refine ⟨_,hin.1,hin.2,?_⟩
 have e:zDh a (b.set i (b.getD i 0+y)) (lpR a (b.set i (b.getD i 0+y)) c w)=zDh a b (lpR a (b.set i (b.getD i 0+y)) c w)+y*(lpR a (b.set i (b.getD i 0+y)) c w).2.getD i 0:=by
  generalize lpR a (b.set i (b.getD i 0+y)) c w=p
  unfold zDh
  rw [hl,zNZ hi _ (Nat.le_refl _),if_pos hi]
  omega
 omega
end
def allS (s:State):Int:=lsum s.2.1+lsum s.2.2.1
theorem zKl {y u w d:Int} (h1 : -99≤u) (h2:u≤w) (h0:0≤w) (hd:d≤y*u):¬d>max y (-y)*max w 0+99*max (-y) 0:=by
 have ew:max w 0=w:=by omega
 rw [ew]
 rcases Int.lt_or_le y 0 with hy|hy
 ·have e1:max y (-y) = -y:=by omega
  have e2:max (-y) 0 = -y:=by omega
  rw [e1,e2]
  have k1:(-y)*(-u)≤(-y)*99:=Int.mul_le_mul_of_nonneg_left (by omega) (by omega)
  have k2:0≤(-y)*w:=Int.mul_nonneg (by omega) h0
  rw [Int.neg_mul_neg] at k1
  omega
 ·have e1:max y (-y)=y:=by omega
  have e2:max (-y) 0=0:=by omega
  rw [e1,e2]
  have k1:y*u≤y*w:=Int.mul_le_mul_of_nonneg_left h2 hy
  omega
theorem zRq {h:HX} {L:List Line} (q:HL h L) {t:ByteArray} (e:doE h t=0):allS (hSt (doX h t)) - allS (hSt h)=0∨¬lst (hSt (doX h t)) - lst (hSt h)>max (allS (hSt (doX h t)) - allS (hSt h)) (-(allS (hSt (doX h t)) - allS (hSt h)))*max (hSt (doX h t)).2.2.2 0+99*max (-(allS (hSt (doX h t)) - allS (hSt h))) 0:=by
 have w1:=q.wok
 have w2:=(q.step e).wok
 obtain ⟨d1,d2,d3⟩:=doE_0 e
 have hdp:=zL6 d1 w1.st
 have es:hSt (doX h t)=(doV (hkind t) (hargs t) (hSt h)).2:=by rw [zKY e]; rfl
 have e1:=w1.wd
 have e2:=w2.wd
 have f1:lst (hSt h)=zBa (hSt h).2.1 (hSt h).2.2.1 (hSt h).1 (hSt h).2.2.2:=if_pos e1
 have f2:lst (hSt (doX h t))=zBa (hSt (doX h t)).2.1 (hSt (doX h t)).2.2.1 (hSt (doX h t)).1 (hSt (doX h t)).2.2.2:=if_pos e2
 rw [f1,f2]
 clear f1 f2
 rw [es] at e2 ⊢
 have hw0:=w1.w
 generalize hSt h=s at *
 obtain ⟨c,a,b,w⟩:=s
 have hk:=hdp.kind
 generalize hkind t=k at *
 generalize hargs t=l at *
 dsimp only at e1 hw0
 have key:∀ (x:List Int) (y:Int),chgE x (l.getD 0 0) (l.getD 1 0) y=0→0≤l.getD 0 0→(l.getD 0 0).toNat<x.length∧chgL x (l.getD 0 0) (l.getD 1 0) y=x.set (l.getD 0 0).toNat (x.getD (l.getD 0 0).toNat 0+y):=fun x y h h0=>by
  refine ⟨?_,if_pos h⟩
  unfold chgE at h
  split at h
  ·omega
  ·omega
 have hA:∀ y:Int,chgE a (l.getD 0 0) (l.getD 1 0) y=0→0≤l.getD 0 0→errWd (chgL a (l.getD 0 0) (l.getD 1 0) y) b c w=0 →
  ¬zBa (chgL a (l.getD 0 0) (l.getD 1 0) y) b c w - zBa a b c w>max (allS (c,chgL a (l.getD 0 0) (l.getD 1 0) y,b,w) - allS (c,a,b,w)) (-(allS (c,chgL a (l.getD 0 0) (l.getD 1 0) y,b,w) - allS (c,a,b,w)))*max w 0+99*max (-(allS (c,chgL a (l.getD 0 0) (l.getD 1 0) y,b,w) - allS (c,a,b,w))) 0:=fun y h0 hi hq=>by
  obtain ⟨k1,k2⟩:=key a y h0 hi
  rw [k2] at hq ⊢
  obtain ⟨u,u1,u2,u3⟩:=yAu k1 e1 hq
  have ea:allS (c,a.set (l.getD 0 0).toNat (a.getD (l.getD 0 0).toNat 0+y),b,w) - allS (c,a,b,w)=y:=by
   show lsum _+lsum b - (lsum a+lsum b)=y
   rw [zLh k1]; omega
  rw [ea]
  exact zKl u1 u2 hw0.1 (by omega)
 have hB:∀ y:Int,chgE b (l.getD 0 0) (l.getD 1 0) y=0→0≤l.getD 0 0→errWd a (chgL b (l.getD 0 0) (l.getD 1 0) y) c w=0 →
  ¬zBa a (chgL b (l.getD 0 0) (l.getD 1 0) y) c w - zBa a b c w>max (allS (c,a,chgL b (l.getD 0 0) (l.getD 1 0) y,w) - allS (c,a,b,w)) (-(allS (c,a,chgL b (l.getD 0 0) (l.getD 1 0) y,w) - allS (c,a,b,w)))*max w 0+99*max (-(allS (c,a,chgL b (l.getD 0 0) (l.getD 1 0) y,w) - allS (c,a,b,w))) 0:=fun y h0 hi hq=>by
  obtain ⟨k1,k2⟩:=key b y h0 hi
  rw [k2] at hq ⊢
  obtain ⟨u,u1,u2,u3⟩:=yAv k1 e1 hq
  have ea:allS (c,a,b.set (l.getD 0 0).toNat (b.getD (l.getD 0 0).toNat 0+y),w) - allS (c,a,b,w)=y:=by
   show lsum a+lsum _ - (lsum a+lsum b)=y
   rw [zLh k1]; omega
  rw [ea]
  exact zKl u1 u2 hw0.1 (by omega)
 have hl:=hdp.len
 have n0:=hdp.num 0 (by rw [hl]; (repeat' split)<;>omega)
 obtain rfl|rfl|rfl|rfl|rfl|rfl|rfl:k=0∨k=1∨k=2∨k=3∨k=4∨k=5∨k=6:=by omega
 ·exact .inr (hA _ d3 n0.1 e2)
 ·exact .inr (hA _ d3 n0.1 e2)
 ·exact .inr (hB _ d3 n0.1 e2)
 ·exact .inr (hB _ d3 n0.1 e2)
 ·left
  rw [doV4] at d3 ⊢
  repeat' split
  all_goals (unfold allS; dsimp only; omega)
 ·left
  rw [doV5] at d3 ⊢
  repeat' split
  all_goals (unfold allS; dsimp only; omega)
 ·left
  rw [doV6] at d3 ⊢
  repeat' split
  all_goals (unfold allS; dsimp only; omega)
end Go.Proofs.YtekfodeknpnkbaaGreatDoor
