import Derived.Test.YtekfodeknpnkbaaGreatDoorT10
import Derived.Laws.CopyOwn
set_option linter.unusedSimpArgs false
set_option linter.unusedVariables false
namespace Go.VS
open Go.RowKit
section
variable {C:Ctx} {Q:Exit→AS→Prop} {E:Know} {ops:Array Oper}
def unGam (γ:Gam) (b:Nat):Gam:=⟨γ.hs,γ.rs,γ.bx,fun k=>if k=γ.bx b then none else γ.own k⟩
theorem zOZ {s:AS} {γ:Gam} {a:Act} {w:World} {i b:Nat} {sh:Sh} {x:sh.T} (h:Rel C γ s a w) (hi:s.env i=.one (.box b)) (hb:s.boxes b=some (.one (.val sh x))):Rel C (unGam γ b) (unbox s i b sh x) a w:=by
 obtain ⟨cs,t,h1,h2,h3,h4,h5⟩:=h.boxes b _ hb
 have hown:∀ k l,γ.own k=some l→l≠.bx b→(unGam γ b).own k=some l:=fun k l hk hl=>by
  simp only [unGam]
  rw [if_neg]
  ·exact hk
  ·intro e
   rw [e,h4] at hk
   simp only [Option.some.injEq] at hk
   exact hl hk.symm
 have hsub:Sub C γ w (unGam γ b) w:=⟨Nat.le_refl _,fun k _ hz=>⟨⟨hz.1,by simp only [unGam]; split; rfl; exact hz.2⟩,rfl⟩,fun k d _ hk=>⟨hown k _ hk (by simp),rfl⟩⟩
 have hag:∀ v:BV,Agree γ (unGam γ b) v:=fun v=>by cases v<;>simp [Agree,unGam,Gam.hd,Gam.rows]
 have hrow:∀ v l,l≠Loc.bx b→ownB C γ v l→ownB C (unGam γ b) v l:=fun v l hl ho k hk=>⟨hown k l (ho k hk).1 hl,(ho k hk).2⟩
 refine ⟨h.defers,h.keep,fun k l hk=>?_,h.lent,fun k=>?_,fun r rc hr=>?_,fun q sv hq=>?_⟩
 ·simp only [unGam] at hk
  split at hk
  ·cases hk
  ·exact h.ownlt k l hk
 ·simp only [unbox,upd]
  split
  ·rename_i e
   subst e
   have hv:=h.env k
   rw [hi] at hv
   obtain ⟨v,⟨c0,hp,hv2⟩,hcs⟩:=h2
   have e2:=zA7 sh x c0 hp
   refine ⟨γ.bx b,0,c0,hv,⟨.inr h5,by simp [unGam]⟩,(Array.getElem?_eq_some_iff.1 h1).1,zAx hsub.size hsub.zn sh x c0 hp,fun j c hj=>?_⟩
   rw [hv2,e2] at hcs
   have e3:cs.toList[j]?=some c:=by rw [hcs]; exact hj
   have e4:cs[j]?=some c:=by rw [←Array.getElem?_toList]; exact e3
   simp only [World.cell?,h1,Nat.zero_add]
   exact e4
  ·exact zEy hsub (fun v _=>hag v) (h.env k)
 ·have hr':=h.roots r rc hr
  cases rc with
  | flat e s2 xs=>exact ⟨hr'.1,hr'.2.1,hrow _ _ (by simp) hr'.2.2⟩
  | deep e e2 s2 xss=>exact ⟨hr'.1,hr'.2.1,hrow _ _ (by simp) hr'.2.2.1,fun k xs hk=>⟨(hr'.2.2.2 k xs hk).1,hrow _ _ (by simp) (hr'.2.2.2 k xs hk).2⟩⟩
  | hole e e2 s2 xss k0=>exact ⟨hr'.1,hr'.2.1,hrow _ _ (by simp) hr'.2.2.1,fun k xs hk0 hk=>⟨(hr'.2.2.2 k xs hk0 hk).1,hrow _ _ (by simp) (hr'.2.2.2 k xs hk0 hk).2⟩⟩
  | rags e s2 xss =>
   obtain ⟨vs,k1,k2,k3⟩:=hr'
   exact ⟨vs,k1,hrow _ _ (by simp) k2,zAF hsub _ _ (fun v _=>hag v) k3⟩
 ·simp only [unbox,upd] at hq
  split at hq
  ·cases hq
  ·rename_i hne
   obtain ⟨cs2,t2,g1,g2,g3,g4,g5⟩:=h.boxes q sv hq
   refine ⟨cs2,t2,g1,?_,g3,hown _ _ g4 (by simp only [ne_eq,Loc.bx.injEq]; exact hne),g5⟩
   cases sv with
   | one v=>obtain ⟨u,k1,k2⟩:=g2; exact ⟨u,zCd hsub (hag v) k1,k2⟩
   | rcd bs=>exact zAF hsub bs _ (fun v _=>hag v) g2
   | tup bs=>exact g2.elim
theorem zOB {N:Nat} {s:AS} {c:Code} (i b:Nat) {sh:Sh} {x:sh.T} (hi:s.env i=.one (.box b)) (hb:s.boxes b=some (.one (.val sh x))) (h:tri C N c Q (unbox s i b sh x)):tri C N c Q s :=
 ⟨fun _ a w hr hN=>h.run _ a w (zOZ hr hi hb) hN⟩
end
end Go.VS
