import Derived.Test.YtekfodeknpnkbaaGreatDoorT3
set_option linter.unusedSimpArgs false
set_option linter.unusedVariables false
namespace Go.VS
open Go.RowKit
section
variable {C:Ctx} {γ:Gam} {s:AS} {a:Act} {w:World}
theorem zMU {sh:Sh} (f:Nat→Value):∀ (l:List (List sh.T)) (k:Nat),(∀ i xs,l[i]?=some xs→bvRep C γ w (.val (.sl sh) xs) (f (k+i))) →
 zAp C γ w (l.map fun x=>BV.val (.sl sh) x) ((List.range' k l.length).map f)
 | [],_,_=>rfl
 | x::l,k,h=>by
  refine ⟨f k,(List.range' (k+1) l.length).map f,by simp [List.range'_succ],h 0 x rfl,zMU f l (k+1) fun i xs hi=>?_⟩
  have:=h (i+1) xs (by simpa using hi)
  rwa [show k+(i+1)=k+1+i by omega] at this
def zFt (γ:Gam) (r:Nat):Gam:=⟨γ.hs,γ.rs,γ.bx,fun b=>match γ.own b with
 | some (.row p i)=>if p=r then none else some (.row p i)
 | o=>o⟩
theorem zYG {r:Nat} {e e2:TypeId} {sh:Sh} {xss:List (List sh.T)} (h:Rel C γ s a w) (hr:s.roots r=some (.deep e e2 sh xss)) :
 Rel C (zFt γ r) ((s.map (zBG r)).setRoot r (some (.rags e sh xss))) a w:=by
 have hown:∀ b l,(zFt γ r).own b=some l→γ.own b=some l:=by
  intro b l hb
  simp only [zFt] at hb
  split at hb
  ·rename_i p i e0
   split at hb
   ·cases hb
   ·rw [e0]; exact hb
  ·exact hb
 have hsub:Sub C γ w (zFt γ r) w:=⟨Nat.le_refl _,fun b _ hz=>⟨⟨hz.1,by simp only [zFt,hz.2]⟩,rfl⟩,fun b d _ ho=>⟨by simp only [zFt,ho],rfl⟩⟩
 have m:Move C γ w (zFt γ r) w (fun p=>p=r):=by
  refine ⟨hsub,h.keep,fun k l hk=>h.ownlt k l (hown k l hk),fun p hp=>(h.lent p hp).1,fun _ _=>rfl,fun _ _ _=>rfl,fun _=>rfl,fun b l hb hl=>⟨?_,rfl⟩⟩
  simp only [zFt,hb]
  cases l with
  | row p i =>
   have:p≠r:=fun e0=>hl p rfl e0
   simp [this]
  | _=>rfl
 have hK:Forgets (zBG r) γ (zFt γ r):=by
  intro b
  rcases zHd r b with h1|h1
  ·exact .inl h1
  ·exact .inr ⟨h1,by cases b<;>simp only [Agree]<;>first|trivial|rfl|exact fun _ _=>rfl⟩
 refine m.rel h hK (fun p rc hp=>?_)
 simp only [AS.map,AS.setRoot,upd] at hp
 split at hp
 ·rename_i e0
  subst e0
  simp only [Option.some.injEq] at hp
  subst hp
  right
  obtain ⟨hf,h1,h2,h3⟩:=h.roots p _ hr
  refine ⟨zAY γ p xss.length,h1,fun k hk=>⟨by simp only [zFt,(h2 k hk).1],(h2 k hk).2⟩,?_⟩
  rw [zAY,List.range_eq_range']
  refine zMU (γ.rows p) xss 0 (fun i xs hi=>?_)
  obtain ⟨k1,k2⟩:=h3 i xs hi
  rw [Nat.zero_add]
  exact ⟨[γ.rows p i],zBk hf k1 (fun g hg=>⟨.inr (k2 g hg).2,by simp only [zFt,(k2 g hg).1,if_true]⟩),rfl⟩
 ·rename_i e0
  exact .inl ⟨e0,hp⟩
theorem zYU {N:Nat} {Q:Exit→AS→Prop} {c:Code} {r:Nat} {e e2:TypeId} {sh:Sh} {xss:List (List sh.T)} (hr:s.roots r=some (.deep e e2 sh xss))
 (h:tri C N c Q ((s.map (zBG r)).setRoot r (some (.rags e sh xss)))):tri C N c Q s :=
 ⟨fun γ a w hrel hN=>h.run _ a w (zYG hrel hr) hN⟩
end
end Go.VS
