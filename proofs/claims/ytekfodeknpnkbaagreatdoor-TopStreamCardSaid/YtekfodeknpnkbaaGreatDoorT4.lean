import Derived.Test.YtekfodeknpnkbaaGreatDoorT3
import Derived.Recover
import Derived.Laws.CopyOwn
import Derived.Deep.Slices
import Derived.ChangeArms
import Derived.OpenShut
import Derived.ChangeMaps5
set_option linter.unusedSimpArgs false
set_option linter.unusedVariables false
namespace Go.VS
open Go.RowKit
def moveB (ops:Array Oper) (i:Nat):Bool:=match ops[i]? with
 | some ⟨_,.move _,_,_,_,none⟩=>true
 | _=>false
def takeL (listed:Array Bool):List Nat→Array Bool
 | []=>listed
 | m::M=>takeL (listed.setIfInBounds m true) M
def takeB (ops:Array Oper) (n:Nat):List Nat→Array Bool→Bool
 | [],_=>true
 | m::M,listed=>decide (m<n) && moveB ops m && (Region.ready .any ops listed).contains m && Region.free .any ops listed m && takeB ops n M (listed.setIfInBounds m true)
def sinkM (ops:Array Oper) (n:Nat) (M:List Nat):Bool :=
 (List.range n).all fun i=>M.contains i || (List.range (n+1)).any fun j=>decide (i<j) && Region.waitsFor .any ops j i
def lexM (ops:Array Oper) (g:Nat) (M:List Nat):Nat→Nat→Array Bool→Bool
 | 0,_,listed=>Region.seqB .any ops g (ops.size - g) listed
 | f+1,k,listed=>if M.contains k then lexM ops g M f (k+1) listed else
  (Region.ready .any ops listed).contains k && Region.free .any ops listed k && lexM ops g M f (k+1) (listed.setIfInBounds k true)
def headM (M:List Nat):Nat→List Oper→List Oper
 | _,[]=>[]
 | k,o::l=>if M.contains k then headM M (k+1) l else o::headM M (k+1) l
def pickM (l:List Oper) (M:List Nat):List Oper:=M.filterMap fun m=>l[m]?
def lateB (l:List Oper) (n:Nat) (M:List Nat):Bool :=
 decide (M.length+(headM M 0 (l.take n)).length=n) && Region.noSelect l.toArray && decide (n<l.length) && sinkM l.toArray n M && Region.chainB .any l.toArray n && takeB l.toArray n M (Array.replicate l.length false) &&
  lexM l.toArray (l.length - n) M n 0 (takeL (Array.replicate l.length false) M)
section
variable {E:Know} {ops:Array Oper}
theorem zJ6 {n:Nat} {M:List Nat} {listed:Array Bool} (hs:sinkM ops n M=true) (hc:Region.chainB .any ops n=true) (hn:n<ops.size) (inv:HeadInv .any ops n listed) (hM:∀ m∈M,listed.getD m false=true) :
 ∀ (d i:Nat),n - i=d→i<n→listed.getD i true=false→∀ t,n≤t→t ∉ Region.ready .any ops listed:=by
 intro d
 induction d using Nat.strongRecOn with
 | _ d ih =>
  intro i hd hi hun t ht hr
  obtain ⟨_,ot,hot,hall⟩:=mem_ready.1 hr
  have htlt:t<ops.size:=(Array.getElem?_eq_some_iff.1 hot).1
  rcases Nat.eq_or_lt_of_le ht with htn|htn
  ·subst htn
   have h1:=List.all_eq_true.1 hs i (List.mem_range.2 hi)
   rw [Bool.or_eq_true] at h1
   rcases h1 with h1|h1
   ·have h2:=hM i (by simpa using h1)
    rw [getD_both hun] at h2
    cases h2
   ·obtain ⟨j,hj,hj2⟩:=List.any_eq_true.1 h1
    rw [Bool.and_eq_true,decide_eq_true_eq] at hj2
    obtain ⟨oj,hoj,e,he,hb,hon⟩:=Region.waitsFor_spec hj2.2
    have hjle:=List.mem_range.1 hj
    cases hl:listed.getD j false with
    | true =>
     have h2:=inv.closed j oj hoj hl e he hb
     rw [hon,getD_both hun] at h2
     cases h2
    | false =>
     rcases Nat.eq_or_lt_of_le (Nat.le_of_lt_succ hjle) with hjt|hjt
     ·subst hjt
      obtain rfl:oj=ot:=Option.some.inj (hoj.symm.trans hot)
      have h2:=hall e he hb
      rw [hon,getD_both hun] at h2
      cases h2
     ·exact ih (n - j) (by omega) j rfl hjt (getD_in (by rw [inv.size]; omega) hl) n (Nat.le_refl _) hr
  ·have h1:=List.all_eq_true.1 hc t (List.mem_range.2 htlt)
   rw [Bool.or_eq_true,decide_eq_true_eq] at h1
   rcases h1 with h1|h1
   ·omega
   ·obtain ⟨o',ho',e,he,hb,hon⟩:=Region.waitsFor_spec h1
    obtain rfl:o'=ot:=Option.some.inj (ho'.symm.trans hot)
    have h2:=hall e he hb
    rw [hon,getD_both (inv.tail (t - 1) (by omega) (by omega))] at h2
    cases h2
theorem zNE {n i:Nat} {M:List Nat} {oi:Oper} {v:SV} {L:Array Bool→AS→Prop} (hi:ops[i]?=some oi)
 (hs:sinkM ops n M=true) (hc:Region.chainB .any ops n=true) (hn:n<ops.size) (hin:i<n)
 (hdone:∀ listed s,L listed s→∀ j∈Region.ready .any ops listed,n≤j) :
 ∀ (f:Nat) (listed:Array Bool) (s:AS),HeadInv .any ops n listed→(∀ m∈M,listed.getD m false=true) →
  (∀ j oj,ops[j]?=some oj→j≠i→listed.getD j true=false→(∀ e∈oj.after,Region.binds .any e=true→e.on≠i)→oi.apart ops oj=true) →
  i∈Region.ready .any ops listed→(pStep E ops s oi).1∧(pStep E ops s oi).2=v →
  anyL E .any ops n L f (listed.setIfInBounds i true) (s.put oi.dst v)→anyL E .any ops n L (f+1) listed s:=by
 have own:∀ (f:Nat) (listed:Array Bool) (s:AS),(pStep E ops s oi).1∧(pStep E ops s oi).2=v→anyL E .any ops n L f (listed.setIfInBounds i true) (s.put oi.dst v)→pOp E ops i (anyL E .any ops n L f (listed.setIfInBounds i true)) s:=by
  intro f listed s hy H
  unfold pOp
  simp only [hi]
  exact ⟨hy.1,by rw [hy.2]; exact H⟩
 intro f
 induction f with
 | zero =>
  intro listed s inv hM _ hr hy H
  have hun:=(mem_ready.1 hr).1
  refine ⟨fun h=>(by rw [h] at hr; cases hr),fun j hj=>?_⟩
  have hjn:j<n:=Nat.lt_of_not_le fun h=>zJ6 hs hc hn inv hM _ i rfl hin hun j h hj
  refine ⟨hjn,?_⟩
  by_cases hji:j=i
  ·subst hji; exact own 0 listed s hy H
  ·have:=hdone _ _ H j (ready_mono hj hji)
   omega
 | succ f ih =>
  intro listed s inv hM hfree hr hy H
  have hun:=(mem_ready.1 hr).1
  refine ⟨fun h=>(by rw [h] at hr; cases hr),fun j hj=>?_⟩
  have hjn:j<n:=Nat.lt_of_not_le fun h=>zJ6 hs hc hn inv hM _ i rfl hin hun j h hj
  refine ⟨hjn,?_⟩
  by_cases hji:j=i
  ·subst hji; exact own (f+1) listed s hy H
  ·have h1:=(H.2 j (ready_mono hj hji)).2
   obtain ⟨hjun,oj,hoj,hall⟩:=mem_ready.1 hj
   have hnot:∀ e∈oj.after,Region.binds .any e=true→e.on≠i:=fun e he hb heq=>by
    have h1:=hall e he hb
    rw [heq,getD_both hun] at h1
    cases h1
   have h2:=zT8 hoj (hfree j oj hoj hji hjun hnot) hy h1
   have hfree':∀ k ok,ops[k]?=some ok→k≠i→(listed.setIfInBounds j true).getD k true=false →
    (∀ e∈ok.after,Region.binds .any e=true→e.on≠i)→oi.apart ops ok=true:=fun k ok hk hki hun hno=>by
    refine hfree k ok hk hki ?_ hno
    by_cases hjk:j=k
    ·subst hjk; exact hjun
    ·rw [getD_set_ne true hjk] at hun; exact hun
   refine zP1 (fun s' h3=>ih (listed.setIfInBounds j true) s' (inv.set hj hjn) (fun m hm=>getD_set_true (hM m hm)) hfree' (ready_mono hr (Ne.symm hji)) h3.1 ?_) h2
   rw [Array.setIfInBounds_comm _ _ hji]
   exact h3.2
theorem zIk {n g:Nat} {M:List Nat} {Lq:AS→Prop} (hs:sinkM ops n M=true) (hc:Region.chainB .any ops n=true) (hn:n<ops.size) (hg:ops.size - g=n) :
 ∀ (l:List Oper) (k:Nat) (listed:Array Bool) (s:AS),(∀ j,j<l.length→l[j]?=ops[k+j]?)→k+l.length=n→HeadInv .any ops n listed→(∀ m∈M,listed.getD m false=true) →
 lexM ops g M l.length k listed=true→runP E ops (headM M k l) s Lq →
 anyL E .any ops n (fun listed' s'=>Region.seqB .any ops g n listed'=true∧Lq s') (headM M k l).length listed s
 | [],k,listed,s,_,hk,_,_,hB,h=>by
  refine ⟨?_,h⟩
  have hB':Region.seqB .any ops g (ops.size - g) listed=true:=hB
  rwa [hg] at hB'
 | o::l,k,listed,s,hl,hk,inv,hM,hB,h=>by
  have h0:ops[k]?=some o:=by simpa using (hl 0 (by simp)).symm
  have hl':∀ j,j<l.length→l[j]?=ops[k+1+j]?:=fun j hj=>by have:=hl (j+1) (by simp; omega); simpa [Nat.add_assoc,Nat.add_comm 1 j] using this
  have hk':k+1+l.length=n:=by simp only [List.length_cons] at hk; omega
  have hB1:(if M.contains k then lexM ops g M l.length (k+1) listed else (Region.ready .any ops listed).contains k && Region.free .any ops listed k && lexM ops g M l.length (k+1) (listed.setIfInBounds k true))=true:=hB
  by_cases hm:M.contains k=true
  ·have e:headM M k (o::l)=headM M (k+1) l:=if_pos hm
   rw [e] at h ⊢
   rw [if_pos hm] at hB1
   exact zIk hs hc hn hg l (k+1) listed s hl' hk' inv hM hB1 h
  ·have e:headM M k (o::l)=o::headM M (k+1) l:=if_neg hm
   rw [e] at h ⊢
   rw [if_neg hm] at hB1
   rw [Bool.and_eq_true,Bool.and_eq_true] at hB1
   obtain ⟨⟨hr,hf⟩,hB'⟩:=hB1
   have hkn:k<n:=by omega
   have hr':k∈Region.ready .any ops listed:=by simpa using hr
   simp only [runP] at h
   exact zNE h0 hs hc hn hkn (fun listed' s' hL=>seqB_ready hL.1) _ listed s inv hM (Region.free_spec h0 hf) hr' ⟨h.1,rfl⟩
    (zIk hs hc hn hg l (k+1) _ _ hl' hk' (inv.set hr' hkn) (fun m hm=>getD_set_true (hM m hm)) hB' h.2)
variable {C:Ctx} {γ:Gam} {a:Act} {w:World} {s:AS}
theorem zJs {N n g:Nat} {Q:Exit→Act→World→Prop} (hQ:∀ c a w,¬Q (.panic c) a w) (hsel:Region.noSelect ops=true) (hd:∀ (j:Nat) (o:Oper),ops[j]?=some o→dstOK N o.dst=true) {Lq:AS→Prop} :
 ∀ (M:List Nat) (listed:Array Bool) (s:AS) (a:Act),Rel C γ s a w→a.tmps.size=N→takeB ops n M listed=true→HeadInv .any ops n listed →
  runP E ops (M.filterMap fun m=>ops[m]?) s Lq →
  (∀ s' a',Rel C γ s' a' w→a'.tmps.size=N→HeadInv .any ops n (takeL listed M)→Lq s'→wpAny C.P .any ops Q g (takeL listed M) a' w) →
  wpAny C.P .any ops Q (M.length+g) listed a w
 | [],listed,s,a,hr,hN,_,inv,h,hL=>by
  rw [show ([]:List Nat).length+g=g by simp]
  exact hL s a hr hN inv h
 | m::M,listed,s,a,hr,hN,hB,inv,h,hL=>by
  have hB1:(decide (m<n) && moveB ops m && (Region.ready .any ops listed).contains m && Region.free .any ops listed m && takeB ops n M (listed.setIfInBounds m true))=true:=hB
  simp only [Bool.and_eq_true,decide_eq_true_eq] at hB1
  obtain ⟨⟨⟨⟨hmn,hmv⟩,hrd⟩,hf⟩,hB'⟩:=hB1
  unfold moveB at hmv
  split at hmv
  ·rename_i d x ty pos af ho
   rw [List.filterMap_cons,ho] at h
   simp only [runP] at h
   obtain ⟨h1,h2⟩:=h
   have hp:(pStep E ops s ⟨d,.move x,ty,pos,af,none⟩).2=ev s x:=by
    simp only [pStep,gate]
    exact congrArg Prod.snd (zMR (E:=E) (s:=s) (d:=d) x)
   rw [hp] at h2
   rw [show (m::M).length+g=(M.length+g)+1 by simp only [List.length_cons]; omega]
   refine wpAny_take ho hsel hf hrd (fun c a w hq=>absurd hq (hQ c _ w)) (v:=a.eval x) (.inl ⟨rfl,fun w=>by unfold execOp; rfl⟩) ?_
   have hd':dstOK a.tmps.size d=true:=by rw [hN]; exact hd m _ ho
   have hr':=hr.put hd' (zAn hr x)
   refine zJs hQ hsel hd M _ _ _ hr' ((zC5 a d _).trans hN) hB' (inv.set (by simpa using hrd) hmn) h2 hL
  ·cases hmv
theorem zJd {K:AS→Prop}:∀ (x y:List Oper) (s:AS),runP E ops (x++y) s K→runP E ops x s fun s'=>runP E ops y s' K
 | [],_,_,h=>h
 | _::x,y,s,h=>⟨h.1,zJd x y _ h.2⟩
theorem zNg {m:Nat}:∀ (M:List Nat) (listed:Array Bool),listed.getD m false=true→(takeL listed M).getD m false=true
 | [],_,h=>h
 | _::M,_,h=>zNg M _ (getD_set_true h)
theorem zNh {n:Nat}:∀ (M:List Nat) (listed:Array Bool),(∀ m∈M,m<listed.size)→∀ m∈M,(takeL listed M).getD m false=true
 | [],_,_,m,hm=>by cases hm
 | k::M,listed,hl,m,hm=>by
  rcases List.mem_cons.1 hm with rfl|hm
  ·refine zNg M _ ?_
   have:=hl m (List.mem_cons_self ..)
   simp [this]
  ·exact zNh (n:=n) M _ (fun m hm=>by simpa using hl m (List.mem_cons_of_mem _ hm)) m hm
theorem zQf {n:Nat}:∀ (M:List Nat) (listed:Array Bool),takeB ops n M listed=true→∀ m∈M,m<n
 | [],_,_,m,hm=>by cases hm
 | k::M,listed,hB,m,hm=>by
  have hB1:(decide (k<n) && moveB ops k && (Region.ready .any ops listed).contains k && Region.free .any ops listed k && takeB ops n M (listed.setIfInBounds k true))=true:=hB
  simp only [Bool.and_eq_true,decide_eq_true_eq] at hB1
  rcases List.mem_cons.1 hm with rfl|hm
  ·exact hB1.1.1.1.1
  ·exact zQf M _ hB1.2 m hm
theorem zY4 (hE:KnowOK C.P E) {id n:Nat} {M:List Nat} {l:List Oper} {Q:Exit→Act→World→Prop} {K:AS→Prop} {N:Nat} (hd:∀ (j:Nat) (o:Oper),l.toArray[j]?=some o→dstOK N o.dst=true)
 (hQ:∀ s' γ' a' w',Rel C γ' s' a' w'→a'.tmps.size=N→K s'→Q .normal a' w') (hN:a.tmps.size=N) (h:Rel C γ s a w) (hB:lateB l n M=true)
 (hk:runP E l.toArray (pickM l M++headM M 0 (l.take n)) s fun s'=>runK E C.nl l.toArray (l.drop n) s' K):(Code.region id l.toArray true).wp C.P Q a w:=by
 unfold lateB at hB
 simp only [Bool.and_eq_true,decide_eq_true_eq] at hB
 obtain ⟨⟨⟨⟨⟨⟨hct,hsel⟩,hn⟩,hs⟩,hc⟩,ht⟩,hlex⟩:=hB
 have hn':n<l.toArray.size:=by simpa using hn
 have htl:(l.take n).length=n:=by simp; omega
 have hdl:(l.drop n).length=l.length - n:=by simp
 have inv0:HeadInv .any l.toArray n (Array.replicate l.length false) :=
  ⟨by simp,fun j oj _ hl=>(by rw [getD_replicate_false] at hl; cases hl),fun t _ ht=>getD_in (by simpa using ht) (getD_replicate_false _ _)⟩
 refine wp_mono (Q:=fun e a w=>e=.normal∧Q .normal a w) ?_ (fun e a w hq=>by rw [hq.1]; exact hq.2)
 refine wp_region_any hE.lang.mixed ?_
 have hr:Rel C γ s a {w with drawn:=w.drawn+1}:=h.world ⟨rfl,rfl,rfl,Nat.le_refl _,fun _ _ _=>rfl⟩
 have hp:(pickM l M)=M.filterMap fun m=>l.toArray[m]?:=by
  unfold pickM
  congr 1
  funext m
  simp
 have hMl:=zQf M _ ht
 have hmem:=zNh (n:=n) M (Array.replicate l.length false) (fun m hm=>by have:=hMl m hm; simp; omega)
 have key:=zJs (E:=E) (C:=C) (γ:=γ) (N:=N) (n:=n) (g:=(headM M 0 (l.take n)).length+(l.length - n)) (Q:=fun e a w=>e=.normal∧Q .normal a w) (ops:=l.toArray) (fun c a w hq=>by cases hq.1) hsel hd
  (Lq:=fun s'=>runP E l.toArray (headM M 0 (l.take n)) s' fun s'=>runK E C.nl l.toArray (l.drop n) s' K) M _ s a hr hN ht inv0
  (by rw [←hp]; exact zJd _ _ _ hk) (fun s' a' k1 k2 k3 k4=>by
   have H:=zIk (E:=E) (g:=l.length - n) hs hc hn' (by simp; omega) (l.take n) 0 _ s' (fun j hj=>by
    have hj':j<n:=by rw [htl] at hj; exact hj
    simp [hj']) (by simpa using htl) k3 hmem (by rw [htl]; exact hlex) k4
   exact zDw (Q':=fun e a w=>e=.normal∧Q .normal a w) (g:=l.length - n) hE hd (fun listed s' γ' a' w' hL h1 h2=>by
    have h3:=zDE (ops:=l.toArray) (Q:=fun e a w=>e=.normal∧Q .normal a w) hE hd (fun s' γ' a' w' k1 k2 k3=>⟨rfl,hQ s' γ' a' w' k1 k2 k3⟩) (l.drop n) s' γ' a' w' (fun o ho=>by
     obtain ⟨j,hj⟩:=List.mem_iff_getElem?.1 (List.mem_of_mem_drop ho)
     exact hd j o (by simpa using hj)) h2 h1 hL.2
    have:=wpAny_of_seq (md:=.any) (Q':=fun e a w=>e=.normal∧Q .normal a w) (l.drop n) n listed a' w' (fun j=>by simp [List.getElem?_drop]) (by rw [hdl]; exact hL.1) h3
    rwa [hdl] at this) _ _ _ _ _ _ k1 k2 H)
 have e:M.length+((headM M 0 (l.take n)).length+(l.length - n))=l.toArray.size:=by
  rw [List.size_toArray]; omega
 rw [e] at key
 have e2:(Array.replicate l.length false)=Array.replicate l.toArray.size false:=by rw [List.size_toArray]
 rw [e2] at key
 exact key
end
theorem zEU {C:Ctx} {N:Nat} {Q:Exit→AS→Prop} {s:AS} {E:Know} (hE:KnowOK C.P E) (k:Nat) (M:List Nat) {id:Nat} {l:List Oper} (hd:zEe N l=true) (hB:lateB l (l.length - k) M=true)
 (h:runQ E l.toArray (pickM l M++headM M 0 (l.take (l.length - k))) s fun s'=>runK E C.nl l.toArray (l.drop (l.length - k)) s' (Q .normal)):tri C N (.region id l.toArray true) Q s:=by
 refine ⟨fun γ a w hr hN=>?_⟩
 have hd':∀ (j:Nat) (o:Oper),l.toArray[j]?=some o→dstOK N o.dst=true:=fun j o ho=>zBp (ops:=l.toArray) (by simpa using hd) j o ho
 exact zY4 (K:=Q .normal) (N:=N) hE hd' (fun s' γ' a' w' h1 h2 h3=>⟨s',γ',h1,h2,h3⟩) hN hr hB (zD6 _ _ h)
attribute [push_cast] pickM headM List.filterMap_cons List.filterMap_nil List.getElem?_cons_zero List.getElem?_cons_succ List.contains_cons List.contains_nil List.cons_append List.nil_append
end Go.VS
namespace Go.VS
open Go.RowKit
def PN (C:Ctx) (N:Nat) (K:AS→Prop) (G:List PanicEntry→World→Prop):Exit→Act→World→Prop
 | .normal,a,w=>∃ s γ,Rel C γ s a w∧a.tmps.size=N∧K s
 | .panic ch,a,w=>a.defers=C.ds∧G ch w
 | _,_,_=>False
structure triP (C:Ctx) (N:Nat) (c:Code) (K:AS→Prop) (G:List PanicEntry→World→Prop) (s:AS):Prop where
 run:∀ γ a w,Rel C γ s a w→a.tmps.size=N→c.wp C.P (PN C N K G) a w
section
variable {C:Ctx} {N:Nat} {K:AS→Prop} {G:List PanicEntry→World→Prop} {s t:AS} {E:Know}
theorem zCj {c:Code} (h:tri C N c (thenQ K fun _ _=>False) s):triP C N c K G s :=
 ⟨fun γ a w hr hN=>wp_mono (h.run γ a w hr hN) fun e a' w' ⟨s',γ',h1,h2,h3⟩=>by
  cases e with
  | normal=>exact ⟨s',γ',h1,h2,h3⟩
  | _=>exact h3.elim⟩
theorem zNj {c:Code} (hw:Weak C.nl s t) (h:triP C N c K G t):triP C N c K G s:=⟨fun _ a w hr hN=>h.run _ a w (hw.rel hr) hN⟩
theorem zEA {x y:Code} (h:∀ K':AS→Prop,(∀ s,triP C N y K G s→K' s)→triP C N x K' G s):triP C N (.seq x y) K G s:=by
 have h1:=h (fun s=>triP C N y K G s) fun _ h=>h
 refine ⟨fun γ a w hr hN=>wp_seq (wp_mono (h1.run γ a w hr hN) ?_)⟩
 intro e a' w' h2
 cases e with
 | normal=>obtain ⟨s',γ',g1,g2,g3⟩:=h2; exact g3.run γ' a' w' g1 g2
 | _=>exact h2
theorem zKA {id:Nat} {c:Code} (h:triP C N c K G s):triP C N (.block id c) K G s:=by
 refine ⟨fun γ a w hr hN=>wp_block (wp_mono (h.run γ a w hr hN) ?_)⟩
 intro e a' w' h2
 cases e with
 | exit id'=>exact h2.elim
 | _=>exact h2
theorem zR2 {c:Code} {α:Type} (F:α→AS) (I:α→Prop) (m:α→Nat) (x0:α) (hI:I x0) (h0:Weak C.nl s (F x0))
 (round:∀ x,I x→∀ K':AS→Prop,(∀ s' y,I y→m y<m x→Weak C.nl s' (F y)→K' s')→triP C N c K' G (F x)):triP C N (.loop c) K G s:=by
 refine ⟨fun γ a w hr hN=>?_⟩
 refine wp_loop_ghost (fun n a w=>∃ x γ,m x=n∧I x∧Rel C γ (F x) a w∧a.tmps.size=N) (m x0) ⟨x0,_,rfl,hI,h0.rel hr,hN⟩ ?_
 rintro n a w ⟨x,γ,rfl,hx,hr,hN⟩
 refine wp_mono ((round x hx (fun s'=>∃ y,I y∧m y<m x∧Weak C.nl s' (F y)) fun _ y a b c=>⟨y,a,b,c⟩).run γ a w hr hN) ?_
 intro e a' w' h
 cases e with
 | normal=>obtain ⟨s',γ',h1,h2,y,h3,h4,h5⟩:=h; exact ⟨m y,h4,y,_,rfl,h3,h5.rel h1,h2⟩
 | _=>exact h
theorem zJl {c:Operand} {x y:Code} {b:Bool} (hc:ev s c=.one (.val .bool b)) (h1:b=true→triP C N x K G s) (h2:b=false→triP C N y K G s):triP C N (.cond c x y) K G s:=by
 refine ⟨fun γ a w hr hN=>?_⟩
 have hv:=zAn hr c
 rw [hc] at hv
 exact wp_cond_split (zFV hv) (fun hb=>(h1 hb).run γ a w hr hN) (fun hb=>(h2 hb).run γ a w hr hN)
theorem zUR (h:K s):triP C N .skip K G s:=⟨fun γ _ _ hr hN=>wp_skip ⟨s,γ,hr,hN,h⟩⟩
def zIj (C:Ctx) (T:TypeId) (A B:Sh) (x:A.T) (y:B.T) (ch:List PanicEntry) (w:World):Prop :=
 ∃ γ u v,ch=[{v:=.iface T (.agg #[u,v]),recovered:=false}]∧vrep w (C.zn γ) A x u∧vrep w (C.zn γ) B y v∧Keep C.L C.w0 w
theorem zX3 {γ:Gam} {a:Act} {w:World} {T:TypeId} {A B:Sh} {x:List A.T} {y:List B.T} {d:Nat} (h:Rel C γ s a w) (he:s.env d=.one (.val (.prod (.sl A) (.sl B)) (x,y))) :
 zIj C T (.sl A) (.sl B) x y [{v:=.iface T (a.tmps.getD d undef),recovered:=false}] w:=by
 have h1:=h.env d
 rw [he] at h1
 obtain ⟨cs,⟨c,d',rfl,hc,hd⟩,hv⟩:=h1
 rw [hv]
 have hc':=hc
 have hd':=hd
 obtain ⟨a1,cap1,rfl,_⟩:=hc'
 obtain ⟨a2,cap2,rfl,_⟩:=hd'
 exact ⟨γ,_,_,rfl,⟨_,hc,rfl⟩,⟨_,hd,rfl⟩,h.keep⟩
theorem yAp {P:Program} {E:Know} (hE:KnowOK P E) {f:FuncId} {fn:Func} {as_:List AD} {code:Code} {x:TupA as_} {G:Ctx→List PanicEntry→World→Prop} (hf:P.funcs[f]?=some fn) (hb:fn.body=some code)
 (hn:(zAP 0 as_ x).length≤fn.ntmps) (h:∀ C:Ctx,C.P=P→KnowOK C.P E→C.nl=lends as_→zCB as_ x→triP C fn.ntmps code (fun _=>False) (G C) (entry as_ x)) (C:Ctx) (γ:Gam) (vs:List Value) (hen:Entry C γ P as_ x vs) :
 Calls P f vs.toArray C.w0 (fun e w=>∃ ch,e=.panicked ch∧G C ch w):=by
 obtain rfl:=hen.P
 refine calls_of_wp hf hb ?_
 have hlen:=zA0 _ _ hen.args
 have hr:=zEi hen (fn.ntmps - vs.length)
 refine wp_mono ((h C rfl hE hen.nl (zBF _ _ _ _ hen.args)).run γ _ _ (by simpa using hr) (by simp; omega)) ?_
 intro e a' w' h2
 cases e with
 | normal=>obtain ⟨_,_,_,_,h3⟩:=h2; exact h3.elim
 | panic ch=>exact ⟨h2.1.trans hen.ds.1,_,rfl,h2.2⟩
 | _=>exact h2.elim
theorem goP {c:Code} {K':AS→Prop} (h:∀ s,triP C N c K G s→K' s) (h2:triP C N c K G s):K' s:=h s h2
theorem zKB (hE:KnowOK C.P E) {id d1 d2:Nat} {T t1 t2 t3:TypeId} {op1:Op} {p1 p2 p3:String} {f1 f2 f3:Array Edge} {fs:Array Field} {A B:Sh} {x:List A.T} {y:List B.T} (hT:C.P.underlying T=some (.struct fs))
 (hd:zEe N [⟨some d1,op1,t1,p1,f1,none⟩,⟨some d2,.makeInterface T (.tmp d1),t2,p2,f2,none⟩,⟨none,.panic (.tmp d2),t3,p3,f3,none⟩]=true)
 (h:runK E C.nl #[⟨some d1,op1,t1,p1,f1,none⟩,⟨some d2,.makeInterface T (.tmp d1),t2,p2,f2,none⟩,⟨none,.panic (.tmp d2),t3,p3,f3,none⟩] [⟨some d1,op1,t1,p1,f1,none⟩] s
  fun s'=>s'.env d1=.one (.val (.prod (.sl A) (.sl B)) (x,y))) :
 triP C N (.region id #[⟨some d1,op1,t1,p1,f1,none⟩,⟨some d2,.makeInterface T (.tmp d1),t2,p2,f2,none⟩,⟨none,.panic (.tmp d2),t3,p3,f3,none⟩] false) K (zIj C T (.sl A) (.sl B) x y) s:=by
 refine ⟨fun γ a w hr hN=>?_⟩
 subst hN
 have hd':∀ (j:Nat) (o:Oper),(#[⟨some d1,op1,t1,p1,f1,none⟩,⟨some d2,.makeInterface T (.tmp d1),t2,p2,f2,none⟩,⟨none,.panic (.tmp d2),t3,p3,f3,none⟩]:Array Oper)[j]?=some o→dstOK a.tmps.size o.dst=true:=fun j o ho=>zBp (by simpa using hd) j o ho
 have hb:=List.all_eq_true.1 hd
 refine wp_region_lit (l:=[_,_,_]) ?_
 refine wpList_step fun K' hK'=>?_
 refine zCY hE hr hd' (hb _ (by simp)) h fun s' γ' a' w' h1 h2 h3=>hK' _ _ ?_
 have hsz:d2<a'.tmps.size:=by
  have:=hb ⟨some d2,.makeInterface T (.tmp d1),t2,p2,f2,none⟩ (by simp)
  rw [h2]
  simpa [dstOK] using this
 refine wpList_step fun K2 hK2=>?_
 simp only [Region.wanted,if_true]
 have e1:(execOp a'.eval ⟨some d2,.makeInterface T (.tmp d1),t2,p2,f2,none⟩).run C.P w'=.ok (.value (.iface T (a'.tmps.getD d1 undef))) w':=by
  have hu:(underlying T).run C.P w'=.ok (.struct fs) w':=run_underlying hT w'
  simp [execOp,go_sem,Instr.makeInterface,hu,Act.eval]
 simp only [Oper.wp,e1,Oper.upon]
 refine hK2 _ _ ?_
 refine wpList_step fun K3 hK3=>?_
 simp only [Region.wanted,if_true]
 have e2:(execOp (a'.put (some d2) (.iface T (a'.tmps.getD d1 undef))).eval ⟨none,.panic (.tmp d2),t3,p3,f3,none⟩).run C.P w'=.halt (.panic (.iface T (a'.tmps.getD d1 undef))) w':=by
  simp [execOp,go_sem,Act.eval,Act.put,hsz]
  rfl
 simp only [Oper.wp,e2,Oper.upon]
 exact ⟨h1.defers.1,zX3 h1 h3⟩
end
end Go.VS
namespace Go.VS
open Go.RowKit
section
variable {C:Ctx} {Q:Exit→AS→Prop} {E:Know} {ops:Array Oper}
theorem runK_then {N:Nat} (hE:KnowOK C.P E) {Q:Exit→Act→World→Prop} {K:AS→Prop} {rest:List Oper} (hd:∀ (j:Nat) (o:Oper),ops[j]?=some o→dstOK N o.dst=true)
 (hQ:∀ s' γ' a' w',Rel C γ' s' a' w'→a'.tmps.size=N→K s'→wpList C.P ops Q rest a' w'):∀ (l:List Oper) (s:AS) (γ:Gam) (a:Act) (w:World),(∀ o∈l,dstOK N o.dst=true)→a.tmps.size=N→Rel C γ s a w →
 runK E C.nl ops l s K→wpList C.P ops Q (l++rest) a w
 | [],s,γ,a,w,_,hN,h,hk=>hQ s γ a w h hN hk
 | o::l,s,γ,a,w,hl,hN,h,hk=>by
  refine wpList_step fun K' hK'=>?_
  subst hN
  exact zCY hE h hd (hl o (by simp)) hk fun s' γ' a' w' h1 h2 h3=>hK' _ _ (runK_then hE hd hQ l s' γ' a' w' (fun o ho=>hl o (by simp [ho])) h2 h1 h3)
theorem zSC (ys:List Int):ys.flatMap (Sh.cells .int)=ys.map fun n=>Value.int .i64 n:=by
 induction ys with
 | nil=>rfl
 | cons y ys ih=>rw [List.flatMap_cons,ih]; rfl
def copyS (s:AS) (d x y:Nat) (K:AS→Prop):Prop :=
 match s.env x,s.env y with
 | .one (.refi r i),.one (.val sh ys)=>match s.roots r with
  | some (.deep e e2 s2 xss)=>match zAT sh (.sl .int) ys,zAT (.sl (.sl s2)) (.sl (.sl .int)) xss with
   | some zs,some zss=>i<List.length zss∧zs.length=(zss.getD i []).length∧0<zs.length∧K ((s.setRoot r (some (.deep e e2 .int (zss.set i zs)))).put (some d) (.one (.val .int (zs.length:Int))))
   | _,_=>False
  | _=>False
 | _,_=>False
theorem zQB {s:AS} {d x y:Nat} {K:AS→Prop} (h:copyS s d x y K):∃ r i e e2 ys xss,s.env x=.one (.refi r i)∧s.env y=.one (.val (.sl .int) ys)∧s.roots r=some (.deep e e2 .int xss) ∧
 i<xss.length∧ys.length=(xss.getD i []).length∧0<ys.length∧K ((s.setRoot r (some (.deep e e2 .int (xss.set i ys)))).put (some d) (.one (.val .int (ys.length:Int)))):=by
 unfold copyS at h
 split at h
 ·rename_i r i sh ys h1 h2
  split at h
  ·rename_i e e2 s2 xss h3
   split at h
   ·rename_i zs zss h4 h5
    unfold zAT at h4 h5
    split at h4
    ·rename_i e4
     subst e4
     split at h5
     ·rename_i e5
      simp only [Sh.sl.injEq] at e5
      subst e5
      simp only [Option.some.injEq] at h4 h5
      subst h4 h5
      exact ⟨r,i,e,e2,_,_,h1,h2,h3,h⟩
     ·cases h5
    ·cases h4
   ·exact h.elim
  ·exact h.elim
 ·exact h.elim
theorem zWV {N:Nat} {s:AS} (hE:KnowOK C.P E) {id d x y:Nat} {dT sT elem ty:TypeId} {pos:String} {af:Array Edge} {L:List Oper} (n:Nat) (hu:C.P.underlying dT=some (.slice elem)) (hs:(C.P.info? elem).map (·.size)=some 1)
 (hL:L=L.take n++[⟨some d,.call {callee:=.builtin .copy,args:=#[.tmp x,.tmp y],argTypes:=#[dT,sT]},ty,pos,af,none⟩]) (hd:zEe N L=true)
 (h:runK E C.nl L.toArray (L.take n) s fun s'=>copyS s' d x y (Q .normal)):tri C N (.region id L.toArray false) Q s:=by
 refine ⟨fun γ a w hr hN=>?_⟩
 have hd':∀ (j:Nat) (o:Oper),L.toArray[j]?=some o→dstOK N o.dst=true:=fun j o ho=>zBp (ops:=L.toArray) (by simpa using hd) j o ho
 have hb:=List.all_eq_true.1 hd
 have hdd:d<N:=by
  have:=hb ⟨some d,.call {callee:=.builtin .copy,args:=#[.tmp x,.tmp y],argTypes:=#[dT,sT]},ty,pos,af,none⟩ (by rw [hL]; simp)
  simpa [dstOK] using this
 refine wp_region_lit ?_
 have key:=runK_then (N:=N) (rest:=[⟨some d,.call {callee:=.builtin .copy,args:=#[.tmp x,.tmp y],argTypes:=#[dT,sT]},ty,pos,af,none⟩]) hE (Q:=fun e a' w'=>∃ s' γ',Rel C γ' s' a' w'∧a'.tmps.size=N∧Q e s') hd'
  (fun s' γ' a' w' h1 h2 h3=>?_) (L.take n) s γ a w (fun o ho=>hb o (List.mem_of_mem_take ho)) hN hr h
 ·rw [←hL] at key
  exact key
 obtain ⟨r,i,e,e2,ys,xss,k1,k2,k3,k4,k5,k6,k7⟩:=zQB h3
 have hx:=h1.env x
 rw [k1] at hx
 have hy:=h1.env y
 rw [k2] at hy
 obtain ⟨c,⟨ad,cap,rfl,hc1,hc2,hall⟩,hvy⟩:=hy
 obtain ⟨hf,htop,hobt,hrows⟩:=h1.roots r _ k3
 have hgi:xss.getD i []=xss[i]:=by simp [List.getD_eq_getElem?_getD,k4]
 rw [hgi] at k5
 obtain ⟨hown,hob⟩:=hrows i xss[i] (by simp [k4])
 have hxv:a'.tmps.getD x undef=γ'.rows r i:=hx
 have hcl:∀ zs:List Int,(zs.flatMap (Sh.cells .int)).length=zs.length:=fun zs=>by
  rw [zBT (Sh.cells .int) 1 (fun _=>rfl)]; omega
 obtain ⟨adr,cp,hsl,_,_⟩:=zAO hown
 have hbig:=hown
 rw [hsl] at hown
 have hadr:∃ g,adr=some ⟨g,0,none⟩:=by
  rcases hown.2 with ⟨h',h0⟩|⟨g,cap',cur,h',_⟩
  ·exact absurd (k5.trans h0) (by omega)
  ·simp only [Value.slice.injEq] at h'
   exact ⟨g,h'.1⟩
 obtain ⟨g,rfl⟩:=hadr
 obtain ⟨cur,tt,hg,hcs,hown',hgr⟩:=zFv (o:=0) hown (ys.flatMap (Sh.cells .int)) (by rw [hcl,hcl]; omega)
 obtain ⟨b0,off0,_,had,_⟩:=hall 0 k6
 subst had
 have hsrc:∀ j v,(ys.flatMap (Sh.cells .int))[j]?=some v→w'.cell? (Addr.add ⟨b0,off0,none⟩ j)=some v:=by
  intro j v hj
  have hjl:j<ys.length:=by have:=(List.getElem?_eq_some_iff.1 hj).1; rwa [hcl] at this
  obtain ⟨b,off,c,e1,_,_,hp,hcell⟩:=hall j hjl
  simp only [Option.some.injEq,Addr.mk.injEq,and_true] at e1
  obtain ⟨rfl,rfl⟩:=e1
  have h8:c=[.int .i64 ys[j]]:=hp
  subst h8
  have h9:=hcell 0 _ rfl
  rw [zSC,List.getElem?_map,List.getElem?_eq_getElem hjl] at hj
  simp only [Option.map_some,Option.some.injEq] at hj
  subst hj
  have e4:(Addr.add ⟨b0,off0,none⟩ j)=(⟨b0,off0+(j*Sh.int.size+0),none⟩:Addr):=by
   unfold Addr.add
   simp [Sh.size]
  rw [e4]
  exact h9
 refine wpList_copy_own (o:=⟨some d,.call {callee:=.builtin .copy,args:=#[.tmp x,.tmp y],argTypes:=#[dT,sT]},ty,pos,af,none⟩) rfl (.tmp x) (.tmp y) dT sT rfl elem hu hs g 0 xss[i].length cp ⟨b0,off0,none⟩ ys.length cap
  (by show a'.tmps.getD x undef=_; rw [hxv,hsl]) (by show a'.tmps.getD y undef=_; rw [hvy]; rfl) cur tt hg (ys.flatMap (Sh.cells .int)) (by rw [hcl,k5]; exact (Nat.min_self _).symm) hsrc hcs ?_ ?_
 ·intro v hv
  simp only [List.mem_flatMap] at hv
  obtain ⟨n,_,hv⟩:=hv
  exact zCC .int n v hv
 have hob':=hob
 rw [hsl] at hob'
 have hk:=hob' g rfl
 have hw:Write C γ' w' _ g (.row r i):=⟨hk.1,hk.2,hgr,fun _=>by simp⟩
 have hrel:Rel C γ' (s'.setRoot r (some (.deep e e2 .int (xss.set i ys)))) a' (w'.setRow g (cur.toList.take 0++ys.flatMap (Sh.cells .int)++cur.toList.drop (0+(ys.flatMap (Sh.cells .int)).length)).toArray):=by
  refine h1.written hw (.inr ⟨i,rfl⟩) ⟨hf,?_,hobt,fun k zs hzs=>?_⟩
  ·rw [List.length_set]
   exact hw.row (by simp) htop hobt
  ·rw [List.getElem?_set] at hzs
   split at hzs
   ·rename_i e'
    subst e'
    simp only [Option.some.injEq] at hzs
    subst hzs
    refine ⟨?_,hob⟩
    rw [hsl,k5]
    have e5:(xss[i].flatMap (Sh.cells .int)).take 0++ys.flatMap (Sh.cells .int)++(xss[i].flatMap (Sh.cells .int)).drop (0+(ys.flatMap (Sh.cells .int)).length)=ys.flatMap (Sh.cells .int):=by
     rw [Nat.zero_add,hcl,List.drop_eq_nil_of_le (by rw [hcl]; omega)]
     simp
    rw [e5] at hown'
    exact hown'
   ·rename_i e'
    exact ⟨hw.row (by simp; exact fun e''=>e' e''.symm) (hrows k zs hzs).1 (hrows k zs hzs).2,(hrows k zs hzs).2⟩
 have hput:=hrel.put (d:=some d) (by simp [dstOK,h2,hdd]) (sv:=.one (.val .int (ys.length:Int))) (v:=goInt (ys.flatMap (Sh.cells .int)).length) ⟨_,rfl,by rw [hcl]; rfl⟩
 rw [List.append_assoc] at hput
 exact wpList_nil ⟨_,γ',hput,by simp [Act.put,h2],k7⟩
def unbox (s:AS) (i b:Nat) (sh:Sh) (x:sh.T):AS:=⟨upd s.env i (.one (.padr sh x)),s.roots,upd s.boxes b none⟩
@[push_cast] theorem yAy (s:AS) (i b:Nat) (sh:Sh) (x:sh.T) (k:Nat):(unbox s i b sh x).env k=if k=i then SV.one (.padr sh x) else s.env k:=rfl
@[push_cast] theorem zYZ (s:AS) (i b:Nat) (sh:Sh) (x:sh.T):(unbox s i b sh x).roots=s.roots:=rfl
@[push_cast] theorem zYY (s:AS) (i b:Nat) (sh:Sh) (x:sh.T) (k:Nat):(unbox s i b sh x).boxes k=if k=b then none else s.boxes k:=rfl
end
end Go.VS
namespace Go.VS
open Go.RowKit
section
variable {C:Ctx} {γ:Gam} {s:AS} {a:Act} {w:World} {d r:Nat} {x:Sl} {l0:Loc}
def zBn (γ:Gam) (r:Nat) (x:Sl) (l:Loc):Gam:=⟨upd γ.hs r x,γ.rs,γ.bx,fun b=>if x.v.ownBlock=some b then some l else γ.own b⟩
structure Passes (γ:Gam) (d r:Nat) (x:Sl) (l0:Loc):Prop where
 own:∀ b,x.v.ownBlock=some b→γ.own b=some l0
 loc:l0=.mk d∨l0=.hd r
theorem Passes.ne (h:Passes γ d r x l0) (l:Loc) {b:Nat} (hb:γ.own b≠some l0):(zBn γ r x l).own b=γ.own b:=by
 simp only [zBn]
 rw [if_neg (fun e=>hb (h.own b e))]
theorem zOu (γ:Gam) (r:Nat) (x:Sl) (l:Loc) {p:Nat} (hp:p≠r):(zBn γ r x l).hd p=γ.hd p:=by simp only [Gam.hd,zBn,upd]; rw [if_neg hp]
theorem zI3 (γ:Gam) (r:Nat) (x:Sl) (l:Loc):(zBn γ r x l).hd r=x.v:=by simp [Gam.hd,zBn,upd]
theorem Passes.zn (h:Passes γ d r x l0) (l:Loc) {b:Nat} (hz:C.zn γ b):C.zn (zBn γ r x l) b:=⟨hz.1,by rw [h.ne l (by rw [hz.2]; simp)]; exact hz.2⟩
theorem Passes.bv (h:Passes γ d r x l0) (l:Loc) (b:BV) (v:Value) (hb:bvRep C γ w b v):bvRep C (zBn γ r x l) w (killR r (zBM d b)) v:=by
 by_cases hk:killR r (zBM d b)=.any
 ·rw [hk]; trivial
 have hk1:zBM d b=b:=by
  cases b<;>simp only [zBM] at hk ⊢
  split
  ·rename_i e; rw [if_pos e] at hk; exact absurd rfl hk
  ·rfl
 rw [hk1] at hk ⊢
 have hk2:killR r b=b:=(zEM r b).resolve_left hk
 rw [hk2]
 have ag:Agree γ (zBn γ r x l) b:=zDP (γ:=γ) (γ':=zBn γ r x l) hk (fun p hp=>zOu γ r x l hp) (fun _ _ _=>rfl) (fun _=>rfl)
 cases b with
 | mk d' e' s' ys =>
  obtain ⟨k1,k2,k3⟩:=hb
  have hdd:d'≠d:=by
   intro e
   simp only [zBM,if_pos e] at hk1
   cases hk1
  have hne:(.mk d':Loc)≠l0:=by
   rcases h.loc with e|e<;>rw [e]<;>simp
   exact hdd
  exact ⟨k1,k2,fun k hk=>⟨by rw [h.ne l (by rw [(k3 k hk).1]; simpa using hne)]; exact (k3 k hk).1,(k3 k hk).2⟩⟩
 | any=>trivial
 | raw u=>exact hb
 | ifc=>exact hb
 | val sh' y =>
  obtain ⟨cs,h1,h2⟩:=hb
  exact ⟨cs,zAx (Nat.le_refl _) (fun b _ hb=>⟨h.zn l hb,rfl⟩) _ _ _ h1,h2⟩
 | nils=>exact hb
 | ref q=>simp only [bvRep,Agree] at *; rw [ag]; exact hb
 | refi q j=>simp only [bvRep,Agree] at *; rw [ag]; exact hb
 | refp q j=>simp only [bvRep,Agree] at *; rw [ag]; exact hb
 | adr q j sz=>simp only [bvRep,Agree] at *; rw [ag]; exact hb
 | adri q j k sz=>simp only [bvRep,Agree] at *; rw [ag]; exact hb
 | adrf q j sz n f off=>simp only [bvRep,Agree] at *; rw [ag]; exact hb
 | box q=>exact hb
 | boxf q n f off=>exact hb
 | padr sh' y =>
  obtain ⟨b,off,cs,k1,k2,k3,k4,k5⟩:=hb
  exact ⟨b,off,cs,k1,h.zn l k2,k3,zAx (Nat.le_refl _) (fun b _ hb=>⟨h.zn l hb,rfl⟩) _ _ _ k4,k5⟩
 | fn f caps=>exact hb
 | bnd f sh' y =>
  obtain ⟨u,h0,cs,h1,h2⟩:=hb
  exact ⟨u,h0,cs,zAx (Nat.le_refl _) (fun b _ hb=>⟨h.zn l hb,rfl⟩) _ _ _ h1,h2⟩
 | fnv as' r' q p=>exact hb
 | pfn as' r' q p =>
  obtain ⟨b,off,c,k1,k2,k3,k4,k5⟩:=hb
  exact ⟨b,off,c,k1,h.zn l k2,k3,k4,k5⟩
 | nilf=>exact hb
 | unk=>exact hb
 | lits q =>
  obtain ⟨g,cp,k1,k2,k3,k4⟩:=hb
  exact ⟨g,cp,k1,h.zn l k2,k3,by rw [show (zBn γ r x l).hd q=γ.hd q from ag]; exact k4⟩
 | skip=>exact hb
theorem Passes.bvs (h:Passes γ d r x l0) (l:Loc):∀ (bs:List BV) (vs:List Value),zAp C γ w bs vs→zAp C (zBn γ r x l) w ((bs.map (zBM d)).map (killR r)) vs
 | [],_,h=>h
 | b::bs,_,⟨v,vs',e,k1,k2⟩=>⟨v,vs',e,h.bv l b v k1,h.bvs l bs vs' k2⟩
theorem Passes.sv (h:Passes γ d r x l0) (l:Loc) (sv:SV) (v:Value) (hsv:svRep C γ w sv v):svRep C (zBn γ r x l) w (mapSV (killR r) (mapSV (zBM d) sv)) v:=by
 cases sv with
 | one b=>exact h.bv l b v hsv
 | tup bs =>
  obtain ⟨vs,k1,k2⟩:=hsv
  exact ⟨vs,k1,h.bvs l bs vs k2⟩
 | rcd bs =>
  obtain ⟨vs,k1,k2,k3⟩:=hsv
  exact ⟨vs,k1,h.bvs l bs vs k2,k3⟩
theorem Passes.root (h:Passes γ d r x l0) (l:Loc) {p:Nat} {rc:RC} (hp:p≠r) (hrc:rcRep C γ w p rc):rcRep C (zBn γ r x l) w p rc:=by
 have hhd:=zOu γ r x l hp
 have hB:∀ (v:Value) (l1:Loc),l1≠l0→ownB C γ v l1→ownB C (zBn γ r x l) v l1:=fun v l1 hl ho k hk=>⟨by rw [h.ne l (by rw [(ho k hk).1]; simpa using hl)]; exact (ho k hk).1,(ho k hk).2⟩
 have n1:(.hd p:Loc)≠l0:=by rcases h.loc with e|e<;>rw [e]<;>simp; exact hp
 have n2:∀ i,(.row p i:Loc)≠l0:=fun i=>by rcases h.loc with e|e<;>rw [e]<;>simp
 cases rc with
 | flat e' s' ys=>exact ⟨hrc.1,by rw [hhd]; exact hrc.2.1,by rw [hhd]; exact hB _ _ n1 hrc.2.2⟩
 | deep e' e2' s' ys=>exact ⟨hrc.1,by rw [hhd]; exact hrc.2.1,by rw [hhd]; exact hB _ _ n1 hrc.2.2.1,fun k zs hk=>⟨(hrc.2.2.2 k zs hk).1,hB _ _ (n2 k) (hrc.2.2.2 k zs hk).2⟩⟩
 | hole e' e2' s' ys m=>exact ⟨hrc.1,by rw [hhd]; exact hrc.2.1,by rw [hhd]; exact hB _ _ n1 hrc.2.2.1,fun k zs hn hk=>⟨(hrc.2.2.2 k zs hn hk).1,hB _ _ (n2 k) (hrc.2.2.2 k zs hn hk).2⟩⟩
 | rags e' s' ys =>
  obtain ⟨vs,k1,k2,k3⟩:=hrc
  refine ⟨vs,by rw [hhd]; exact k1,by rw [hhd]; exact hB _ _ n1 k2,?_⟩
  have:∀ (L:List (List s'.T)) (us:List Value),zAp C γ w (L.map fun x=>BV.val (.sl s') x) us→zAp C (zBn γ r x l) w (L.map fun x=>BV.val (.sl s') x) us:=by
   intro L
   induction L with
   | nil=>intro us h; exact h
   | cons y L ih =>
    intro us hh
    obtain ⟨u,us',rfl,q1,q2⟩:=hh
    have q3:=h.bv l (.val (.sl s') y) u q1
    simp only [zBM,killR] at q3
    exact ⟨u,us',rfl,q3,ih us' q2⟩
  exact this _ _ k3
theorem Passes.rel (ho:Passes γ d r x l0) (h:Rel C γ s a w) (hr:C.nl≤r) (l:Loc) (rc:Option RC) (hrc:∀ c,rc=some c→rcRep C (zBn γ r x l) w r c) :
 Rel C (zBn γ r x l) (((s.map (zBM d)).map (killR r)).setRoot r rc) a w:=by
 refine ⟨h.defers,h.keep,fun k l' hk=>?_,fun q hq=>?_,fun j=>ho.sv l _ _ (h.env j),fun p c hp=>?_,fun b sv hb=>?_⟩
 ·simp only [zBn] at hk
  split at hk
  ·rename_i e; exact h.ownlt k _ (ho.own k e)
  ·exact h.ownlt k l' hk
 ·rw [zOu γ r x l (by omega)]
  exact h.lent q hq
 ·simp only [AS.setRoot,AS.map,upd] at hp
  split at hp
  ·rename_i e
   subst e
   exact hrc c hp
  ·rename_i e
   exact ho.root l e (h.roots p c hp)
 ·simp only [AS.setRoot,AS.map,Option.map_map,Option.map_eq_some_iff] at hb
  obtain ⟨sv',k1,rfl⟩:=hb
  obtain ⟨cs,t,d1,d2,d3,d4,d5⟩:=h.boxes b sv' k1
  refine ⟨cs,t,d1,?_,d3,?_,d5⟩
  ·cases sv' with
   | one b' =>
    obtain ⟨v,e1,e2⟩:=d2
    exact ⟨v,ho.bv l b' v e1,e2⟩
   | tup bs=>exact d2
   | rcd bs=>exact ho.bvs l bs _ d2
  ·show (zBn γ r x l).own (γ.bx b)=_
   rw [ho.ne l (by rw [d4]; rcases ho.loc with e|e<;>rw [e]<;>simp)]
   exact d4
theorem Rel.rebox (h:Rel C γ s a w) {b:Nat} {sv:SV} (hb:bxRep C γ w b sv):Rel C γ (s.setBox b sv) a w:=by
 refine ⟨h.defers,h.keep,h.ownlt,h.lent,h.env,h.roots,fun q sv' hq=>?_⟩
 simp only [AS.setBox,upd] at hq
 split at hq
 ·rename_i e
  subst e
  simp only [Option.some.injEq] at hq
  subst hq
  exact hb
 ·exact h.boxes q sv' hq
theorem zE5:∀ (bs:List BV) (cs:List Value) (i:Nat) (b:BV),zAp C γ w bs cs→bs[i]?=some b→∃ v,cs[i]?=some v∧bvRep C γ w b v
 | [],_,_,_,_,h=>by simp at h
 | c::bs,_,0,b,⟨v,vs,rfl,h1,h2⟩,h=>by
  simp only [List.getElem?_cons_zero,Option.some.injEq] at h
  subst h
  exact ⟨v,rfl,h1⟩
 | c::bs,_,i+1,b,⟨v,vs,rfl,h1,h2⟩,h=>by
  simp only [List.getElem?_cons_succ] at h ⊢
  exact zE5 bs vs i b h2 h
def AS.reB (s:AS) (d r:Nat) (rc:Option RC) (b:Nat) (bs:List BV):AS:=(((s.map (zBM d)).map (killR r)).setRoot r rc).setBox b (.rcd bs)
theorem zIf {α:Type}:∀ (l:List α) (i:Nat) (x:α),l[i]?=some x→l.set i x=l
 | [],_,_,h=>by simp at h
 | y::l,0,x,h=>by simp only [List.getElem?_cons_zero,Option.some.injEq] at h; subst h; rfl
 | y::l,i+1,x,h=>by simp only [List.set_cons_succ]; rw [zIf l i x (by simpa using h)]
theorem zUP (h:Rel C γ s a w) {b off:Nat} {bs:List BV} {e:TypeId} {sh:Sh} {xs:List sh.T} (hb:s.boxes b=some (.rcd bs)) (hi:bs[off]?=some (.mk d e sh xs)) (hr:C.nl≤r) :
 ∃ γ',Rel C γ' (s.reB d r (some (.flat e sh xs)) b (((bs.map (zBM d)).map (killR r)).set off (.ref r))) a w:=by
 obtain ⟨cs,t,d1,d2,d3,d4,d5⟩:=h.boxes b _ hb
 obtain ⟨v,hv,hf,hown,hob⟩:=zE5 bs cs.toList off _ d2 hi
 obtain ⟨ad,cap,e0,_⟩:=zAO hown
 have hp:Passes γ d r ⟨ad,xs.length,cap⟩ (.mk d):=⟨fun k hk=>(hob k (by rw [e0]; exact hk)).1,.inl rfl⟩
 have hx:(⟨ad,xs.length,cap⟩:Sl).v=v:=e0.symm
 have h1:=hp.rel h hr (.hd r) (some (.flat e sh xs)) (fun c hc=>by
  simp only [Option.some.injEq] at hc
  subst hc
  refine ⟨hf,by rw [zI3,hx]; exact hown,fun k hk=>?_⟩
  rw [zI3] at hk
  exact ⟨by simp only [zBn]; rw [if_pos hk],(hob k (by rw [←hx]; exact hk)).2⟩)
 refine ⟨_,h1.rebox (b:=b) ?_⟩
 obtain ⟨cs',t',f1,f2,f3,f4,f5⟩:=h1.boxes b (.rcd ((bs.map (zBM d)).map (killR r))) (by simp only [AS.setRoot,AS.map,hb]; rfl)
 have e1:cs'=cs:=by
  have:=f1.symm.trans (show w.heap[(zBn γ r ⟨ad,xs.length,cap⟩ (.hd r)).bx b]?=_ from d1)
  simp only [Option.some.injEq,Obj.cells.injEq] at this
  exact this.1
 subst e1
 refine ⟨cs',t',f1,?_,f3,f4,f5⟩
 have:=zCR _ _ off (.ref r) v f2 (by simp only [bvRep]; rw [zI3,hx])
 rw [zIf _ _ _ hv] at this
 exact this
theorem zVO (h:Rel C γ s a w) {b off:Nat} {bs:List BV} {e:TypeId} {sh:Sh} {xs:List sh.T} (d:Nat) (hb:s.boxes b=some (.rcd bs)) (hi:bs[off]?=some (.ref r)) (hroot:s.roots r=some (.flat e sh xs)) (hr:C.nl≤r) :
 ∃ γ',Rel C γ' (s.reB d r none b (((bs.map (zBM d)).map (killR r)).set off (.mk d e sh xs))) a w:=by
 obtain ⟨cs,t,d1,d2,d3,d4,d5⟩:=h.boxes b _ hb
 obtain ⟨v,hv,hvr⟩:=zE5 bs cs.toList off _ d2 hi
 obtain ⟨hf,hown,hob⟩:=h.roots r _ hroot
 have hp:Passes γ d r (γ.hs r) (.hd r):=⟨fun k hk=>(hob k hk).1,.inr rfl⟩
 have hx:(γ.hs r).v=v:=hvr.symm
 have h1:=hp.rel h hr (.mk d) none (fun c hc=>by cases hc)
 refine ⟨_,h1.rebox (b:=b) ?_⟩
 obtain ⟨cs',t',f1,f2,f3,f4,f5⟩:=h1.boxes b (.rcd ((bs.map (zBM d)).map (killR r))) (by simp only [AS.setRoot,AS.map,hb]; rfl)
 have e1:cs'=cs:=by
  have:=f1.symm.trans (show w.heap[(zBn γ r (γ.hs r) (.mk d)).bx b]?=_ from d1)
  simp only [Option.some.injEq,Obj.cells.injEq] at this
  exact this.1
 subst e1
 refine ⟨cs',t',f1,?_,f3,f4,f5⟩
 have:=zCR _ _ off (.mk d e sh xs) v f2 ⟨hf,by rw [←hx]; exact hown,fun k hk=>?_⟩
 ·rw [zIf _ _ _ hv] at this
  exact this
 ·rw [←hx] at hk
  exact ⟨by simp only [zBn]; rw [if_pos hk],(hob k hk).2⟩
theorem zNk {N:Nat} {Q:Exit→AS→Prop} {c:Code} (b off r:Nat) {bs:List BV} {e:TypeId} {sh:Sh} {xs:List sh.T} (hb:s.boxes b=some (.rcd bs)) (hi:bs[off]?=some (.mk d e sh xs)) (hr:C.nl≤r)
 (h:tri C N c Q (s.reB d r (some (.flat e sh xs)) b (((bs.map (zBM d)).map (killR r)).set off (.ref r)))):tri C N c Q s:=by
 refine ⟨fun γ a w hR hN=>?_⟩
 obtain ⟨γ',hR'⟩:=zUP hR hb hi hr
 exact h.run γ' a w hR' hN
theorem zQi {N:Nat} {Q:Exit→AS→Prop} {c:Code} (d b off r:Nat) {bs:List BV} {e:TypeId} {sh:Sh} {xs:List sh.T} (hb:s.boxes b=some (.rcd bs)) (hi:bs[off]?=some (.ref r)) (hroot:s.roots r=some (.flat e sh xs)) (hr:C.nl≤r)
 (h:tri C N c Q (s.reB d r none b (((bs.map (zBM d)).map (killR r)).set off (.mk d e sh xs)))):tri C N c Q s:=by
 refine ⟨fun γ a w hR hN=>?_⟩
 obtain ⟨γ',hR'⟩:=zVO hR d hb hi hroot hr
 exact h.run γ' a w hR' hN
theorem zQl (h:Rel C γ s a w) {b off:Nat} {bs:List BV} (hb:s.boxes b=some (.rcd bs)) (hoff:off<bs.length) (u:Value) (hu:u.oneCell'=true):Rel C γ (s.setBox b (.rcd (bs.set off (.raw u)))) a (w.setCell ⟨γ.bx b,off,none⟩ u):=by
 obtain ⟨cs,t,d1,d2,d3,d4,d5⟩:=h.boxes b _ hb
 have hlen:=zA0 bs cs.toList d2
 rw [Array.length_toList] at hlen
 have e1:w.setCell ⟨γ.bx b,off,none⟩ u=w.setRow (γ.bx b) (cs.setIfInBounds off u):=setCell_eq_setRow w (γ.bx b) off cs t (0,0) u d1
 rw [e1]
 have hw:Write C γ w (w.setRow (γ.bx b) (cs.setIfInBounds off u)) (γ.bx b) (.bx b):=⟨d4,d5,zHU w,fun _=>by simp⟩
 refine h.boxed hw ⟨_,t,setRow_heap w _ cs _ t _ d1,?_,?_,d4,d5⟩
 ·show zAp C γ _ _ (cs.setIfInBounds off u).toList
  rw [Array.toList_setIfInBounds]
  exact zCR bs _ off (.raw u) u (zAF hw.sub bs _ (fun _ _=>Agree.refl γ _) d2) rfl
 ·intro v hv
  rw [Array.toList_setIfInBounds] at hv
  rcases List.mem_or_eq_of_mem_set hv with h6|h6
  ·exact d3 v h6
  ·rw [h6]; exact hu
theorem zU4 (h:Rel C γ s a w) {b off:Nat} {bs:List BV} {u:Value} (hb:s.boxes b=some (.rcd bs)) (hi:bs[off]?=some (.raw u)):w.cell? ⟨γ.bx b,off,none⟩=some u∧w.frozen? ⟨γ.bx b,off,none⟩=false:=by
 obtain ⟨cs,t,d1,d2,d3,d4,d5⟩:=h.boxes b _ hb
 obtain ⟨v,hv,hvr⟩:=zE5 bs cs.toList off _ d2 hi
 simp only [bvRep] at hvr
 subst hvr
 exact ⟨by simp [World.cell?,d1]; simpa using hv,by simp [World.frozen?,d1]⟩
def Ctx.dsd (C:Ctx) (D:List Deferred):Ctx:={C with ds:=D}
theorem zKR (D:List Deferred) (b:BV) (v:Value):bvRep (C.dsd D) γ w b v=bvRep C γ w b v:=by cases b<;>rfl
theorem zE6 (D:List Deferred):∀ (bs:List BV) (vs:List Value),zAp (C.dsd D) γ w bs vs=zAp C γ w bs vs
 | [],_=>rfl
 | b::bs,vs=>by simp only [zAp,zKR,zE6 D bs]
theorem zWR (D:List Deferred) (sv:SV) (v:Value):svRep (C.dsd D) γ w sv v=svRep C γ w sv v:=by
 cases sv with
 | one b=>exact zKR D b v
 | tup bs=>simp only [svRep,zE6]
 | rcd bs=>simp only [svRep,zE6]
theorem zLt (D:List Deferred) (r:Nat) (rc:RC):rcRep (C.dsd D) γ w r rc=rcRep C γ w r rc:=by
 cases rc with
 | rags e s xss=>simp only [rcRep,zE6]; rfl
 | _=>rfl
theorem zNG (D:List Deferred) (sv:SV) (cs:List Value):zBb (C.dsd D) γ w sv cs=zBb C γ w sv cs:=by
 cases sv with
 | one b=>simp only [zBb,zKR]
 | tup bs=>rfl
 | rcd bs=>exact zE6 D bs cs
theorem zKS (D:List Deferred) (b:Nat) (sv:SV):bxRep (C.dsd D) γ w b sv=bxRep C γ w b sv:=by
 simp only [bxRep,zNG]
 rfl
theorem zSX (h:Rel C γ s a w) (D:List Deferred):Rel (C.dsd D) γ s {a with defers:=D} w :=
 ⟨⟨rfl,⟨h.defers.2.gd,h.defers.2.off⟩⟩,h.keep,h.ownlt,h.lent,fun i=>by rw [zWR]; exact h.env i,fun r rc hr=>by rw [zLt]; exact h.roots r rc hr,fun b sv hb=>by rw [zKS]; exact h.boxes b sv hb⟩
end
end Go.VS
namespace Go.VS
open Go.RowKit Go.Deep Go.ChangeShapes Go.WideShapes
def zEZ (T:Tab):Nat→List (Nat×Nat)→Sh→Bool
 | o,[q],s=>q.1 == o && decide (T.lang.sh q.2=some s)
 | o,q::l,.prod a b=>q.1 == o && decide (T.lang.sh q.2=some a) && zEZ T (o+a.size) l b
 | _,_,_=>false
def zHr (T:Tab):List (Nat×Nat)→Sh→Bool
 | [q],.prod a .unit=>q.1 == 0 && decide (T.lang.sh q.2=some a)
 | [_],_=>false
 | [],_=>false
 | l,s=>zEZ T 0 l s
def Tab.partsOK (T:Tab):Bool:=T.sh.all fun p=>match p.2 with
 | .prod _ _=>match lk none (T.fld.map fun q=>(q.1,some q.2)) p.1 with
  | some l=>zHr T l p.2
  | none=>false
 | .unit=>false
 | _=>true
section
variable {H:Type} {enc:TypeId×Value→H} {P:Program} {w:World} {base:Nat} {spare:Nat→Bool} {held:Bool} {T:Tab}
theorem zGv (h:TabOK P T) {t:Nat} {s:Sh} (ht:T.lang.sh t=some s):P.cellsOf t=s.size:=by
 obtain ⟨i,z,h1,h2,_⟩:=h.lang.info t s ht
 unfold Program.cellsOf
 rw [h1]
 exact h2
def Opens (enc:TypeId×Value→H) (P:Program) (w:World) (base:Nat) (spare:Nat→Bool) (held:Bool) (T:Tab) (s:Sh):Prop :=
 ∀ (fuel t:Nat) (cs:List Value) (x:DataW H×List MemPlace),T.lang.sh t=some s→DataW.trod enc P w base spare held fuel t cs=some x→∃ y:s.T,pers w (fun _=>True) s y cs
def zFB (enc:TypeId×Value→H) (P:Program) (w:World) (base:Nat) (spare:Nat→Bool) (held:Bool) (T:Tab) (s:Sh):Prop :=
 ∀ (fuel o:Nat) (l:List (Nat×Nat)) (cs:List Value),zEZ T o l s=true→2≤l.length→(∀ q∈l,∃ x,DataW.trod enc P w base spare held fuel q.2 ((cs.drop q.1).take (P.cellsOf q.2))=some x) →
  ∃ y:s.T,pers w (fun _=>True) s y ((cs.drop o).take s.size)
theorem zMF (h:TabOK P T) (hp:T.partsOK=true) {a b:Sh} (ha:Opens enc P w base spare held T a) (hb:Opens enc P w base spare held T b) (hb2:zFB enc P w base spare held T b) :
 Opens enc P w base spare held T (.prod a b)∧zFB enc P w base spare held T (.prod a b):=by
 have parts:zFB enc P w base spare held T (.prod a b):=by
  intro fuel o l cs hB hl hx
  have step:∀ (q:Nat×Nat),q.1=o→T.lang.sh q.2=some a→(∃ x,DataW.trod enc P w base spare held fuel q.2 ((cs.drop q.1).take (P.cellsOf q.2))=some x)→∃ y:a.T,pers w (fun _=>True) a y ((cs.drop o).take a.size):=by
   rintro q rfl hq ⟨x,hx⟩
   rw [zGv h hq] at hx
   exact ha fuel q.2 _ x hq hx
  match l,hl,hB,hx with
  | [q,q'],_,hB,hx =>
   simp only [zEZ,Bool.and_eq_true,beq_iff_eq,decide_eq_true_eq] at hB
   obtain ⟨⟨h1,h2⟩,h3,h4⟩:=hB
   obtain ⟨y1,k1⟩:=step q h1 h2 (hx q (by simp))
   obtain ⟨x,hx'⟩:=hx q' (by simp)
   rw [zGv h h4] at hx'
   obtain ⟨y2,k2⟩:=hb fuel q'.2 _ x h4 hx'
   refine ⟨(y1,y2),_,_,?_,k1,k2⟩
   rw [h3,Sh.size,List.take_add,List.drop_drop]
  | q::q'::q''::l,_,hB,hx =>
   simp only [zEZ,Bool.and_eq_true,beq_iff_eq,decide_eq_true_eq] at hB
   obtain ⟨⟨h1,h2⟩,h3⟩:=hB
   obtain ⟨y1,k1⟩:=step q h1 h2 (hx q (by simp))
   obtain ⟨y2,k2⟩:=hb2 fuel (o+a.size) (q'::q''::l) cs h3 (by simp) (fun p hp=>hx p (List.mem_cons_of_mem _ hp))
   refine ⟨(y1,y2),_,_,?_,k1,k2⟩
   rw [Sh.size,List.take_add,List.drop_drop]
 refine ⟨?_,parts⟩
 intro fuel t cs x ht hx
 have h1:=List.all_eq_true.1 hp _ (zGU ht)
 simp only at h1
 cases hl:lk none (T.fld.map fun q=>(q.1,some q.2)) t with
 | none=>rw [hl] at h1; cases h1
 | some l =>
  rw [hl] at h1
  simp only at h1
  obtain ⟨l',hm,rfl⟩:=zEn (g:=fun x:List (Nat×Nat)=>x) hl
  have hE:=zA5 h.fldE _ hm
  simp only at hE
  split at hE
  ·rename_i fs hu
   obtain ⟨xs,n,rfl,_,hlen,hxl,hall⟩:=DataW.trod_struct hu hx
   have hmem:∀ q∈l,∃ x,DataW.trod enc P w base spare held n q.2 ((cs.drop q.1).take (P.cellsOf q.2))=some x:=by
    intro q hq
    obtain ⟨j,hj⟩:=List.mem_iff_getElem?.1 hq
    have h2:=congrArg (fun z=>z[j]?) hE
    simp only [List.getElem?_map,hj,Option.map_some] at h2
    cases hf:fs.toList[j]? with
    | none=>rw [hf] at h2; simp at h2
    | some fld =>
     rw [hf] at h2
     simp only [Option.map_some,Option.some.injEq,Prod.mk.injEq] at h2
     obtain ⟨e1,e2,_⟩:=h2
     have hf':fs[j]?=some fld:=by simpa using hf
     have h3:=hall j fld hf'
     have hjl:j<xs.length:=by rw [hxl]; exact (Array.getElem?_eq_some_iff.1 hf').1
     rw [List.getElem?_eq_getElem hjl,e1,e2] at h3
     exact ⟨_,h3⟩
   rw [zGv h ht] at hlen
   match l,h1,hmem with
   | [],h1,_=>simp [zHr] at h1
   | [q],h1,hmem =>
    cases b with
    | unit =>
     simp only [zHr,Bool.and_eq_true,beq_iff_eq,decide_eq_true_eq] at h1
     obtain ⟨x',hx'⟩:=hmem q (by simp)
     rw [zGv h h1.2,h1.1] at hx'
     obtain ⟨y,k⟩:=ha n q.2 _ x' h1.2 hx'
     refine ⟨(y,()),_,[],?_,k,rfl⟩
     have:cs.length=a.size:=by rw [hlen]; simp [Sh.size]
     rw [List.append_nil,List.drop_zero,List.take_of_length_le (by omega)]
    | _=>simp [zHr] at h1
   | q::q'::l,h1,hmem =>
    obtain ⟨y,k⟩:=parts n 0 (q::q'::l) cs (by simpa [zHr] using h1) (by simp) hmem
    rw [List.drop_zero,List.take_of_length_le (by omega)] at k
    exact ⟨y,k⟩
  ·have:l=[]:=by simpa using hE.symm
   subst this
   simp [zHr] at h1
def _root_.Go.VS.Sh.opn:Sh→Bool
 | .err _=>false
 | .smap=>false
 | .prod a b=>a.opn && b.opn
 | .sl a=>a.opn
 | _=>true
theorem opens (h:TabOK P T) (hp:T.partsOK=true):∀ s:Sh,s.opn=true→Opens enc P w base spare held T s∧zFB enc P w base spare held T s
 | .err _,ho=>by simp [Sh.opn] at ho
 | .smap,ho=>by simp [Sh.opn] at ho
 | .uint,_=>by
  refine ⟨fun fuel t cs x ht hx=>?_,fun fuel o l cs hB hl _=>?_⟩
  ·obtain ⟨n,rfl,_,hw⟩:=DataW.trod_int (h.lang.uint t ht) hx
   simp only [Lit.wf,Bool.and_eq_true,decide_eq_true_eq,IntKind.min,IntKind.signed] at hw
   refine ⟨n.toNat,?_⟩
   have h0:0≤n:=by simpa using hw.1
   simp only [pers]
   rw [Int.toNat_of_nonneg h0]
  ·match l,hl with
   | _::_::_,_=>simp [zEZ] at hB
 | .int,_=>by
  refine ⟨fun fuel t cs x ht hx=>?_,fun fuel o l cs hB hl _=>?_⟩
  ·obtain ⟨n,rfl,_⟩:=DataW.trod_int (h.lang.int t ht) hx
   exact ⟨n,rfl⟩
  ·match l,hl with
   | _::_::_,_=>simp [zEZ] at hB
 | .byte,_=>by
  refine ⟨fun fuel t cs x ht hx=>?_,fun fuel o l cs hB hl _=>?_⟩
  ·obtain ⟨n,rfl,_,hw⟩:=DataW.trod_int (h.lang.byte t ht) hx
   simp only [Lit.wf,Bool.and_eq_true,decide_eq_true_eq,IntKind.min,IntKind.signed] at hw
   refine ⟨n.toNat,?_⟩
   have h0:0≤n:=by simpa using hw.1
   simp only [pers]
   rw [Int.toNat_of_nonneg h0]
  ·match l,hl with
   | _::_::_,_=>simp [zEZ] at hB
 | .bool,_=>by
  refine ⟨fun fuel t cs x ht hx=>?_,fun fuel o l cs hB hl _=>?_⟩
  ·obtain ⟨n,rfl,_⟩:=DataW.trod_bool (h.lang.bool t ht) hx
   exact ⟨n,rfl⟩
  ·match l,hl with
   | _::_::_,_=>simp [zEZ] at hB
 | .str,_=>by
  refine ⟨fun fuel t cs x ht hx=>?_,fun fuel o l cs hB hl _=>?_⟩
  ·obtain ⟨n,rfl,_⟩:=DataW.trod_string (h.lang.str t ht) hx
   exact ⟨n,rfl⟩
  ·match l,hl with
   | _::_::_,_=>simp [zEZ] at hB
 | .unit,_=>by
  refine ⟨fun fuel t cs x ht hx=>?_,fun fuel o l cs hB hl _=>?_⟩
  ·have h1:=List.all_eq_true.1 hp _ (zGU ht)
   simp at h1
  ·match l,hl with
   | _::_::_,_=>simp [zEZ] at hB
 | .prod a b,ho=>by
  simp only [Sh.opn,Bool.and_eq_true] at ho
  exact zMF h hp (opens h hp a ho.1).1 (opens h hp b ho.2).1 (opens h hp b ho.2).2
 | .sl a,ho=>by
  replace ho:a.opn=true:=ho
  refine ⟨fun fuel t cs x ht hx=>?_,fun fuel o l cs hB hl _=>?_⟩
  ·obtain ⟨hu,he,hpos,_⟩:=h.lang.sl t a ht
   rcases open_slice hu hx with ⟨rfl,_⟩|⟨ad,len,cap,m,n,D,Pl,rfl,hb,hl,hm,hmm,rfl,hel⟩
   ·exact ⟨[],none,0,rfl,Nat.le_refl _,Nat.zero_le _,fun i hi=>by simp at hi⟩
   ·have hlm:len≤m:=by rw [hmm]; split<;>omega
    have each:∀ i,i<len→∃ z:a.T×List Value,pers w (fun _=>True) a z.1 z.2∧∀ j,j<a.size→w.cell? ((ad.add (i*a.size)).add j)=z.2[j]?:=by
     intro i hi
     obtain ⟨cs',h1,h2⟩:=hel i (by omega)
     rw [zGv h he] at h1
     obtain ⟨_,hlen,hcell⟩:=World.cells?_some h1
     obtain ⟨y,hy⟩:=(opens h hp a ho).1 n _ cs' _ he h2
     exact ⟨(y,cs'),hy,hcell⟩
    have inh:Inhabited (a.T×List Value):=⟨(a.zero,[])⟩
    obtain ⟨z,hz⟩:=choose_lt each
    refine ⟨(List.range len).map fun i=>(z i).1,some ad,cap,by simp,by simpa using hl,hm,fun i hi=>?_⟩
    have hi':i<len:=by simpa using hi
    obtain ⟨k1,k2⟩:=hz i hi'
    have hzl:=zB5 a _ _ k1
    have hc0:=k2 0 hpos
    rw [add_add,List.getElem?_eq_getElem (by omega)] at hc0
    obtain ⟨b,off,spot⟩:=ad
    have hspot:spot=none:=by
     obtain ⟨m1,m2⟩:=hz 0 (by omega)
     have hz0:=zB5 a _ _ m1
     have m3:=m2 0 hpos
     rw [add_add,List.getElem?_eq_getElem (by omega)] at m3
     simpa [Addr.add] using World.cell?_spot m3
    subst hspot
    rw [Addr.add_lit] at hc0
    have hblt:b<w.heap.size:=by
     rcases Nat.lt_or_ge b w.heap.size with h1|h1
     ·exact h1
     ·have:w.heap[b]?=none:=Array.getElem?_eq_none h1
      simp [World.cell?,this] at hc0
    refine ⟨b,off,(z i).2,rfl,trivial,hblt,by simpa using k1,fun j v hj=>?_⟩
    have hjl:j<a.size:=by
     have:=(List.getElem?_eq_some_iff.1 hj).1
     omega
    have:=k2 j hjl
    rw [add_add,Addr.add_lit,hj] at this
    exact this
  ·match l,hl with
   | _::_::_,_=>simp [zEZ] at hB
theorem zBg (h:TabOK P T) (hp:T.partsOK=true) {r:Reach} {b0:Nat} {t:Nat} {s:Sh} {v:Value} {d:DataW H} {ps:List MemPlace} (ht:T.lang.sh t=some s) (hval:Value.okWide P w r b0 t v) (hx:DataW.Trod enc P w base spare held t v d ps) (ho:s.opn=true:=by rfl) :
 ∃ y:s.T,vrep w (fun _=>True) s y v:=by
 obtain ⟨fuel,hf⟩:=hx
 obtain ⟨y,k⟩:=(opens h hp s ho).1 fuel t _ _ ht hf
 refine ⟨y,_,k,?_⟩
 cases s with
 | unit =>
  have h1:=List.all_eq_true.1 hp _ (zGU ht)
  simp at h1
 | prod a b =>
  obtain ⟨d',h1,h2⟩:=h.lang.agg t _ ht
  unfold Value.okWide at hval
  rw [h1] at hval
  cases d'<;>simp [aggB,Sh.agg] at h2
  all_goals
   obtain ⟨cs,rfl,_⟩:=hval
   simp [pack,Sh.agg,Value.cells]
 | int =>
  obtain ⟨n,rfl,_⟩:=open_int (h.lang.int t ht) hval ⟨fuel,hf⟩
  rfl
 | byte =>
  obtain ⟨n,rfl,_⟩:=open_int (h.lang.byte t ht) hval ⟨fuel,hf⟩
  rfl
 | uint =>
  obtain ⟨n,rfl,_⟩:=open_int (h.lang.uint t ht) hval ⟨fuel,hf⟩
  rfl
 | err u=>simp [Sh.opn] at ho
 | smap=>simp [Sh.opn] at ho
 | bool =>
  obtain ⟨n,rfl,_⟩:=open_bool (h.lang.bool t ht) hval ⟨fuel,hf⟩
  rfl
 | str =>
  obtain ⟨n,rfl,_⟩:=Go.ChangeMaps.open_string (h.lang.str t ht) hval ⟨fuel,hf⟩
  rfl
 | sl a =>
  obtain ⟨a0,len,cap,rfl⟩:=okWide_slice (h.lang.sl t a ht).1 hval
  rfl
end
end Go.VS
namespace Go.BF
structure St where
 d:Nat→Int
 fr:Nat→Int
structure Ed where
 u:Nat
 v:Nat
 c:Int
def upF {α:Type} (f:Nat→α) (i:Nat) (x:α):Nat→α:=fun j=>if j=i then x else f j
def rlx (F:Int) (s:St) (e:Ed):St:=if s.d e.u<F∧s.d e.u+e.c<s.d e.v then ⟨upF s.d e.v (s.d e.u+e.c),upF s.fr e.v (e.u:Int)⟩ else s
def sweep (F:Int) (es:List Ed) (s:St):St:=es.foldl (rlx F) s
def sweeps (F:Int) (es:List Ed):Nat→St→St
 | 0,s=>s
 | n+1,s=>sweep F es (sweeps F es n s)
theorem zXs (F:Int) (s:St) (e:Ed) (v:Nat):(rlx F s e).d v≤s.d v:=by
 unfold rlx
 split
 ·rename_i h
  simp only [upF]
  split
  ·rename_i hv; subst hv; omega
  ·exact Int.le_refl _
 ·exact Int.le_refl _
theorem zH8 (F:Int):∀ (es:List Ed) (s:St) (v:Nat),(es.foldl (rlx F) s).d v≤s.d v
 | [],_,_=>Int.le_refl _
 | e::es,s,v=>Int.le_trans (zH8 F es (rlx F s e) v) (zXs F s e v)
section
variable {F:Int} {es:List Ed} {p:Nat→Int} {N:Nat}
structure Inv (F:Int) (es:List Ed) (p:Nat→Int) (N:Nat) (S:Nat→Bool) (s:St):Prop where
 out:∀ e∈es,S e.u=true→s.d e.v≤s.d e.u+e.c
 low:∀ v u,v<N→u<N→S v=true→S u=false→s.d u<F→s.d v - p v≤s.d u - p u
def Rest (F:Int) (es:List Ed) (s:St):Prop:=∀ e∈es,s.d e.u<F→s.d e.v≤s.d e.u+e.c
theorem zWJ {s:St} {e:Ed} (h:s.d e.u<F→s.d e.v≤s.d e.u+e.c):rlx F s e=s:=by
 unfold rlx
 rw [if_neg]
 rintro ⟨h1,h2⟩
 have:=h h1
 omega
theorem zJV {s:St}:∀ (l:List Ed),(∀ e∈l,s.d e.u<F→s.d e.v≤s.d e.u+e.c)→l.foldl (rlx F) s=s
 | [],_=>rfl
 | e::l,h=>by
  rw [List.foldl_cons,zWJ (h e (List.mem_cons_self ..))]
  exact zJV l fun e' he'=>h e' (List.mem_cons_of_mem _ he')
theorem Rest.swp {s:St} (h:Rest F es s):sweep F es s=s:=zJV es h
structure Mid (F:Int) (es:List Ed) (p:Nat→Int) (N:Nat) (S:Nat→Bool) (t:Nat) (s0 s:St):Prop where
 same:∀ v,v<N→S v=true∨v=t→s.d v=s0.d v
 high:∀ u,u<N→S u=false→s.d u<F→s0.d t - p t≤s.d u - p u
 le:∀ v,s.d v≤s0.d v
theorem Mid.step {S:Nat→Bool} {t:Nat} {s0 s:St} (hp:∀ e∈es,p e.v≤p e.u+e.c) (hN:∀ e∈es,e.u<N∧e.v<N) (ht:t<N) (htF:s0.d t<F) (hst:S t=false) (h0:Inv F es p N S s0) (h:Mid F es p N S t s0 s) {e:Ed} (he:e∈es) :
 Mid F es p N S t s0 (rlx F s e):=by
 obtain ⟨h1,h2,h3⟩:=h
 obtain ⟨n1,n2⟩:=hN e he
 have hpe:=hp e he
 by_cases hc:s.d e.u<F∧s.d e.u+e.c<s.d e.v
 ·have hu:S e.u=false:=by
   cases hS:S e.u with
   | false=>rfl
   | true =>
    have h4:=h0.out e he hS
    have h5:=h1 e.u n1 (.inl hS)
    have h6:=h3 e.v
    omega
  have hm:=h2 e.u n1 hu hc.1
  have hv:¬(S e.v=true∨e.v=t):=by
   intro hv
   have h5:=h1 e.v n2 hv
   have h7:s0.d e.v - p e.v≤s0.d t - p t:=by
    rcases hv with hv|hv
    ·exact h0.low e.v t n2 ht hv hst htF
    ·rw [hv]; exact Int.le_refl _
   omega
  have hr:rlx F s e=⟨upF s.d e.v (s.d e.u+e.c),upF s.fr e.v (e.u:Int)⟩:=if_pos hc
  rw [hr]
  refine ⟨fun v hvN hv'=>?_,fun u huN hu' huF=>?_,fun v=>?_⟩
  ·have:v≠e.v:=fun e1=>hv (e1 ▸ hv')
   simp only [upF]
   rw [if_neg this]
   exact h1 v hvN hv'
  ·simp only [upF] at huF ⊢
   split
   ·rename_i e1; subst e1; omega
   ·rename_i e1
    rw [if_neg e1] at huF
    exact h2 u huN hu' huF
  ·simp only [upF]
   split
   ·rename_i e1; subst e1; have:=h3 e.v; omega
   ·exact h3 v
 ·have hr:rlx F s e=s:=if_neg hc
  rw [hr]
  exact ⟨h1,h2,h3⟩
theorem Mid.fold {S:Nat→Bool} {t:Nat} {s0:St} (hp:∀ e∈es,p e.v≤p e.u+e.c) (hN:∀ e∈es,e.u<N∧e.v<N) (ht:t<N) (htF:s0.d t<F) (hst:S t=false) (h0:Inv F es p N S s0) :
 ∀ (l:List Ed) (s:St),(∀ e∈l,e∈es)→Mid F es p N S t s0 s→Mid F es p N S t s0 (l.foldl (rlx F) s)∧∀ e∈l,e.u=t→(l.foldl (rlx F) s).d e.v≤s0.d t+e.c
 | [],_,_,h=>⟨h,fun _ he=>by cases he⟩
 | e::l,s,hl,h=>by
  have h':=h.step hp hN ht htF hst h0 (hl e (List.mem_cons_self ..))
  obtain ⟨k1,k2⟩:=Mid.fold hp hN ht htF hst h0 l (rlx F s e) (fun e' he'=>hl e' (List.mem_cons_of_mem _ he')) h'
  refine ⟨k1,fun e' he' hu=>?_⟩
  rcases List.mem_cons.1 he' with rfl|he'
  ·have h4:=zH8 F l (rlx F s e') e'.v
   have h5:=h.same t ht (.inr rfl)
   have h6:(rlx F s e').d e'.v≤s0.d t+e'.c:=by
    unfold rlx
    split
    ·simp only [upF,if_true,hu,h5]; exact Int.le_refl _
    ·rename_i hc
     rw [hu,h5] at hc
     omega
   exact Int.le_trans h4 h6
  ·exact k2 e' he' hu
theorem zJR (f:Nat→Int) (q:Nat→Bool):∀ n:Nat,(∃ u,u<n∧q u=true)→∃ t,t<n∧q t=true∧∀ u,u<n→q u=true→f t≤f u
 | 0,h=>by obtain ⟨u,hu,_⟩:=h; omega
 | n+1,h=>by
  by_cases hn:∃ u,u<n∧q u=true
  ·obtain ⟨t,h1,h2,h3⟩:=zJR f q n hn
   by_cases hq:q n=true∧f n<f t
   ·refine ⟨n,by omega,hq.1,fun u hu hqu=>?_⟩
    rcases Nat.lt_or_ge u n with hlt|hge
    ·have:=h3 u hlt hqu; omega
    ·have:u=n:=by omega
     subst this; exact Int.le_refl _
   ·refine ⟨t,by omega,h2,fun u hu hqu=>?_⟩
    rcases Nat.lt_or_ge u n with hlt|hge
    ·exact h3 u hlt hqu
    ·have:u=n:=by omega
     subst this
     by_cases hf:f u<f t
     ·exact absurd ⟨hqu,hf⟩ hq
     ·omega
  ·obtain ⟨u,hu,hqu⟩:=h
   have:u=n:=by
    rcases Nat.lt_or_ge u n with hlt|hge
    ·exact absurd ⟨u,hlt,hqu⟩ hn
    ·omega
   subst this
   refine ⟨u,hu,hqu,fun x hx hqx=>?_⟩
   rcases Nat.lt_or_ge x u with hlt|hge
   ·exact absurd ⟨x,hlt,hqx⟩ hn
   ·have:x=u:=by omega
    subst this; exact Int.le_refl _
theorem zPo {q q':Nat→Bool} {t:Nat} (hi:∀ x,q' x=true→q x=true) (h1:q t=true) (h2:q' t=false):∀ n:Nat,((List.range n).countP q'≤(List.range n).countP q)∧(t<n→(List.range n).countP q'+1≤(List.range n).countP q)
 | 0=>⟨by simp,fun h=>by omega⟩
 | n+1=>by
  obtain ⟨k1,k2⟩:=zPo hi h1 h2 n
  rw [List.range_succ,List.countP_append,List.countP_append,List.countP_singleton,List.countP_singleton]
  have h3:(if q' n=true then 1 else 0)≤(if q n=true then 1 else 0):=by
   cases hq:q' n with
   | false=>simp
   | true=>simp [hi n hq]
  refine ⟨by omega,fun ht=>?_⟩
  rcases Nat.lt_or_ge t n with hlt|hge
  ·have:=k2 hlt; omega
  ·have:t=n:=by omega
   subst this
   simp only [h1,h2,if_true]
   simp
   omega
theorem Inv.swp {S:Nat→Bool} {s:St} (hp:∀ e∈es,p e.v≤p e.u+e.c) (hN:∀ e∈es,e.u<N∧e.v<N) (h:Inv F es p N S s) :
 Rest F es s∨∃ S',Inv F es p N S' (sweep F es s)∧(List.range N).countP (fun v=>!S' v)+1≤(List.range N).countP (fun v=>!S v):=by
 by_cases hu:∃ u,u<N∧(!S u && decide (s.d u<F))=true
 ·obtain ⟨t,h1,h2,h3⟩:=zJR (fun u=>s.d u - p u) _ N hu
  simp only [Bool.and_eq_true,Bool.not_eq_true',decide_eq_true_eq] at h2 h3
  right
  obtain ⟨k1,k2⟩:=Mid.fold hp hN h1 h2.2 h2.1 h es s (fun _ he=>he) ⟨fun _ _ _=>rfl,fun u huN hu' huF=>h3 u huN ⟨hu',huF⟩,fun _=>Int.le_refl _⟩
  refine ⟨fun v=>S v || decide (v=t),⟨fun e he hS=>?_,fun v u hv hu' hS hSu huF=>?_⟩,?_⟩
  ·show (sweep F es s).d e.v≤(sweep F es s).d e.u+e.c
   simp only [Bool.or_eq_true,decide_eq_true_eq] at hS
   have h4:(sweep F es s).d e.u=s.d e.u:=k1.same e.u (hN e he).1 hS
   rw [h4]
   by_cases ht:e.u=t
   ·rw [ht]; exact k2 e he ht
   ·have h5:=h.out e he (hS.resolve_right ht)
    have h6:(sweep F es s).d e.v≤s.d e.v:=zH8 F es s e.v
    omega
  ·simp only [Bool.or_eq_true,decide_eq_true_eq,Bool.or_eq_false_iff,decide_eq_false_iff_not] at hS hSu
   have h4:(sweep F es s).d v=s.d v:=k1.same v hv hS
   have h5:s.d t - p t≤(sweep F es s).d u - p u:=k1.high u hu' hSu.1 huF
   rw [h4]
   have h6:s.d v - p v≤s.d t - p t:=by
    rcases hS with hS|hS
    ·exact h.low v t hv h1 hS h2.1 h2.2
    ·rw [hS]; exact Int.le_refl _
   omega
  ·refine (zPo (t:=t) (fun x hx=>?_) ?_ ?_ N).2 h1
   ·simp only [Bool.not_eq_true',Bool.or_eq_false_iff] at hx ⊢
    exact hx.1
   ·simp [h2.1]
   ·simp
 ·left
  intro e he hF
  have hS:S e.u=true:=by
   cases hS:S e.u with
   | true=>rfl
   | false=>exact absurd ⟨e.u,(hN e he).1,by simp [hS,hF]⟩ hu
  exact h.out e he hS
theorem zI6 (s:St) (hp:∀ e∈es,p e.v≤p e.u+e.c) (hN:∀ e∈es,e.u<N∧e.v<N):Rest F es (sweeps F es N s):=by
 have key:∀ k,Rest F es (sweeps F es k s)∨∃ S,Inv F es p N S (sweeps F es k s)∧(List.range N).countP (fun v=>!S v)+k≤N:=by
  intro k
  induction k with
  | zero=>exact .inr ⟨fun _=>false,⟨fun _ _ h=>Bool.noConfusion h,fun _ _ _ _ h=>Bool.noConfusion h⟩,by simp⟩
  | succ k ih =>
   rcases ih with ih|⟨S,h1,h2⟩
   ·left
    show Rest F es (sweep F es (sweeps F es k s))
    rw [ih.swp]; exact ih
   ·rcases h1.swp hp hN with h3|⟨S',h3,h4⟩
    ·left
     show Rest F es (sweep F es (sweeps F es k s))
     rw [h3.swp]; exact h3
    ·exact .inr ⟨S',h3,by omega⟩
 rcases key N with h|⟨S,h1,h2⟩
 ·exact h
 ·intro e he _
  refine h1.out e he ?_
  have h3:(List.range N).countP (fun v=>!S v)=0:=by omega
  rw [List.countP_eq_zero] at h3
  have:=h3 e.u (List.mem_range.2 (hN e he).1)
  simpa using this
inductive Chain (F:Int) (s:St):Nat→Nat→Prop where
 | zero {v:Nat}:s.d v<F→s.fr v = -1→Chain F s 0 v
 | succ {k v u:Nat}:s.d v<F→s.fr v=(u:Int)→Chain F s k u→Chain F s (k+1) v
structure Way (F:Int) (es:List Ed) (s:St):Prop where
 chain:∀ v,s.d v<F→∃ k,Chain F s k v
 tight:∀ v u:Nat,s.d v<F→s.fr v=(u:Int)→∃ e∈es,e.u=u∧e.v=v∧s.d u<F∧s.d u+e.c≤s.d v
theorem Way.rlx {s:St} (hp:∀ e∈es,p e.v≤p e.u+e.c) (h:Way F es s) (hF:∀ v,s.d v≤F) {e:Ed} (he:e∈es):Way F es (rlx F s e):=by
 by_cases hc:s.d e.u<F∧s.d e.u+e.c<s.d e.v
 ·have hr:BF.rlx F s e=⟨upF s.d e.v (s.d e.u+e.c),upF s.fr e.v (e.u:Int)⟩:=if_pos hc
  rw [hr]
  have hpe:=hp e he
  have hne:e.u≠e.v:=fun e1=>by rw [e1] at hc hpe; omega
  have hd:∀ y,y≠e.v→upF s.d e.v (s.d e.u+e.c) y=s.d y:=fun y hy=>if_neg hy
  have hf:∀ y,y≠e.v→upF s.fr e.v (e.u:Int) y=s.fr y:=fun y hy=>if_neg hy
  have hdv:upF s.d e.v (s.d e.u+e.c) e.v=s.d e.u+e.c:=if_pos rfl
  have hfv:upF s.fr e.v (e.u:Int) e.v=(e.u:Int):=if_pos rfl
  have up:∀ k y,Chain F s k y→s.d y - p y≤s.d e.u - p e.u→Chain F ⟨upF s.d e.v (s.d e.u+e.c),upF s.fr e.v (e.u:Int)⟩ k y:=by
   intro k y hch
   induction hch with
   | zero h1 h2 =>
    rename_i y
    intro hy
    have hyv:y≠e.v:=fun e1=>by subst e1; omega
    exact .zero (by show upF s.d e.v _ y<F; rw [hd y hyv]; exact h1) (by show upF s.fr e.v _ y = -1; rw [hf y hyv]; exact h2)
   | succ h1 h2 h3 ih =>
    rename_i k y z
    intro hy
    have hyv:y≠e.v:=fun e1=>by subst e1; omega
    obtain ⟨e',he',e1,e2,e3,e4⟩:=h.tight y z h1 h2
    have hpz:=hp e' he'
    rw [e1,e2] at hpz
    exact .succ (by show upF s.d e.v _ y<F; rw [hd y hyv]; exact h1) (by show upF s.fr e.v _ y=_; rw [hf y hyv]; exact h2) (ih (by omega))
  obtain ⟨ku,hku⟩:=h.chain e.u hc.1
  have hvF:upF s.d e.v (s.d e.u+e.c) e.v<F:=by rw [hdv]; have:=hF e.v; omega
  have chv:Chain F ⟨upF s.d e.v (s.d e.u+e.c),upF s.fr e.v (e.u:Int)⟩ (ku+1) e.v:=.succ hvF hfv (up ku e.u hku (Int.le_refl _))
  have all:∀ k y,Chain F s k y→∃ k',Chain F ⟨upF s.d e.v (s.d e.u+e.c),upF s.fr e.v (e.u:Int)⟩ k' y:=by
   intro k y hch
   induction hch with
   | zero h1 h2 =>
    rename_i y
    by_cases hyv:y=e.v
    ·rw [hyv]; exact ⟨_,chv⟩
    ·exact ⟨0,.zero (by show upF s.d e.v _ y<F; rw [hd y hyv]; exact h1) (by show upF s.fr e.v _ y = -1; rw [hf y hyv]; exact h2)⟩
   | succ h1 h2 h3 ih =>
    rename_i k y z
    by_cases hyv:y=e.v
    ·rw [hyv]; exact ⟨_,chv⟩
    ·obtain ⟨k',hk'⟩:=ih
     exact ⟨k'+1,.succ (by show upF s.d e.v _ y<F; rw [hd y hyv]; exact h1) (by show upF s.fr e.v _ y=_; rw [hf y hyv]; exact h2) hk'⟩
  refine ⟨fun v hv=>?_,fun v u hv hu=>?_⟩
  ·by_cases hvv:v=e.v
   ·rw [hvv]; exact ⟨_,chv⟩
   ·have hv':s.d v<F:=by
     have:upF s.d e.v (s.d e.u+e.c) v<F:=hv
     rw [hd v hvv] at this; exact this
    obtain ⟨k,hk⟩:=h.chain v hv'
    exact all k v hk
  ·have hle:∀ y,upF s.d e.v (s.d e.u+e.c) y≤s.d y:=fun y=>by
    by_cases hy:y=e.v
    ·rw [hy,hdv]; omega
    ·rw [hd y hy]; exact Int.le_refl _
   by_cases hvv:v=e.v
   ·subst hvv
    have hu':upF s.fr e.v (e.u:Int) e.v=(u:Int):=hu
    rw [hfv] at hu'
    have:e.u=u:=by omega
    subst this
    refine ⟨e,he,rfl,rfl,?_,?_⟩
    ·show upF s.d e.v _ e.u<F
     rw [hd _ hne]; exact hc.1
    ·show upF s.d e.v _ e.u+e.c≤upF s.d e.v _ e.v
     rw [hd _ hne,hdv]; exact Int.le_refl _
   ·have hv':upF s.d e.v (s.d e.u+e.c) v<F:=hv
    have hu':upF s.fr e.v (e.u:Int) v=(u:Int):=hu
    rw [hd v hvv] at hv'
    rw [hf v hvv] at hu'
    obtain ⟨e',he',e1,e2,e3,e4⟩:=h.tight v u hv' hu'
    refine ⟨e',he',e1,e2,?_,?_⟩
    ·exact Int.lt_of_le_of_lt (hle u) e3
    ·show upF s.d e.v _ u+e'.c≤upF s.d e.v _ v
     rw [hd v hvv]
     have:=hle u
     omega
 ·have hr:BF.rlx F s e=s:=if_neg hc
  rw [hr]
  exact h
theorem Way.fold (hp:∀ e∈es,p e.v≤p e.u+e.c):∀ (l:List Ed) (s:St),(∀ e∈l,e∈es)→Way F es s→(∀ v,s.d v≤F)→Way F es (l.foldl (BF.rlx F) s)∧∀ v,(l.foldl (BF.rlx F) s).d v≤F
 | [],_,_,h,hF=>⟨h,hF⟩
 | e::l,s,hl,h,hF=>Way.fold hp l (BF.rlx F s e) (fun e' he'=>hl e' (List.mem_cons_of_mem _ he')) (h.rlx hp hF (hl e (List.mem_cons_self ..))) (fun v=>Int.le_trans (zXs F s e v) (hF v))
theorem Way.sweeps (hp:∀ e∈es,p e.v≤p e.u+e.c) (s:St) (h:Way F es s) (hF:∀ v,s.d v≤F):∀ n,Way F es (BF.sweeps F es n s)∧∀ v,(BF.sweeps F es n s).d v≤F
 | 0=>⟨h,hF⟩
 | n+1=>by
  obtain ⟨h1,h2⟩:=Way.sweeps hp s h hF n
  exact Way.fold hp es _ (fun _ he=>he) h1 h2
theorem Chain.len {s:St} {k:Nat} {v:Nat} (h:Chain F s k v):∀ k',Chain F s k' v→k=k':=by
 induction h with
 | zero h1 h2 =>
  intro k' h'
  cases h' with
  | zero=>rfl
  | succ a b c=>rw [h2] at b; omega
 | succ h1 h2 h3 ih =>
  intro k' h'
  cases h' with
  | zero a b=>rw [h2] at b; omega
  | succ a b c =>
   rename_i u1 k2 u2
   rw [h2] at b
   have:u1=u2:=by omega
   subst this
   rw [ih _ c]
end
end Go.BF
namespace Go.OT
def sg:Nat→(Nat→Int)→Int
 | 0,_=>0
 | n+1,f=>sg n f+f n
theorem zAm {f g:Nat→Int}:∀ (n:Nat),(∀ i,i<n→f i=g i)→sg n f=sg n g
 | 0,_=>rfl
 | n+1,h=>by simp only [sg]; rw [zAm n fun i hi=>h i (by omega),h n (by omega)]
theorem sg_le {f g:Nat→Int}:∀ (n:Nat),(∀ i,i<n→f i≤g i)→sg n f≤sg n g
 | 0,_=>Int.le_refl _
 | n+1,h=>by
  have h1:=sg_le n fun i hi=>h i (by omega)
  have h2:=h n (by omega)
  simp only [sg]; omega
theorem zDk:∀ (n:Nat),sg n (fun _=>0)=0
 | 0=>rfl
 | n+1=>by simp only [sg,zDk n]; rfl
theorem zDe {f:Nat→Int} (n:Nat) (h:∀ i,i<n→0≤f i):0≤sg n f:=by
 have:=sg_le (f:=fun _=>0) (g:=f) n h
 rwa [zDk] at this
theorem zCO (f g:Nat→Int):∀ (n:Nat),sg n (fun i=>f i+g i)=sg n f+sg n g
 | 0=>rfl
 | n+1=>by simp only [sg,zCO f g n]; omega
theorem zGT (f g:Nat→Int):∀ (n:Nat),sg n (fun i=>f i - g i)=sg n f - sg n g
 | 0=>rfl
 | n+1=>by simp only [sg,zGT f g n]; omega
theorem zFx (k:Int) (f:Nat→Int):∀ (n:Nat),sg n (fun i=>k*f i)=k*sg n f
 | 0=>by simp [sg]
 | n+1=>by simp only [sg,zFx k f n,Int.mul_add]
theorem zOO (m:Nat) (f:Nat→Nat→Int):∀ (n:Nat),sg n (fun i=>sg m (fun j=>f i j))=sg m (fun j=>sg n (fun i=>f i j))
 | 0=>by simp only [sg]; exact (zDk m).symm
 | n+1=>by
  simp only [sg]
  rw [zOO m f n,←zCO]
theorem zKo (x:Int) (k:Nat):∀ (n:Nat),sg n (fun i=>if i=k then x else 0)=if k<n then x else 0
 | 0=>by simp [sg]
 | n+1=>by
  simp only [sg,zKo x k n]
  by_cases h1:n=k
  ·subst h1
   rw [if_neg (Nat.lt_irrefl _),if_pos rfl,if_pos (Nat.lt_succ_self _)]; omega
  ·rw [if_neg h1]
   by_cases h2:k<n
   ·rw [if_pos h2,if_pos (by omega)]; omega
   ·rw [if_neg h2,if_neg (by omega)]; omega
theorem sg_at {f:Nat→Int}:∀ (n:Nat),(∀ i,i<n→0≤f i)→∀ k,k<n→f k≤sg n f
 | 0,_,k,hk=>by omega
 | n+1,h,k,hk=>by
  simp only [sg]
  have h0:=zDe n fun i hi=>h i (by omega)
  have h1:=h n (by omega)
  rcases Nat.lt_or_ge k n with h2|h2
  ·have:=sg_at n (fun i hi=>h i (by omega)) k h2; omega
  ·obtain rfl:k=n:=by omega
   omega
theorem zLB {f:Nat→Int} (n:Nat) (h:∀ i,i<n→0≤f i) (hs:sg n f=0) (k:Nat) (hk:k<n):f k=0:=by
 have h1:=sg_at n h k hk
 have h2:=h k hk
 omega
def cst (R C:Nat) (c p:Nat→Nat→Int):Int:=sg R fun i=>sg C fun j=>c i j*p i j
def rowS (C:Nat) (p:Nat→Nat→Int) (i:Nat):Int:=sg C fun j=>p i j
def colS (R:Nat) (p:Nat→Nat→Int) (j:Nat):Int:=sg R fun i=>p i j
def worth (R C:Nat) (a b u v:Nat→Int):Int:=sg R (fun i=>a i*u i)+sg C (fun j=>b j*v j)
theorem zFE (R C:Nat) (p:Nat→Nat→Int) (u v:Nat→Int):cst R C (fun i j=>u i+v j) p=worth R C (rowS C p) (colS R p) u v:=by
 unfold cst worth
 have h1:(sg R fun i=>sg C fun j=>(u i+v j)*p i j)=sg R (fun i=>sg C (fun j=>u i*p i j)+sg C (fun j=>v j*p i j)):=zAm R fun i _=>by
  rw [←zCO]
  exact zAm C fun j _=>Int.add_mul ..
 rw [h1,zCO]
 congr 1
 ·exact zAm R fun i _=>by rw [zFx,Int.mul_comm]; rfl
 ·rw [zOO]
  exact zAm C fun j _=>by rw [zFx,Int.mul_comm]; rfl
theorem zJr {R C:Nat} {a a' b b' u v:Nat→Int} (ha:∀ i,i<R→a i=a' i) (hb:∀ j,j<C→b j=b' j):worth R C a b u v=worth R C a' b' u v:=by
 unfold worth
 rw [zAm R fun i hi=>by rw [ha i hi],zAm C fun j hj=>by rw [hb j hj]]
structure IsPlan (R C:Nat) (a b:Nat→Int) (p:Nat→Nat→Int):Prop where
 nn:∀ i j,i<R→j<C→0≤p i j
 row:∀ i,i<R→rowS C p i=a i
 col:∀ j,j<C→colS R p j=b j
def Holds (R C:Nat) (c:Nat→Nat→Int) (u v:Nat→Int):Prop:=∀ i j,i<R→j<C→u i+v j≤c i j
def Tight (R C:Nat) (c p:Nat→Nat→Int) (u v:Nat→Int):Prop:=∀ i j,i<R→j<C→0<p i j→u i+v j=c i j
section
variable {R C:Nat} {a b:Nat→Int} {c p:Nat→Nat→Int} {u v:Nat→Int}
theorem IsPlan.worth_le (hp:IsPlan R C a b p) (h:Holds R C c u v):worth R C a b u v≤cst R C c p:=by
 rw [←zJr (fun i hi=>hp.row i hi) (fun j hj=>hp.col j hj),←zFE]
 exact sg_le R fun i hi=>sg_le C fun j hj=>Int.mul_le_mul_of_nonneg_right (h i j hi hj) (hp.nn i j hi hj)
theorem IsPlan.worth_eq (hp:IsPlan R C a b p) (h:Tight R C c p u v):worth R C a b u v=cst R C c p:=by
 rw [←zJr (fun i hi=>hp.row i hi) (fun j hj=>hp.col j hj),←zFE]
 refine zAm R fun i hi=>zAm C fun j hj=>?_
 show (u i+v j)*p i j=c i j*p i j
 by_cases h0:0<p i j
 ·rw [h i j hi hj h0]
 ·have:=hp.nn i j hi hj
  have h1:p i j=0:=by omega
  rw [h1,Int.mul_zero,Int.mul_zero]
theorem IsPlan.least (hp:IsPlan R C a b p) (h:Holds R C c u v) (ht:Tight R C c p u v) {q:Nat→Nat→Int} (hq:IsPlan R C a b q):cst R C c p≤cst R C c q:=by
 rw [←hp.worth_eq ht]; exact hq.worth_le h
end
structure IsPart (R C:Nat) (a b:Nat→Int) (p:Nat→Nat→Int):Prop where
 nn:∀ i j,i<R→j<C→0≤p i j
 row:∀ i,i<R→rowS C p i≤a i
 col:∀ j,j<C→colS R p j≤b j
def units (R C:Nat) (p:Nat→Nat→Int):Int:=sg R (rowS C p)
theorem zCJ (R C:Nat) (p:Nat→Nat→Int):units R C p=sg C (colS R p):=zOO C p R
structure Good (R C:Nat) (a b:Nat→Int) (c p:Nat→Nat→Int) (r s:Nat→Int) (V:Int):Prop where
 hold:∀ i j,i<R→j<C→s j≤r i+c i j
 tight:∀ i j,i<R→j<C→0<p i j→s j=r i+c i j
 rnn:∀ i,i<R→0≤r i
 rleft:∀ i,i<R→rowS C p i<a i→r i=0
 sle:∀ j,j<C→s j≤V
 sleft:∀ j,j<C→colS R p j<b j→s j=V
section
variable {R C:Nat} {a b:Nat→Int} {c p:Nat→Nat→Int} {r s:Nat→Int} {V:Int}
theorem zPp (R C:Nat) (q:Nat→Nat→Int) (r s:Nat→Int) (V:Int):cst R C (fun i j => - r i+s j) q=V*units R C q - sg R (fun i=>rowS C q i*r i) - sg C (fun j=>colS R q j*(V - s j)):=by
 rw [zFE,zCJ]
 unfold worth
 have h1:sg R (fun i=>rowS C q i * - r i) = - sg R (fun i=>rowS C q i*r i):=by
  have:sg R (fun i=>rowS C q i * - r i)=sg R (fun i=>(-1)*(rowS C q i*r i)):=zAm R fun i _=>by
   rw [Int.mul_neg,Int.neg_mul,Int.one_mul]
  rw [this,zFx]; omega
 have h2:sg C (fun j=>colS R q j*(V - s j))=V*sg C (colS R q) - sg C (fun j=>colS R q j*s j):=by
  rw [←zFx,←zGT]
  exact zAm C fun j _=>by rw [Int.mul_sub,Int.mul_comm (colS R q j) V]
 rw [h1,h2]; omega
theorem Good.cost (h:Good R C a b c p r s V) (hp:IsPart R C a b p):cst R C c p=V*units R C p - sg R (fun i=>a i*r i) - sg C (fun j=>b j*(V - s j)):=by
 have h1:cst R C c p=cst R C (fun i j => - r i+s j) p:=by
  refine zAm R fun i hi=>zAm C fun j hj=>?_
  by_cases h0:0<p i j
  ·have:=h.tight i j hi hj h0
   rw [show c i j = - r i+s j by omega]
  ·have:=hp.nn i j hi hj
   rw [show p i j=0 by omega,Int.mul_zero,Int.mul_zero]
 rw [h1,zPp R C p r s V]
 congr 1
 ·congr 1
  refine zAm R fun i hi=>?_
  by_cases h0:rowS C p i<a i
  ·rw [h.rleft i hi h0,Int.mul_zero,Int.mul_zero]
  ·have:=hp.row i hi
   rw [show rowS C p i=a i by omega]
 ·refine zAm C fun j hj=>?_
  by_cases h0:colS R p j<b j
  ·rw [h.sleft j hj h0,Int.sub_self,Int.mul_zero,Int.mul_zero]
  ·have:=hp.col j hj
   rw [show colS R p j=b j by omega]
theorem Good.bound (h:Good R C a b c p r s V) {q:Nat→Nat→Int} (hq:IsPart R C a b q):V*units R C q - sg R (fun i=>a i*r i) - sg C (fun j=>b j*(V - s j))≤cst R C c q:=by
 have h1:cst R C (fun i j => - r i+s j) q≤cst R C c q:=sg_le R fun i hi=>sg_le C fun j hj =>
  Int.mul_le_mul_of_nonneg_right (by have:=h.hold i j hi hj; show - r i+s j≤c i j; omega) (hq.nn i j hi hj)
 rw [zPp R C q r s V] at h1
 have h2:sg R (fun i=>rowS C q i*r i)≤sg R (fun i=>a i*r i):=sg_le R fun i hi=>Int.mul_le_mul_of_nonneg_right (hq.row i hi) (h.rnn i hi)
 have h3:sg C (fun j=>colS R q j*(V - s j))≤sg C (fun j=>b j*(V - s j)):=sg_le C fun j hj=>Int.mul_le_mul_of_nonneg_right (hq.col j hj) (by have:=h.sle j hj; omega)
 omega
theorem Good.least (h:Good R C a b c p r s V) (hp:IsPart R C a b p) {q:Nat→Nat→Int} (hq:IsPart R C a b q):cst R C c p+V*(units R C q - units R C p)≤cst R C c q:=by
 have h1:=h.cost hp
 have h2:=h.bound hq
 rw [Int.mul_sub]; omega
end
theorem zMN:∀ (n k:Nat) (f:Nat→Nat),(∀ i,i<k→f i<n)→(∀ i j,i<j→j<k→f i≠f j)→k≤n
 | 0,k,f,h,_=>by
  rcases Nat.eq_zero_or_pos k with h0|h0
  ·omega
  ·have:=h 0 h0; omega
 | n+1,k,f,h,hd=>by
  by_cases hx:∃ m,m<k∧f m=n
  ·obtain ⟨m,hm,hfm⟩:=hx
   have h1:∀ i,i<k - 1→(fun i=>if i<m then f i else f (i+1)) i<n:=fun i hi=>by
    show (if i<m then f i else f (i+1))<n
    split
    ·rename_i hl
     have h2:=h i (by omega); have h3:=hd i m hl hm; omega
    ·rename_i hl
     have h2:=h (i+1) (by omega); have h3:=hd m (i+1) (by omega) (by omega); omega
   have:=zMN n (k - 1) _ h1 fun i j hij hj=>by
    show (if i<m then f i else f (i+1))≠(if j<m then f j else f (j+1))
    split<;>split
    ·exact hd i j hij (by omega)
    ·exact hd i (j+1) (by omega) (by omega)
    ·omega
    ·exact hd (i+1) (j+1) (by omega) (by omega)
   omega
  ·have h1:∀ i,i<k→f i<n:=fun i hi=>by
    have h2:=h i hi
    have h3:f i≠n:=fun e=>hx ⟨i,hi,e⟩
    omega
   have:=zMN n k f h1 hd
   omega
end Go.OT
namespace Go.OT
def upto {σ:Type} (f:Nat→σ→σ):Nat→σ→σ
 | 0,s=>s
 | n+1,s=>f n (upto f n s)
def ga (l:List Int) (i:Nat):Int:=l.getD i 0
def gt (p:List (List Int)) (i j:Nat):Int:=(p.getD i []).getD j 0
theorem zWd {α:Type} {l:List α} (d:α) {i:Nat} (h:i<l.length):l.getD i d∈l:=by
 rw [List.getD_eq_getElem?_getD,List.getElem?_eq_getElem h]
 exact List.getElem_mem h
theorem getD_set {α:Type} (l:List α) (i k:Nat) (x d:α):(l.set i x).getD k d=if i=k∧i<l.length then x else l.getD k d:=by
 rw [List.getD_eq_getElem?_getD,List.getD_eq_getElem?_getD,List.getElem?_set]
 by_cases h:i=k
 ·subst h
  by_cases h2:i<l.length
  ·rw [if_pos rfl,if_pos h2,if_pos ⟨rfl,h2⟩]; rfl
  ·rw [if_pos rfl,if_neg h2,if_neg (fun h=>h2 h.2),List.getElem?_eq_none (by omega)]
 ·rw [if_neg h,if_neg (fun h2=>h h2.1)]
theorem zBw {l:List Int} {i:Nat} (h:i<l.length) (x:Int) (k:Nat):(l.set i x).getD k 0=if k=i then x else l.getD k 0:=by
 rw [getD_set]
 by_cases hk:k=i
 ·rw [if_pos ⟨hk.symm,h⟩,if_pos hk]
 ·rw [if_neg (fun h2=>hk h2.1.symm),if_neg hk]
def takeN (l:List Int) (i:Nat) (n:Int):List Int:=l.set i (l.getD i 0 - n)
def zBc (p:List (List Int)) (i j:Nat) (s:List Int×List Int):List Int×List Int:=(takeN s.1 i ((p.getD i []).getD j 0),takeN s.2 j ((p.getD i []).getD j 0))
def zB8 (p:List (List Int)) (i:Nat) (s:List Int×List Int):List Int×List Int:=upto (zBc p i) (p.getD i []).length s
def leftV (a b:List Int) (p:List (List Int)):List Int×List Int:=upto (zB8 p) p.length (a,b)
def Bnd (lo hi:Int) (l:List Int):Prop:=∀ x∈l,lo≤x∧x≤hi
theorem Bnd.at {lo hi:Int} {l:List Int} (h:Bnd lo hi l) {i:Nat} (h1:i<l.length):lo≤l.getD i 0∧l.getD i 0≤hi:=h _ (zWd 0 h1)
theorem Bnd.of {lo hi:Int} {l:List Int} (h:∀ i,i<l.length→lo≤l.getD i 0∧l.getD i 0≤hi):Bnd lo hi l:=fun x hx=>by
 obtain ⟨i,hi,rfl⟩:=List.getElem_of_mem hx
 have:=h i hi
 rwa [List.getD_eq_getElem?_getD,List.getElem?_eq_getElem hi] at this
theorem Bnd.take {lo hi:Int} {l:List Int} (h:Bnd lo hi l) {i:Nat} {n:Int} (h1:i<l.length) (hn:0≤n∧n≤200):Bnd (lo - 200) hi (takeN l i n):=by
 intro x hx
 have h0:=h.at h1
 rcases List.mem_or_eq_of_mem_set hx with hx|rfl
 ·have:=h x hx; omega
 ·omega
theorem Bnd.mono {lo hi lo':Int} {l:List Int} (h:Bnd lo hi l) (hl:lo'≤lo):Bnd lo' hi l:=fun x hx=>by have:=h x hx; omega
theorem Bnd.set {lo hi:Int} {l:List Int} (h:Bnd lo hi l) {i:Nat} {x:Int} (hx:lo≤x∧x≤hi):Bnd lo hi (l.set i x):=by
 intro y hy
 rcases List.mem_or_eq_of_mem_set hy with hy|rfl
 ·exact h y hy
 ·exact hx
theorem zD8 (l:List Int) (i:Nat) (n:Int):(takeN l i n).length=l.length:=by simp [takeN]
structure Tb (R C:Nat) (lo hi:Int) (p:List (List Int)):Prop where
 rows:p.length=R
 cols:∀ i,i<R→(p.getD i []).length=C
 at':∀ i j,i<R→j<C→lo≤(p.getD i []).getD j 0∧(p.getD i []).getD j 0≤hi
theorem Tb.mem {R C:Nat} {lo hi:Int} {p:List (List Int)} (h:Tb R C lo hi p) {i:Nat} (hi':i<R):Bnd lo hi (p.getD i []):=Bnd.of fun j hj=>h.at' i j hi' (by rw [←h.cols i hi']; exact hj)
structure Shp (a b:List Int) (p:List (List Int)):Prop where
 a5:1≤a.length∧a.length≤6
 b5:1≤b.length∧b.length≤6
 ha:Bnd 0 200 a
 hb:Bnd 0 200 b
 tab:Tb a.length b.length 0 200 p
theorem Shp.rows {a b:List Int} {p:List (List Int)} (h:Shp a b p):p.length=a.length:=h.tab.rows
theorem Shp.cols {a b:List Int} {p:List (List Int)} (h:Shp a b p):∀ i,i<p.length→(p.getD i []).length=b.length:=fun i hi=>h.tab.cols i (by rw [←h.rows]; exact hi)
theorem Shp.mem {a b:List Int} {p:List (List Int)} (h:Shp a b p):∀ i,i<p.length→Bnd 0 200 (p.getD i []):=fun i hi=>h.tab.mem (by rw [←h.rows]; exact hi)
structure LSt (a b:List Int) (m:Int) (s:List Int×List Int):Prop where
 l1:s.1.length=a.length
 l2:s.2.length=b.length
 b1:Bnd (-200*m) 200 s.1
 b2:Bnd (-200*m) 200 s.2
section
variable {a b:List Int} {p:List (List Int)}
theorem LSt.step (h:Shp a b p) {m:Int} {s:List Int×List Int} (hs:LSt a b m s) {i j:Nat} (hi:i<p.length) (hj:j<b.length):LSt a b (m+1) (zBc p i j s):=by
 have hn:0≤(p.getD i []).getD j 0∧(p.getD i []).getD j 0≤200:=(h.mem i hi).at (by rw [h.cols i hi]; exact hj)
 exact ⟨by simp [zBc,zD8,hs.l1],by simp [zBc,zD8,hs.l2],
  (hs.b1.take (by rw [hs.l1,←h.rows]; exact hi) hn).mono (by omega),(hs.b2.take (by rw [hs.l2]; exact hj) hn).mono (by omega)⟩
theorem LSt.row (h:Shp a b p) {m:Int} {s:List Int×List Int} (hs:LSt a b m s) {i:Nat} (hi:i<p.length):∀ j,j≤b.length→LSt a b (m+j) (upto (zBc p i) j s)
 | 0,_=>by simpa [upto] using hs
 | j+1,hj=>by
  have:=(LSt.row h hs hi j (by omega)).step h hi (j:=j) (by omega)
  simpa [upto,Int.add_assoc] using this
theorem LSt.mono {m m':Int} {s:List Int×List Int} (hs:LSt a b m s) (h:m≤m'):LSt a b m' s:=⟨hs.l1,hs.l2,hs.b1.mono (by omega),hs.b2.mono (by omega)⟩
theorem LSt.all (h:Shp a b p):∀ i,i≤p.length→LSt a b (6*i) (upto (zB8 p) i (a,b))
 | 0,_=>⟨rfl,rfl,h.ha.mono (by simp),h.hb.mono (by simp)⟩
 | i+1,hi=>by
  have h1:=LSt.row h (LSt.all h i (by omega)) (i:=i) (by omega) b.length (Nat.le_refl _)
  have h2:=h.b5
  simp only [upto,zB8]
  rw [h.cols i (by omega)]
  exact h1.mono (by omega)
theorem zNi {l:List Int} {i:Nat} (h:i<l.length) (n:Int) (k:Nat):(takeN l i n).getD k 0=l.getD k 0 - if k=i then n else 0:=by
 unfold takeN
 rw [zBw h]
 by_cases hk:k=i
 ·rw [if_pos hk,if_pos hk,hk]
 ·rw [if_neg hk,if_neg hk]; omega
theorem zHG {n m:Nat} {s:List Int×List Int} (hs:s.1.length=n∧s.2.length=m) {i:Nat} (hi:i<n):∀ j,j≤m →
 (upto (zBc p i) j s).1.length=n∧(upto (zBc p i) j s).2.length=m ∧
 (∀ k,(upto (zBc p i) j s).1.getD k 0=s.1.getD k 0 - if k=i then sg j (gt p i) else 0) ∧
 (∀ k,(upto (zBc p i) j s).2.getD k 0=s.2.getD k 0 - if k<j then gt p i k else 0)
 | 0,_=>⟨hs.1,hs.2,fun k=>by simp [upto,sg],fun k=>by simp [upto]⟩
 | j+1,hj=>by
  obtain ⟨h1,h2,h3,h4⟩:=zHG hs hi j (by omega)
  refine ⟨by simp [upto,zBc,zD8,h1],by simp [upto,zBc,zD8,h2],fun k=>?_,fun k=>?_⟩
  ·show (takeN (upto (zBc p i) j s).1 i (gt p i j)).getD k 0=_
   rw [zNi (by omega),h3]
   by_cases hk:k=i
   ·rw [if_pos hk,if_pos hk,if_pos hk]; simp only [sg]; omega
   ·rw [if_neg hk,if_neg hk,if_neg hk]; omega
  ·show (takeN (upto (zBc p i) j s).2 j (gt p i j)).getD k 0=_
   rw [zNi (by omega),h4]
   by_cases hk:k=j
   ·subst hk
    rw [if_neg (Nat.lt_irrefl _),if_pos rfl,if_pos (Nat.lt_succ_self _)]; omega
   ·rw [if_neg hk]
    by_cases hk2:k<j
    ·rw [if_pos hk2,if_pos (by omega)]; omega
    ·rw [if_neg hk2,if_neg (by omega)]; omega
theorem zGm (h:Shp a b p):∀ i,i≤a.length →
 (upto (zB8 p) i (a,b)).1.length=a.length∧(upto (zB8 p) i (a,b)).2.length=b.length ∧
 (∀ k,(upto (zB8 p) i (a,b)).1.getD k 0=ga a k - if k<i then rowS b.length (gt p) k else 0) ∧
 (∀ k,k<b.length→(upto (zB8 p) i (a,b)).2.getD k 0=ga b k - sg i (fun i=>gt p i k))
 | 0,_=>⟨rfl,rfl,fun k=>by simp [upto,ga],fun k _=>by simp [upto,sg,ga]⟩
 | i+1,hi=>by
  obtain ⟨h1,h2,h3,h4⟩:=zGm h i (by omega)
  have e:upto (zB8 p) (i+1) (a,b)=upto (zBc p i) b.length (upto (zB8 p) i (a,b)):=by
   show upto (zBc p i) (p.getD i []).length _=_
   rw [h.tab.cols i (by omega)]
  obtain ⟨k1,k2,k3,k4⟩:=zHG (p:=p) ⟨h1,h2⟩ (i:=i) (by omega) b.length (Nat.le_refl _)
  rw [e]
  refine ⟨k1,k2,fun k=>?_,fun k hk=>?_⟩
  ·rw [k3,h3]
   by_cases hk:k=i
   ·subst hk
    rw [if_neg (Nat.lt_irrefl _),if_pos rfl,if_pos (Nat.lt_succ_self _)]
    show _ - sg b.length (gt p k)=_ - sg b.length (gt p k)
    omega
   ·rw [if_neg hk]
    by_cases hk2:k<i
    ·rw [if_pos hk2,if_pos (by omega)]; omega
    ·rw [if_neg hk2,if_neg (by omega)]; omega
  ·rw [k4,h4 k hk,if_pos hk]
   simp only [sg]; omega
theorem zTu (h:Shp a b p) {k:Nat} (hk:k<a.length):(leftV a b p).1.getD k 0=ga a k - rowS b.length (gt p) k:=by
 unfold leftV
 rw [h.rows,(zGm h a.length (Nat.le_refl _)).2.2.1,if_pos hk]
theorem zGG (h:Shp a b p) {k:Nat} (hk:k<b.length):(leftV a b p).2.getD k 0=ga b k - colS a.length (gt p) k:=by
 unfold leftV
 rw [h.rows,(zGm h a.length (Nat.le_refl _)).2.2.2 k hk]
 rfl
end
def far:Int:=1099511627776
structure Dst where
 ra:List Int
 rf:List Int
 ca:List Int
 cf:List Int
def zCH (rows:List Int) (i:Nat) (s:List Int×List Int):List Int×List Int:=(if rows.getD i 0=0 then s.1.set i far else s.1,s.2.set i (-1))
def zCm (rows:List Int) (n k:Nat):List Int×List Int:=upto (zCH rows) k (List.replicate n 0,List.replicate n 0)
def zF6 (n k:Nat):List Int:=upto (fun j l=>l.set j far) k (List.replicate n 0)
def zNe (rows:List Int) (n m:Nat):Dst:=⟨(zCm rows n n).1,(zCm rows n n).2,zF6 m m,List.replicate m 0⟩
theorem zEx (rows:List Int) (n:Nat):∀ k,(zCm rows n k).1.length=n∧(zCm rows n k).2.length=n
 | 0=>by simp [zCm,upto]
 | k+1=>by
  have:=zEx rows n k
  simp only [zCm,upto,zCH] at this ⊢
  refine ⟨?_,by simpa using this.2⟩
  split
  ·simpa using this.1
  ·exact this.1
theorem zFZ (n:Nat):∀ k,(zF6 n k).length=n
 | 0=>by simp [zF6,upto]
 | k+1=>by
  have:=zFZ n k
  simp only [zF6,upto] at this ⊢
  simpa using this
def relaxC (c:Int) (i j:Nat) (s:Dst):Dst:=if s.ra.getD i 0<far∧s.ra.getD i 0+c<s.ca.getD j 0 then {s with ca:=s.ca.set j (s.ra.getD i 0+c),cf:=s.cf.set j (i:Int)} else s
def relaxR (c n:Int) (i j:Nat) (s:Dst):Dst:=if 0<n∧s.ca.getD j 0<far∧s.ca.getD j 0 - c<s.ra.getD i 0 then {s with ra:=s.ra.set i (s.ca.getD j 0 - c),rf:=s.rf.set i (j:Int)} else s
def relax (c p:List (List Int)) (i j:Nat) (s:Dst):Dst:=relaxR ((c.getD i []).getD j 0) ((p.getD i []).getD j 0) i j (relaxC ((c.getD i []).getD j 0) i j s)
def zBA (c p:List (List Int)) (i:Nat) (s:Dst):Dst:=upto (relax c p i) (c.getD i []).length s
def zWD (c p:List (List Int)) (s:Dst):Dst:=upto (zBA c p) c.length s
def distK (a b:List Int) (c p:List (List Int)) (k:Nat):Dst:=upto (fun _=>zWD c p) k (zNe (leftV a b p).1 a.length b.length)
def dist (a b:List Int) (c p:List (List Int)):Dst:=distK a b c p (a.length+b.length)
structure DSt (R C:Nat) (m:Int) (s:Dst):Prop where
 l1:s.ra.length=R
 l2:s.rf.length=R
 l3:s.ca.length=C
 l4:s.cf.length=C
 b1:Bnd (-99*m) far s.ra
 b2:Bnd (-1) (C - 1) s.rf
 b3:Bnd (-99*m) far s.ca
 b4:Bnd 0 (R - 1) s.cf
theorem DSt.mono {R C:Nat} {m m':Int} {s:Dst} (h:DSt R C m s) (hm:m≤m'):DSt R C m' s:=⟨h.l1,h.l2,h.l3,h.l4,h.b1.mono (by omega),h.b2,h.b3.mono (by omega),h.b4⟩
theorem DSt.relaxC {R C:Nat} {m:Int} {s:Dst} (h:DSt R C m s) {x:Int} {i j:Nat} (hx:0≤x∧x≤99) (hi:i<R) (hj:j<C):DSt R C m (relaxC x i j s):=by
 unfold Go.OT.relaxC
 split
 ·rename_i hc
  have h1:=h.b1.at (i:=i) (by rw [h.l1]; exact hi)
  have h3:=h.b3.at (i:=j) (by rw [h.l3]; exact hj)
  exact ⟨h.l1,h.l2,by simp [h.l3],by simp [h.l4],h.b1,h.b2,h.b3.set (by omega),h.b4.set (by omega)⟩
 ·exact h
theorem DSt.relaxR {R C:Nat} {m:Int} {s:Dst} (h:DSt R C m s) {x n:Int} {i j:Nat} (hx:0≤x∧x≤99) (hi:i<R) (hj:j<C):DSt R C (m+1) (relaxR x n i j s):=by
 unfold Go.OT.relaxR
 split
 ·rename_i hc
  have h1:=h.b1.at (i:=i) (by rw [h.l1]; exact hi)
  have h3:=h.b3.at (i:=j) (by rw [h.l3]; exact hj)
  exact ⟨by simp [h.l1],by simp [h.l2],h.l3,h.l4,(h.b1.mono (by omega)).set (by omega),h.b2.set (by omega),h.b3.mono (by omega),h.b4⟩
 ·exact h.mono (by omega)
theorem zHo (rows:List Int) (n:Nat) {C:Nat} (hC:1≤C):∀ k,Bnd 0 far (zCm rows n k).1∧Bnd (-1) (C - 1) (zCm rows n k).2
 | 0=>by
  refine ⟨fun x hx=>?_,fun x hx=>?_⟩
  ·have h0:x=0:=(List.mem_replicate.1 hx).2
   unfold far; omega
  ·have h0:x=0:=(List.mem_replicate.1 hx).2
   omega
 | k+1=>by
  obtain ⟨h1,h2⟩:=zHo rows n hC k
  have e:zCm rows n (k+1)=zCH rows k (zCm rows n k):=rfl
  rw [e,zCH]
  refine ⟨?_,h2.set (by omega)⟩
  show Bnd 0 far (if _ then _ else _)
  split
  ·exact h1.set (by unfold far; omega)
  ·exact h1
theorem zKu (n:Nat):∀ k,Bnd 0 far (zF6 n k)
 | 0=>fun x hx=>by
  have h0:x=0:=(List.mem_replicate.1 hx).2
  unfold far; omega
 | k+1=>(zKu n k).set (by unfold far; omega)
theorem zUK (rows:List Int) {R C:Nat} (hR:1≤R) (hC:1≤C):DSt R C 0 (zNe rows R C) :=
 ⟨(zEx rows R R).1,(zEx rows R R).2,zFZ C C,by simp [zNe],(zHo rows R hC R).1.mono (by omega),(zHo rows R hC R).2,(zKu C C).mono (by omega),fun x hx=>by
   have h0:x=0:=(List.mem_replicate.1 hx).2
   omega⟩
section
variable {R C:Nat} {c:List (List Int)} (p:List (List Int))
theorem DSt.row (hc:Tb R C 0 99 c) {m:Int} {s:Dst} (h:DSt R C m s) {i:Nat} (hi:i<R):∀ j,j≤C→DSt R C (m+j) (upto (relax c p i) j s)
 | 0,_=>by simpa [upto] using h
 | j+1,hj=>by
  have h1:=DSt.row hc h hi j (by omega)
  have h2:=(h1.relaxC (hc.at' i j hi (by omega)) hi (by omega:j<C)).relaxR (n:=(p.getD i []).getD j 0) (hc.at' i j hi (by omega)) hi (by omega:j<C)
  exact h2.mono (by omega)
theorem DSt.tab (hc:Tb R C 0 99 c) (hC:C≤6) {m:Int} {s:Dst} (h:DSt R C m s):∀ i,i≤R→DSt R C (m+6*i) (upto (zBA c p) i s)
 | 0,_=>by simpa [upto] using h
 | i+1,hi=>by
  have h1:=DSt.row p hc (DSt.tab hc hC h i (by omega)) (i:=i) (by omega) C (Nat.le_refl _)
  have e:upto (zBA c p) (i+1) s=upto (relax c p i) C (upto (zBA c p) i s):=by
   show upto (relax c p i) (c.getD i []).length _=_
   rw [hc.cols i (by omega)]
  rw [e]
  exact h1.mono (by omega)
end
theorem zH6 {a b:List Int} {c p:List (List Int)} (hc:Tb a.length b.length 0 99 c) (hp:Shp a b p):∀ k:Nat,DSt a.length b.length (36*(k:Int)) (distK a b c p k)
 | 0=>zUK _ hp.a5.1 hp.b5.1
 | k+1=>by
  have h1:=DSt.tab p hc hp.b5.2 (zH6 hc hp k) a.length (Nat.le_refl _)
  have e:distK a b c p (k+1)=upto (zBA c p) a.length (distK a b c p k):=by
   show upto (zBA c p) c.length _=_
   rw [hc.rows]
   rfl
  rw [e]
  have:=hp.a5
  exact h1.mono (by omega)
def zB0 (cols ca:List Int):Nat→Int
 | 0 => -1
 | j+1=>if 0<cols.getD j 0∧ca.getD j 0<far∧(zB0 cols ca j<0∨ca.getD j 0<ca.getD (zB0 cols ca j).toNat 0) then (j:Int) else zB0 cols ca j
def addAt (p:List (List Int)) (i j:Nat) (d:Int):List (List Int):=p.set i ((p.getD i []).set j ((p.getD i []).getD j 0+d))
def zBX (rf cf:List Int) (j:Int) (p:List (List Int)):List (List Int) :=
 let i:=(cf.getD j.toNat 0).toNat
 let j':=rf.getD i 0
 if 0≤j' then addAt (addAt p i j.toNat 1) i j'.toNat (-1) else addAt p i j.toNat 1
def zDI (rf cf:List Int) (j:Int):Int:=rf.getD (cf.getD j.toNat 0).toNat 0
def follow (rf cf:List Int):Nat→Int→List (List Int)→Option (List (List Int))
 | 0,j,p=>if j<0 then some p else none
 | n+1,j,p=>if j<0 then some p else follow rf cf n (zDI rf cf j) (zBX rf cf j p)
def bestV (a b:List Int) (c p:List (List Int)):Int:=zB0 (leftV a b p).2 (dist a b c p).ca b.length
def nextP (a b:List Int) (c p:List (List Int)):Option (List (List Int)):=if bestV a b c p<0 then some p else follow (dist a b c p).rf (dist a b c p).cf (a.length+b.length) (bestV a b c p) p
def nextN (a b:List Int) (c p:List (List Int)):Int:=if bestV a b c p<0 then 0 else (dist a b c p).ca.getD (bestV a b c p).toNat 0
end Go.OT
namespace Go.OT
open Go.BF
def zFa (R:Nat) (c p:Nat→Nat→Int) (i j:Nat):List Ed:=⟨i,R+j,c i j⟩::(if 0<p i j then [⟨R+j,i,- c i j⟩] else [])
def zCE (R:Nat) (c p:Nat→Nat→Int) (i:Nat):Nat→List Ed
 | 0=>[]
 | j+1=>zCE R c p i j++zFa R c p i j
def zBy (R C:Nat) (c p:Nat→Nat→Int):Nat→List Ed
 | 0=>[]
 | i+1=>zBy R C c p i++zCE R c p i C
section
variable {R C:Nat} {c p:Nat→Nat→Int}
def zZf (R C:Nat) (c p:Nat→Nat→Int) (e:Ed):Prop:=∃ i j,i<R∧j<C∧(e=⟨i,R+j,c i j⟩∨0<p i j∧e=⟨R+j,i,- c i j⟩)
theorem zKb {e:Ed} {i j:Nat}:e∈zFa R c p i j↔e=⟨i,R+j,c i j⟩∨0<p i j∧e=⟨R+j,i,- c i j⟩:=by
 unfold zFa
 by_cases h:0<p i j
 ·simp [h]
 ·simp [h]
theorem zHK {e:Ed} {i:Nat}:∀ (n:Nat),e∈zCE R c p i n↔∃ j,j<n∧e∈zFa R c p i j
 | 0=>by simp [zCE]
 | n+1=>by
  simp only [zCE,List.mem_append,zHK n]
  constructor
  ·rintro (⟨j,hj,h⟩|h)
   ·exact ⟨j,by omega,h⟩
   ·exact ⟨n,by omega,h⟩
  ·rintro ⟨j,hj,h⟩
   rcases Nat.lt_or_ge j n with h2|h2
   ·exact .inl ⟨j,h2,h⟩
   ·obtain rfl:j=n:=by omega
    exact .inr h
theorem zIQ {e:Ed}:∀ (n:Nat),e∈zBy R C c p n↔∃ i j,i<n∧j<C∧e∈zFa R c p i j
 | 0=>by simp [zBy]
 | n+1=>by
  simp only [zBy,List.mem_append,zIQ n,zHK]
  constructor
  ·rintro (⟨i,j,hi,hj,h⟩|⟨j,hj,h⟩)
   ·exact ⟨i,j,by omega,hj,h⟩
   ·exact ⟨n,j,by omega,hj,h⟩
  ·rintro ⟨i,j,hi,hj,h⟩
   rcases Nat.lt_or_ge i n with h2|h2
   ·exact .inl ⟨i,j,h2,hj,h⟩
   ·obtain rfl:i=n:=by omega
    exact .inr ⟨j,hj,h⟩
theorem zBI {e:Ed}:e∈zBy R C c p R↔zZf R C c p e:=by
 rw [zIQ]
 constructor
 ·rintro ⟨i,j,hi,hj,h⟩; exact ⟨i,j,hi,hj,zKb.1 h⟩
 ·rintro ⟨i,j,hi,hj,h⟩; exact ⟨i,j,hi,hj,zKb.2 h⟩
end
def toSt (R C:Nat) (s:Dst):St :=
 ⟨fun v=>if v<R then s.ra.getD v 0 else if v<R+C then s.ca.getD (v - R) 0 else far,
  fun v=>if v<R then (if s.rf.getD v 0<0 then -1 else R+s.rf.getD v 0) else if v<R+C then s.cf.getD (v - R) 0 else -2⟩
section
variable {R C:Nat} {s:Dst}
theorem zCI {i:Nat} (hi:i<R):(toSt R C s).d i=s.ra.getD i 0:=if_pos hi
theorem zDu {j:Nat} (hj:j<C):(toSt R C s).d (R+j)=s.ca.getD j 0:=by
 show (if R+j<R then _ else if R+j<R+C then _ else _)=_
 rw [if_neg (by omega),if_pos (by omega),Nat.add_sub_cancel_left]
theorem zHt {i:Nat} (hi:i<R):(toSt R C s).fr i=if s.rf.getD i 0<0 then -1 else R+s.rf.getD i 0:=if_pos hi
theorem zUQ {j:Nat} (hj:j<C):(toSt R C s).fr (R+j)=s.cf.getD j 0:=by
 show (if R+j<R then _ else if R+j<R+C then _ else _)=_
 rw [if_neg (by omega),if_pos (by omega),Nat.add_sub_cancel_left]
theorem zQh {v:Nat} (hv:R+C≤v):(toSt R C s).d v=far:=by
 show (if v<R then _ else if v<R+C then _ else far)=far
 rw [if_neg (by omega),if_neg (by omega)]
theorem zRH {m:Int} (h:DSt R C m s) {i j:Nat} (hi:i<R) (hj:j<C) (x:Int):toSt R C (relaxC x i j s)=rlx far (toSt R C s) ⟨i,R+j,x⟩:=by
 unfold relaxC rlx
 dsimp only
 rw [zCI hi,zDu hj]
 by_cases hc:s.ra.getD i 0<far∧s.ra.getD i 0+x<s.ca.getD j 0
 ·rw [if_pos hc,if_pos hc]
  unfold toSt
  dsimp only
  congr 1
  ·funext v
   unfold upF
   dsimp only
   by_cases hv:v=R+j
   ·subst hv
    rw [if_neg (by omega),if_pos (by omega),if_pos rfl,Nat.add_sub_cancel_left,zBw (by rw [h.l3]; exact hj),if_pos rfl]
   ·rw [if_neg hv]
    by_cases h1:v<R
    ·rw [if_pos h1,if_pos h1]
    ·rw [if_neg h1,if_neg h1,zBw (by rw [h.l3]; exact hj),if_neg (show ¬v - R=j by omega)]
  ·funext v
   unfold upF
   dsimp only
   by_cases hv:v=R+j
   ·subst hv
    rw [if_neg (by omega),if_pos (by omega),if_pos rfl,Nat.add_sub_cancel_left,zBw (by rw [h.l4]; exact hj),if_pos rfl]
   ·rw [if_neg hv]
    by_cases h1:v<R
    ·rw [if_pos h1,if_pos h1]
    ·rw [if_neg h1,if_neg h1,zBw (by rw [h.l4]; exact hj),if_neg (show ¬v - R=j by omega)]
 ·rw [if_neg hc,if_neg hc]
theorem zRI {m:Int} (h:DSt R C m s) {i j:Nat} (hi:i<R) (hj:j<C) (x n:Int):toSt R C (relaxR x n i j s)=if 0<n then rlx far (toSt R C s) ⟨R+j,i,- x⟩ else toSt R C s:=by
 unfold relaxR rlx
 dsimp only
 rw [zCI hi,zDu hj]
 by_cases hn:0<n
 ·rw [if_pos hn]
  by_cases hc:s.ca.getD j 0<far∧s.ca.getD j 0 - x<s.ra.getD i 0
  ·rw [if_pos ⟨hn,hc⟩,if_pos (by omega)]
   unfold toSt
   dsimp only
   congr 1
   ·funext v
    unfold upF
    dsimp only
    by_cases hv:v=i
    ·subst hv
     rw [if_pos hi,if_pos rfl,zBw (by rw [h.l1]; exact hi),if_pos rfl]; omega
    ·rw [if_neg hv,zBw (by rw [h.l1]; exact hi),if_neg hv]
   ·funext v
    unfold upF
    dsimp only
    by_cases hv:v=i
    ·subst hv
     rw [if_pos hi,if_pos rfl,zBw (by rw [h.l2]; exact hi),if_pos rfl,if_neg (by omega)]; omega
    ·rw [if_neg hv,zBw (by rw [h.l2]; exact hi),if_neg hv]
  ·rw [if_neg (fun h=>hc h.2),if_neg (by omega)]
 ·rw [if_neg hn,if_neg (fun h=>hn h.1)]
variable {c p:List (List Int)}
theorem zUv {m:Int} (hc:Tb R C 0 99 c) (h:DSt R C m s) {i j:Nat} (hi:i<R) (hj:j<C):toSt R C (relax c p i j s)=(zFa R (gt c) (gt p) i j).foldl (rlx far) (toSt R C s):=by
 unfold relax zFa
 rw [zRI (h.relaxC (hc.at' i j hi hj) hi hj) hi hj,zRH h hi hj,List.foldl_cons]
 show (if 0<gt p i j then _ else _)=_
 by_cases hp:0<gt p i j
 ·rw [if_pos hp,if_pos hp]; rfl
 ·rw [if_neg hp,if_neg hp]; rfl
theorem zHR {m:Int} (hc:Tb R C 0 99 c) (h:DSt R C m s) {i:Nat} (hi:i<R):∀ n,n≤C→toSt R C (upto (relax c p i) n s)=(zCE R (gt c) (gt p) i n).foldl (rlx far) (toSt R C s)
 | 0,_=>rfl
 | n+1,hn=>by
  show toSt R C (relax c p i n (upto (relax c p i) n s))=(zCE R (gt c) (gt p) i n++zFa R (gt c) (gt p) i n).foldl (rlx far) (toSt R C s)
  rw [List.foldl_append,←zHR hc h hi n (by omega)]
  exact zUv hc (DSt.row p hc h hi n (by omega)) hi (by omega)
theorem zI5 {m:Int} (hc:Tb R C 0 99 c) (hC:C≤6) (h:DSt R C m s):∀ n,n≤R→toSt R C (upto (zBA c p) n s)=(zBy R C (gt c) (gt p) n).foldl (rlx far) (toSt R C s)
 | 0,_=>rfl
 | n+1,hn=>by
  show toSt R C (upto (relax c p n) (c.getD n []).length (upto (zBA c p) n s))=(zBy R C (gt c) (gt p) n++zCE R (gt c) (gt p) n C).foldl (rlx far) (toSt R C s)
  rw [List.foldl_append,←zI5 hc hC h n (by omega),hc.cols n (by omega)]
  exact zHR hc (DSt.tab p hc hC h n (by omega)) (by omega) C (Nat.le_refl _)
end
theorem zL4 {a b:List Int} {c p:List (List Int)} (hc:Tb a.length b.length 0 99 c) (hp:Shp a b p):∀ k:Nat,toSt a.length b.length (distK a b c p k)=sweeps far (zBy a.length b.length (gt c) (gt p) a.length) k (toSt a.length b.length (zNe (leftV a b p).1 a.length b.length))
 | 0=>rfl
 | k+1=>by
  show toSt a.length b.length (upto (zBA c p) c.length (distK a b c p k))=sweep far _ (sweeps far _ k _)
  rw [hc.rows,zI5 hc hp.b5.2 (zH6 hc hp k) a.length (Nat.le_refl _),zL4 hc hp k]
  rfl
theorem zMx {F:Int} {pot:Nat→Int}:∀ (l:List Ed) (s:St),(∀ e∈l,pot e.v≤pot e.u+e.c)→(∀ v,pot v≤s.d v)→∀ v,pot v≤(l.foldl (rlx F) s).d v
 | [],_,_,h=>h
 | e::l,s,hl,h=>by
  refine zMx l (rlx F s e) (fun e' he'=>hl e' (List.mem_cons_of_mem _ he')) fun v=>?_
  have h1:=hl e (List.mem_cons_self ..)
  unfold rlx
  split
  ·simp only [upF]
   split
   ·rename_i hv
    subst hv
    have:=h e.u; omega
   ·exact h v
  ·exact h v
theorem zHf {F:Int} {pot:Nat→Int} {es:List Ed} {s:St} (hp:∀ e∈es,pot e.v≤pot e.u+e.c) (h:∀ v,pot v≤s.d v):∀ k v,pot v≤(sweeps F es k s).d v
 | 0=>h
 | k+1=>zMx es _ hp (zHf hp h k)
theorem zKm {F:Int} {d0:Nat→Int}:∀ (l:List Ed) (s:St),(∀ v,s.fr v = -1→s.d v=d0 v)→∀ v,(l.foldl (rlx F) s).fr v = -1→(l.foldl (rlx F) s).d v=d0 v
 | [],_,h=>h
 | e::l,s,h=>by
  refine zKm l (rlx F s e) fun v hv=>?_
  unfold rlx at hv ⊢
  split
  ·rename_i hc
   rw [if_pos hc] at hv
   simp only [upF] at hv ⊢
   by_cases he:v=e.v
   ·rw [if_pos he] at hv; omega
   ·rw [if_neg he] at hv ⊢; exact h v hv
  ·rename_i hc
   rw [if_neg hc] at hv
   exact h v hv
theorem zI9 {F:Int} {es:List Ed} {s:St}:∀ k v,(sweeps F es k s).fr v = -1→(sweeps F es k s).d v=s.d v
 | 0=>fun _ _=>rfl
 | k+1=>zKm es _ (zI9 k)
theorem zMs {F:Int} {es:List Ed} {s:St}:∀ k v,(sweeps F es k s).d v≤s.d v
 | 0,v=>Int.le_refl _
 | k+1,v=>Int.le_trans (zH8 F es _ v) (zMs k v)
theorem Chain.at {F:Int} {s:St} {k v:Nat} (h:BF.Chain F s k v):∀ i,i≤k→∃ u,BF.Chain F s i u:=by
 induction h with
 | zero h1 h2 =>
  intro i hi; obtain rfl:i=0:=by omega
  exact ⟨_,.zero h1 h2⟩
 | succ h1 h2 h3 ih =>
  rename_i k v u
  intro i hi
  rcases Nat.lt_or_ge i (k+1) with h4|h4
  ·exact ih i (by omega)
  ·obtain rfl:i=k+1:=by omega
   exact ⟨_,.succ h1 h2 h3⟩
theorem Chain.reached {F:Int} {s:St} {k v:Nat} (h:BF.Chain F s k v):s.d v<F:=by
 cases h<;>assumption
theorem Chain.short {F:Int} {s:St} {N k v:Nat} (hN:∀ v,s.d v<F→v<N) (h:BF.Chain F s k v):k+1≤N:=by
 have h1:∀ i,∃ u,i≤k→BF.Chain F s i u:=fun i=>by
  by_cases hi:i≤k
  ·obtain ⟨u,hu⟩:=Chain.at h i hi
   exact ⟨u,fun _=>hu⟩
  ·exact ⟨0,fun h=>absurd h hi⟩
 refine zMN N (k+1) (fun i=>Classical.choose (h1 i)) (fun i hi=>hN _ (Chain.reached (Classical.choose_spec (h1 i) (by omega)))) fun i j hij hj he=>?_
 have h2:=Classical.choose_spec (h1 i) (by omega)
 have h3:=Classical.choose_spec (h1 j) (by omega)
 have h4:Classical.choose (h1 i)=Classical.choose (h1 j):=he
 rw [h4] at h2
 have:=BF.Chain.len h2 _ h3
 omega
theorem zHp (rows:List Int) (n:Nat):∀ k,k≤n→∀ i,(zCm rows n k).1.getD i 0=(if i<k∧rows.getD i 0=0 then far else 0)∧(zCm rows n k).2.getD i 0=if i<k then -1 else 0
 | 0,_,i=>by
  have e:∀ m,(List.replicate m (0:Int)).getD i 0=0:=fun m=>by
   rw [List.getD_eq_getElem?_getD,List.getElem?_replicate]; split<;>rfl
  rw [if_neg (by omega),if_neg (by omega)]
  exact ⟨e n,e n⟩
 | k+1,hk,i=>by
  obtain ⟨h1,h2⟩:=zHp rows n k (by omega) i
  obtain ⟨l1,l2⟩:=zEx rows n k
  have e:zCm rows n (k+1)=zCH rows k (zCm rows n k):=rfl
  rw [e,zCH]
  dsimp only
  constructor
  ·by_cases hz:rows.getD k 0=0
   ·rw [if_pos hz,zBw (by omega)]
    by_cases hi:i=k
    ·subst hi
     rw [if_pos rfl,if_pos ⟨by omega,hz⟩]
    ·rw [if_neg hi,h1]
     by_cases h3:i<k∧rows.getD i 0=0
     ·rw [if_pos h3,if_pos ⟨by omega,h3.2⟩]
     ·rw [if_neg h3,if_neg (fun h=>h3 ⟨by omega,h.2⟩)]
   ·rw [if_neg hz,h1]
    by_cases h3:i<k∧rows.getD i 0=0
    ·rw [if_pos h3,if_pos ⟨by omega,h3.2⟩]
    ·rw [if_neg h3,if_neg (fun h=>h3 ⟨by have:i≠k:=fun e=>hz (e ▸ h.2); omega,h.2⟩)]
  ·rw [zBw (by omega),h2]
   by_cases hi:i=k
   ·rw [if_pos hi,if_pos (by omega)]
   ·rw [if_neg hi]
    by_cases h3:i<k
    ·rw [if_pos h3,if_pos (by omega)]
    ·rw [if_neg h3,if_neg (by omega)]
theorem zKv (n:Nat):∀ k,k≤n→∀ j,j<k→(zF6 n k).getD j 0=far
 | 0,_,j,hj=>by omega
 | k+1,hk,j,hj=>by
  show ((zF6 n k).set k far).getD j 0=far
  rw [zBw (by rw [zFZ]; omega)]
  split
  ·rfl
  ·exact zKv n k (by omega) j (by omega)
structure DistOK (R C:Nat) (a:Nat→Int) (c p:Nat→Nat→Int) (r s:Nat→Int) (x:Dst):Prop where
 rest:∀ i j,i<R→j<C→x.ra.getD i 0<far→x.ca.getD j 0≤x.ra.getD i 0+c i j
 back:∀ i j,i<R→j<C→0<p i j→x.ca.getD j 0<far→x.ra.getD i 0≤x.ca.getD j 0 - c i j
 rlow:∀ i,i<R→r i≤x.ra.getD i 0
 slow:∀ j,j<C→s j≤x.ca.getD j 0
 left:∀ i,i<R→rowS C p i<a i→x.ra.getD i 0=0
 way:BF.Way far (zBy R C c p R) (toSt R C x)
 root:∀ i,i<R→x.ra.getD i 0<far→(toSt R C x).fr i = -1→rowS C p i<a i∧x.ra.getD i 0=0
section
variable {a b:List Int} {c p:List (List Int)} {r s:Nat→Int} {V:Int}
theorem zSY (hc:Tb a.length b.length 0 99 c) (hp:Shp a b p) (hq:IsPart a.length b.length (ga a) (ga b) (gt p)) (hg:Good a.length b.length (ga a) (ga b) (gt c) (gt p) r s V) (hr:∀ i,i<a.length→r i≤99) (hs:∀ j,j<b.length→s j≤99) :
 DistOK a.length b.length (ga a) (gt c) (gt p) r s (dist a b c p):=by
 have sim:=zL4 hc hp (a.length+b.length)
 change toSt a.length b.length (dist a b c p)=_ at sim
 generalize hx:dist a b c p=x at sim ⊢
 have hfar:far=1099511627776:=rfl
 let s0:=toSt a.length b.length (zNe (leftV a b p).1 a.length b.length)
 change toSt a.length b.length x=sweeps far (zBy a.length b.length (gt c) (gt p) a.length) (a.length+b.length) s0 at sim
 have h0r:∀ i,i<a.length→s0.d i=if rowS b.length (gt p) i<ga a i then 0 else far:=fun i hi=>by
  show (toSt _ _ _).d i=_
  rw [zCI hi]
  show (zCm (leftV a b p).1 a.length a.length).1.getD i 0=_
  rw [(zHp (leftV a b p).1 a.length a.length (Nat.le_refl _) i).1,zTu hp hi]
  have:=hq.row i hi
  by_cases h1:rowS b.length (gt p) i<ga a i
  ·rw [if_pos h1,if_neg (by omega)]
  ·rw [if_neg h1,if_pos (by omega)]
 have h0c:∀ j,j<b.length→s0.d (a.length+j)=far:=fun j hj=>by
  show (toSt _ _ _).d _=_
  rw [zDu hj]
  exact zKv b.length b.length (Nat.le_refl _) j hj
 have h0f:∀ i,i<a.length→s0.fr i = -1:=fun i hi=>by
  show (toSt _ _ _).fr i=_
  rw [zHt hi]
  show (if (zCm (leftV a b p).1 a.length a.length).2.getD i 0<0 then _ else _)=_
  rw [(zHp (leftV a b p).1 a.length a.length (Nat.le_refl _) i).2,if_pos hi]
  rfl
 have h0o:∀ v,a.length+b.length≤v→s0.d v=far:=fun v hv=>zQh hv
 have hsplit:∀ v,v<a.length∨(∃ j,j<b.length∧v=a.length+j)∨a.length+b.length≤v:=fun v=>by
  rcases Nat.lt_or_ge v a.length with h|h
  ·exact .inl h
  ·rcases Nat.lt_or_ge v (a.length+b.length) with h2|h2
   ·exact .inr (.inl ⟨v - a.length,by omega,by omega⟩)
   ·exact .inr (.inr h2)
 have h0F:∀ v,s0.d v≤far:=fun v=>by
  rcases hsplit v with h|⟨j,hj,rfl⟩|h
  ·rw [h0r v h]; split<;>omega
  ·rw [h0c j hj]; omega
  ·rw [h0o v h]; omega
 let pot:Nat→Int:=fun v=>if v<a.length then r v else if v<a.length+b.length then s (v - a.length) else 0
 have potR:∀ i,i<a.length→pot i=r i:=fun i hi=>if_pos hi
 have potC:∀ j,j<b.length→pot (a.length+j)=s j:=fun j hj=>by
  show (if _ then _ else if _ then _ else _)=_
  rw [if_neg (by omega),if_pos (by omega),Nat.add_sub_cancel_left]
 have hpot:∀ e∈zBy a.length b.length (gt c) (gt p) a.length,pot e.v≤pot e.u+e.c:=fun e he=>by
  obtain ⟨i,j,hi,hj,h|⟨h0,h⟩⟩:=zBI.1 he
  ·subst h
   dsimp only
   rw [potR i hi,potC j hj]
   exact hg.hold i j hi hj
  ·subst h
   dsimp only
   rw [potR i hi,potC j hj]
   have:=hg.tight i j hi hj h0
   omega
 have hN:∀ e∈zBy a.length b.length (gt c) (gt p) a.length,e.u<a.length+b.length∧e.v<a.length+b.length:=fun e he=>by
  obtain ⟨i,j,hi,hj,h|⟨h0,h⟩⟩:=zBI.1 he<;>subst h<;>dsimp only<;>omega
 have rest:=zI6 (F:=far) s0 hpot hN
 have w0:BF.Way far (zBy a.length b.length (gt c) (gt p) a.length) s0:=by
  refine ⟨fun v hv=>?_,fun v u hv hu=>?_⟩
  ·rcases hsplit v with h|⟨j,hj,rfl⟩|h
   ·exact ⟨0,.zero hv (h0f v h)⟩
   ·rw [h0c j hj] at hv; omega
   ·rw [h0o v h] at hv; omega
  ·rcases hsplit v with h|⟨j,hj,rfl⟩|h
   ·rw [h0f v h] at hu; omega
   ·rw [h0c j hj] at hv; omega
   ·rw [h0o v h] at hv; omega
 have way:=(BF.Way.sweeps hpot s0 w0 h0F (a.length+b.length)).1
 have low:∀ v,pot v≤(sweeps far (zBy a.length b.length (gt c) (gt p) a.length) (a.length+b.length) s0).d v:=zHf hpot (fun v=>by
  rcases hsplit v with h|⟨j,hj,rfl⟩|h
  ·rw [h0r v h,potR v h]
   split
   ·rename_i h1
    rw [hg.rleft v h h1]; omega
   ·have:=hr v h; omega
  ·rw [h0c j hj,potC j hj]; have:=hs j hj; omega
  ·rw [h0o v h]
   show (if _ then _ else if _ then _ else _)≤_
   rw [if_neg (by omega),if_neg (by omega)]; omega) _
 have le:=fun v=>zMs (F:=far) (es:=zBy a.length b.length (gt c) (gt p) a.length) (s:=s0) (a.length+b.length) v
 have root:=fun v=>zI9 (F:=far) (es:=zBy a.length b.length (gt c) (gt p) a.length) (s:=s0) (a.length+b.length) v
 rw [←sim] at rest way low le root
 have rlow:∀ i,i<a.length→r i≤x.ra.getD i 0:=fun i hi=>by
  have:=low i
  rwa [potR i hi,zCI hi] at this
 refine ⟨fun i j hi hj h=>?_,fun i j hi hj h0 h=>?_,rlow,fun j hj=>?_,fun i hi h=>?_,way,fun i hi h hf=>?_⟩
 ·have:=rest ⟨i,a.length+j,gt c i j⟩ (zBI.2 ⟨i,j,hi,hj,.inl rfl⟩)
  dsimp only at this
  rw [zCI hi,zDu hj] at this
  exact this h
 ·have:=rest ⟨a.length+j,i,- gt c i j⟩ (zBI.2 ⟨i,j,hi,hj,.inr ⟨h0,rfl⟩⟩)
  dsimp only at this
  rw [zCI hi,zDu hj] at this
  have:=this h
  omega
 ·have:=low (a.length+j)
  rwa [potC j hj,zDu hj] at this
 ·have h1:=le i
  rw [zCI hi,h0r i hi,if_pos h] at h1
  have h2:=rlow i hi
  have h3:=hg.rnn i hi
  omega
 ·have h1:=root i hf
  rw [zCI hi,h0r i hi] at h1
  by_cases h2:rowS b.length (gt p) i<ga a i
  ·rw [if_pos h2] at h1
   exact ⟨h2,h1⟩
  ·rw [if_neg h2] at h1
   omega
end
end Go.OT
namespace Go.OT
open Go.BF
structure Sz (R C:Nat) (q:List (List Int)):Prop where
 rows:q.length=R
 cols:∀ i,i<R→(q.getD i []).length=C
theorem Tb.sz {R C:Nat} {lo hi:Int} {p:List (List Int)} (h:Tb R C lo hi p):Sz R C p:=⟨h.rows,h.cols⟩
def bump (f:Nat→Nat→Int) (i j:Nat) (d:Int):Nat→Nat→Int:=fun i' j'=>f i' j'+if i'=i∧j'=j then d else 0
section
variable {R C:Nat} {q:List (List Int)} {i j:Nat} {d:Int}
theorem Sz.add (h:Sz R C q) (hi:i<R):Sz R C (addAt q i j d):=by
 refine ⟨by simp [addAt,h.rows],fun k hk=>?_⟩
 unfold addAt
 rw [getD_set]
 split
 ·rw [List.length_set]; exact h.cols i hi
 ·exact h.cols k hk
theorem zDp (h:Sz R C q) (hi:i<R) (hj:j<C):gt (addAt q i j d)=bump (gt q) i j d:=by
 funext i' j'
 unfold gt addAt bump
 dsimp only
 rw [getD_set]
 by_cases h1:i'=i
 ·subst h1
  rw [if_pos ⟨rfl,by rw [h.rows]; exact hi⟩,zBw (by rw [h.cols i' hi]; exact hj)]
  by_cases h2:j'=j
  ·subst h2
   rw [if_pos rfl,if_pos ⟨rfl,rfl⟩]
  ·rw [if_neg h2,if_neg (fun h=>h2 h.2)]; omega
 ·rw [if_neg (fun h=>h1 h.1.symm),if_neg (fun h=>h1 h.1)]; omega
theorem zEt (f:Nat→Nat→Int) (hj:j<C) (k:Nat):rowS C (bump f i j d) k=rowS C f k+if k=i then d else 0:=by
 unfold rowS bump
 rw [zCO]
 congr 1
 by_cases hk:k=i
 ·subst hk
  rw [if_pos rfl]
  refine Eq.trans (zAm C fun j' _=>?_) ((zKo d j C).trans (if_pos hj))
  by_cases h:j'=j
  ·rw [if_pos ⟨rfl,h⟩,if_pos h]
  ·rw [if_neg (fun h2=>h h2.2),if_neg h]
 ·rw [if_neg hk]
  refine Eq.trans (zAm C fun j' _=>?_) (zDk C)
  exact if_neg (fun h=>hk h.1)
theorem zEh (f:Nat→Nat→Int) (hi:i<R) (k:Nat):colS R (bump f i j d) k=colS R f k+if k=j then d else 0:=by
 unfold colS bump
 rw [zCO]
 congr 1
 by_cases hk:k=j
 ·subst hk
  rw [if_pos rfl]
  refine Eq.trans (zAm R fun i' _=>?_) ((zKo d i R).trans (if_pos hi))
  by_cases h:i'=i
  ·rw [if_pos ⟨h,rfl⟩,if_pos h]
  ·rw [if_neg (fun h2=>h h2.1),if_neg h]
 ·rw [if_neg hk]
  refine Eq.trans (zAm R fun i' _=>?_) (zDk R)
  exact if_neg (fun h=>hk h.2)
theorem zGx (c f:Nat→Nat→Int) (hi:i<R) (hj:j<C):cst R C c (bump f i j d)=cst R C c f+c i j*d:=by
 unfold cst bump
 have e:c i j*d=sg R (fun i'=>if i'=i then c i j*d else 0):=((zKo (c i j*d) i R).trans (if_pos hi)).symm
 rw [e,←zCO]
 refine zAm R fun i' _=>?_
 by_cases h:i'=i
 ·subst h
  have e2:c i' j*d=sg C (fun j'=>if j'=j then c i' j*d else 0):=((zKo (c i' j*d) j C).trans (if_pos hj)).symm
  rw [if_pos rfl,e2,←zCO]
  refine zAm C fun j' _=>?_
  by_cases h2:j'=j
  ·subst h2
   rw [if_pos ⟨rfl,rfl⟩,if_pos rfl,Int.mul_add]
  ·rw [if_neg (fun h3=>h2 h3.2),if_neg h2,Int.add_zero,Int.add_zero]
 ·rw [if_neg h,Int.add_zero]
  exact zAm C fun j' _=>by rw [if_neg (fun h3=>h h3.1),Int.add_zero]
end
structure Fol (R C:Nat) (c:Nat→Nat→Int) (r s:Nat→Int) (x:Dst) (δ:Int) (j:Nat) (q q':List (List Int)):Prop where
 sz:Sz R C q'
 root:∃ i0,i0<R∧(toSt R C x).fr i0 = -1∧x.ra.getD i0 0<far∧(∀ i,i<R→rowS C (gt q') i=rowS C (gt q) i+if i=i0 then 1 else 0)∧cst R C c (gt q')=cst R C c (gt q)+(x.ca.getD j 0 - x.ra.getD i0 0)
 col:∀ j',j'<C→colS R (gt q') j'=colS R (gt q) j'+if j'=j then 1 else 0
 nn:∀ i j,i<R→j<C→0≤gt q' i j
 link:∀ i j',i<R→j'<C→0<gt q' i j'→0<gt q i j'∨(x.ca.getD j' 0=x.ra.getD i 0+c i j'∧x.ra.getD i 0 - r i≤δ∧x.ca.getD j' 0 - s j'≤δ)
theorem zJW (rf cf:List Int) {j:Int} (hj:j<0) (p:List (List Int)):∀ n,follow rf cf n j p=some p
 | 0=>if_pos hj
 | n+1=>if_pos hj
section
variable {R C:Nat} {a:Nat→Int} {c p:Nat→Nat→Int} {r s:Nat→Int} {x:Dst} {δ:Int}
theorem zMh (hd:DistOK R C a c p r s x) (hcf:∀ j,j<C→0≤x.cf.getD j 0) (hold:∀ i j,i<R→j<C→s j≤r i+c i j) (tight:∀ i j,i<R→j<C→0<p i j→s j=r i+c i j) :
 ∀ (n k j:Nat) (q:List (List Int)),BF.Chain far (toSt R C x) k (R+j)→j<C→k≤n→Sz R C q→(∀ i j,i<R→j<C→0≤gt q i j) →
  (∀ k' i (j':Nat),k'<k→i<R→BF.Chain far (toSt R C x) k' i→x.rf.getD i 0=(j':Int)→0<gt q i j')→x.ca.getD j 0 - s j≤δ →
  ∃ q',follow x.rf x.cf n (j:Int) q=some q'∧Fol R C c r s x δ j q q'
 | n,k,j,q,hch,hj,hkn,hsz,hnn,hpos,hδ=>by
  have hch':=hch
  cases hch with
  | zero h1 h2 =>
   rw [zUQ hj] at h2
   have:=hcf j hj
   omega
  | succ h1 h2 h3 =>
   rename_i k1 u
   obtain ⟨e,he,e1,e2,e3,e4⟩:=hd.way.tight (R+j) u h1 h2
   obtain ⟨i,j0,hi,hj0,h|⟨h0,h⟩⟩:=zBI.1 he
   case inr=>subst h; dsimp only at e2; omega
   subst h
   dsimp only at e1 e2 e4
   obtain rfl:j0=j:=by omega
   subst e1
   rw [zCI hi] at e3 e4
   rw [zDu hj] at e4
   rw [zUQ hj] at h2
   have hE:x.ca.getD j0 0=x.ra.getD i 0+c i j0:=by
    have:=hd.rest i j0 hi hj e3; omega
   have hDδ:x.ra.getD i 0 - r i≤δ:=by have:=hold i j0 hi hj; omega
   have hnxt:zDI x.rf x.cf (j0:Int)=x.rf.getD i 0:=by
    unfold zDI
    rw [Int.toNat_natCast,h2,Int.toNat_natCast]
   obtain ⟨n,rfl⟩:∃ m,n=m+1:=⟨n - 1,by omega⟩
   have hfol:follow x.rf x.cf (n+1) (j0:Int) q=follow x.rf x.cf n (x.rf.getD i 0) (zBX x.rf x.cf (j0:Int) q):=by
    rw [←hnxt]
    exact if_neg (by omega)
   rw [hfol]
   have h3':=h3
   cases h3 with
   | zero h4 h5 =>
    have hneg:x.rf.getD i 0<0:=by
     rw [zHt hi] at h5
     by_cases hz:x.rf.getD i 0<0
     ·exact hz
     ·rw [if_neg hz] at h5; omega
    have hstep:zBX x.rf x.cf (j0:Int) q=addAt q i j0 1:=by
     unfold zBX
     dsimp only
     rw [Int.toNat_natCast,h2,Int.toNat_natCast,if_neg (by omega)]
    rw [hstep,zJW _ _ hneg]
    have hg:=zDp (d:=1) hsz hi hj
    refine ⟨_,rfl,hsz.add hi,⟨i,hi,h5,e3,fun i' hi'=>?_,?_⟩,fun j' hj'=>?_,fun i' j' hi' hj'=>?_,fun i' j' hi' hj' h0=>?_⟩
    ·rw [hg,zEt _ hj]
    ·rw [hg,zGx _ _ hi hj]; omega
    ·rw [hg,zEh _ hi]
    ·rw [hg]
     have:=hnn i' j' hi' hj'
     unfold bump
     split<;>omega
    ·rw [hg] at h0
     unfold bump at h0
     by_cases hij:i'=i∧j'=j0
     ·obtain ⟨rfl,rfl⟩:=hij
      exact .inr ⟨hE,hDδ,hδ⟩
     ·rw [if_neg hij] at h0
      exact .inl (by omega)
   | succ h4 h5 h6 =>
    rename_i k2 u2
    have hnn2:¬x.rf.getD i 0<0:=fun hz=>by
     rw [zHt hi,if_pos hz] at h5; omega
    obtain ⟨e',he',f1,f2,f3,f4⟩:=hd.way.tight i u2 h4 h5
    obtain ⟨i',j2,hi',hj2,h|⟨h0,h⟩⟩:=zBI.1 he'
    case inl=>subst h; dsimp only at f2; omega
    subst h
    dsimp only at f1 f2 f4
    subst f2
    subst f1
    rw [zHt hi,if_neg hnn2] at h5
    rw [zDu hj2] at f3 f4
    rw [zCI hi] at f4
    have hrf:x.rf.getD i' 0=(j2:Int):=by omega
    have hD:x.ra.getD i' 0=x.ca.getD j2 0 - c i' j2:=by
     have:=hd.back i' j2 hi hj2 h0 f3; omega
    have hδ2:x.ca.getD j2 0 - s j2≤δ:=by have:=tight i' j2 hi hj2 h0; omega
    have hstep:zBX x.rf x.cf (j0:Int) q=addAt (addAt q i' j0 1) i' j2 (-1):=by
     unfold zBX
     dsimp only
     rw [Int.toNat_natCast,h2,Int.toNat_natCast,hrf,if_pos (by omega),Int.toNat_natCast]
    have hs1:=hsz.add (j:=j0) (d:=1) hi
    have hs2:=hs1.add (j:=j2) (d := -1) hi
    have hg:gt (addAt (addAt q i' j0 1) i' j2 (-1))=bump (bump (gt q) i' j0 1) i' j2 (-1):=by
     rw [zDp hs1 hi hj2,zDp hsz hi hj]
    have hq0:=hpos (k2+1) i' j2 (by omega) hi h3' hrf
    rw [hstep,hrf]
    obtain ⟨q',hq',hF⟩:=zMh hd hcf hold tight n k2 j2 (addAt (addAt q i' j0 1) i' j2 (-1)) h6 hj2 (by omega) hs2 (fun i3 j3 hi3 hj3=>by
     rw [hg]
     have:=hnn i3 j3 hi3 hj3
     unfold bump
     by_cases hij:i3=i'∧j3=j2
     ·obtain ⟨k1,k2⟩:=hij
      subst k1
      subst k2
      split<;>split<;>omega
     ·rw [if_neg hij]
      split<;>omega) (fun k3 i3 j3 hk3 hi3 hc3 hr3=>by
     have hne:i3≠i':=fun e=>by
      subst e
      have:=BF.Chain.len hc3 _ h3'
      omega
     have:=hpos k3 i3 j3 (by omega) hi3 hc3 hr3
     rw [hg]
     unfold bump
     rw [if_neg (fun h=>hne h.1),if_neg (fun h=>hne h.1)]
     omega) hδ2
    refine ⟨q',hq',hF.sz,?_,fun j' hj'=>?_,hF.nn,fun i3 j3 hi3 hj3 h0'=>?_⟩
    ·obtain ⟨i0,g1,g2,g3,g4,g5⟩:=hF.root
     refine ⟨i0,g1,g2,g3,fun i3 hi3=>?_,?_⟩
     ·rw [g4 i3 hi3,hg,zEt _ hj2,zEt _ hj]
      by_cases h:i3=i'
      ·rw [if_pos h,if_pos h]; omega
      ·rw [if_neg h,if_neg h]; omega
     ·rw [g5,hg,zGx _ _ hi hj2,zGx _ _ hi hj]; omega
    ·rw [hF.col j' hj',hg,zEh _ hi,zEh _ hi]
     by_cases h:j'=j2
     ·rw [if_pos h,if_pos h]; omega
     ·rw [if_neg h,if_neg h]; omega
    ·rcases hF.link i3 j3 hi3 hj3 h0' with h|h
     ·rw [hg] at h
      unfold bump at h
      by_cases hij:i3=i'∧j3=j0
      ·obtain ⟨k1,k2⟩:=hij
       subst k1
       subst k2
       exact .inr ⟨hE,hDδ,hδ⟩
      ·rw [if_neg hij] at h
       split at h
       ·exact .inl (by omega)
       ·exact .inl (by omega)
     ·exact .inr h
end
theorem zDY (cols ca:List Int):∀ n,(zB0 cols ca n = -1∧∀ j,j<n→0<cols.getD j 0→ca.getD j 0<far→False) ∨
 ∃ m:Nat,m<n∧zB0 cols ca n=(m:Int)∧0<cols.getD m 0∧ca.getD m 0<far∧∀ j,j<n→0<cols.getD j 0→ca.getD j 0<far→ca.getD m 0≤ca.getD j 0
 | 0=>.inl ⟨rfl,fun j hj=>by omega⟩
 | n+1=>by
  have e:zB0 cols ca (n+1)=if 0<cols.getD n 0∧ca.getD n 0<far∧(zB0 cols ca n<0∨ca.getD n 0<ca.getD (zB0 cols ca n).toNat 0) then (n:Int) else zB0 cols ca n:=rfl
  rcases zDY cols ca n with ⟨h1,h2⟩|⟨m,h1,h2,h3,h4,h5⟩
  ·rw [e,h1]
   by_cases hc:0<cols.getD n 0∧ca.getD n 0<far
   ·rw [if_pos ⟨hc.1,hc.2,.inl (by omega)⟩]
    refine .inr ⟨n,by omega,rfl,hc.1,hc.2,fun j hj k1 k2=>?_⟩
    rcases Nat.lt_or_ge j n with h|h
    ·exact (h2 j h k1 k2).elim
    ·obtain rfl:j=n:=by omega
     exact Int.le_refl _
   ·rw [if_neg (fun h=>hc ⟨h.1,h.2.1⟩)]
    refine .inl ⟨rfl,fun j hj k1 k2=>?_⟩
    rcases Nat.lt_or_ge j n with h|h
    ·exact h2 j h k1 k2
    ·obtain rfl:j=n:=by omega
     exact hc ⟨k1,k2⟩
  ·rw [e,h2,Int.toNat_natCast]
   by_cases hc:0<cols.getD n 0∧ca.getD n 0<far∧ca.getD n 0<ca.getD m 0
   ·rw [if_pos ⟨hc.1,hc.2.1,.inr hc.2.2⟩]
    refine .inr ⟨n,by omega,rfl,hc.1,hc.2.1,fun j hj k1 k2=>?_⟩
    rcases Nat.lt_or_ge j n with h|h
    ·have:=h5 j h k1 k2; omega
    ·obtain rfl:j=n:=by omega
     exact Int.le_refl _
   ·rw [if_neg (fun h=>hc ⟨h.1,h.2.1,by rcases h.2.2 with h|h<;>omega⟩)]
    refine .inr ⟨m,by omega,rfl,h3,h4,fun j hj k1 k2=>?_⟩
    rcases Nat.lt_or_ge j n with h|h
    ·exact h5 j h k1 k2
    ·obtain rfl:j=n:=by omega
     by_cases h:ca.getD j 0<ca.getD m 0
     ·exact (hc ⟨k1,k2,h⟩).elim
     ·omega
structure Way2 (a b:List Int) (c p:List (List Int)) (V:Int):Prop where
 shp:Shp a b p
 part:IsPart a.length b.length (ga a) (ga b) (gt p)
 good:∃ r s:Nat→Int,Good a.length b.length (ga a) (ga b) (gt c) (gt p) r s V∧(∀ i,i<a.length→r i≤99)∧∀ j,j<b.length→0≤s j∧s j≤99
section
variable {a b:List Int} {c p:List (List Int)} {V:Int}
theorem IsPart.at_le {R C:Nat} {a b:Nat→Int} {p:Nat→Nat→Int} (h:IsPart R C a b p) {i j:Nat} (hi:i<R) (hj:j<C):p i j≤b j :=
 Int.le_trans (sg_at R (f:=fun i=>p i j) (fun i hi=>h.nn i j hi hj) i hi) (h.col j hj)
theorem zFP (hc:Tb a.length b.length 0 99 c) (h:Way2 a b c p V) (hb:bestV a b c p<0):nextP a b c p=some p∧nextN a b c p=0 ∧
 ((∀ i,i<a.length→rowS b.length (gt p) i=ga a i)∨(∀ j,j<b.length→colS a.length (gt p) j=ga b j)):=by
 refine ⟨if_pos hb,if_pos hb,?_⟩
 obtain ⟨r,s,hg,hr,hs⟩:=h.good
 have hd:=zSY hc h.shp h.part hg hr fun j hj=>(hs j hj).2
 have hfar:far=1099511627776:=rfl
 rcases zDY (leftV a b p).2 (dist a b c p).ca b.length with ⟨h1,h2⟩|⟨m,h1,h2,h3,h4,h5⟩
 ·apply Classical.byContradiction
  intro hn
  have h6:∃ i,i<a.length∧rowS b.length (gt p) i<ga a i:=Classical.byContradiction fun hx=>hn (.inl fun i hi=>by
   have:=h.part.row i hi
   have:¬rowS b.length (gt p) i<ga a i:=fun h=>hx ⟨i,hi,h⟩
   omega)
  have h7:∃ j,j<b.length∧colS a.length (gt p) j<ga b j:=Classical.byContradiction fun hx=>hn (.inr fun j hj=>by
   have:=h.part.col j hj
   have:¬colS a.length (gt p) j<ga b j:=fun h=>hx ⟨j,hj,h⟩
   omega)
  obtain ⟨i,hi,h6⟩:=h6
  obtain ⟨j,hj,h7⟩:=h7
  have h8:=hd.left i hi h6
  have h9:=hd.rest i j hi hj (by omega)
  have h10:gt c i j≤99:=(hc.at' i j hi hj).2
  exact h2 j hj (by rw [zGG h.shp hj]; omega) (by omega)
 ·have:bestV a b c p=(m:Int):=h2
  omega
theorem zEp (hc:Tb a.length b.length 0 99 c) (h:Way2 a b c p V) (hb:¬bestV a b c p<0):∃ p',nextP a b c p=some p'∧Way2 a b c p' (nextN a b c p)∧V≤nextN a b c p∧0≤nextN a b c p∧nextN a b c p≤99 ∧
 units a.length b.length (gt p')=units a.length b.length (gt p)+1∧cst a.length b.length (gt c) (gt p')=cst a.length b.length (gt c) (gt p)+nextN a b c p:=by
 obtain ⟨r,s,hg,hr,hs⟩:=h.good
 have hd:=zSY hc h.shp h.part hg hr fun j hj=>(hs j hj).2
 have hst:DSt a.length b.length _ (dist a b c p):=zH6 hc h.shp (a.length+b.length)
 have hfar:far=1099511627776:=rfl
 rcases zDY (leftV a b p).2 (dist a b c p).ca b.length with ⟨h1,h2⟩|⟨m,hm,h2,h3,h4,h5⟩
 ·have:bestV a b c p = -1:=h1
  omega
 ·have hbm:bestV a b c p=(m:Int):=h2
  have hN:nextN a b c p=(dist a b c p).ca.getD m 0:=by
   unfold nextN
   rw [if_neg hb,hbm,Int.toNat_natCast]
  have hP:nextP a b c p=follow (dist a b c p).rf (dist a b c p).cf (a.length+b.length) (m:Int) p:=by
   unfold nextP
   rw [if_neg hb,hbm]
  rw [hP,hN]
  generalize dist a b c p=x at hd hst h4 h5 ⊢
  have hVm:V=s m:=(hg.sleft m hm (by rw [zGG h.shp hm] at h3; omega)).symm
  obtain ⟨k,hk⟩:=hd.way.chain (a.length+m) (by rw [zDu hm]; exact h4)
  have hkN:=Chain.short (N:=a.length+b.length) (fun v hv=>by
   rcases Nat.lt_or_ge v (a.length+b.length) with h|h
   ·exact h
   ·rw [zQh h] at hv; omega) hk
  obtain ⟨q',hq',hF⟩:=zMh (δ:=x.ca.getD m 0 - V) hd (fun j hj=>by
   have:=(hst.b4.at (i:=j) (by rw [hst.l4]; exact hj)).1
   exact this) hg.hold hg.tight (a.length+b.length) k m p hk hm (by omega) h.shp.tab.sz (fun i j hi hj=>h.part.nn i j hi hj) (fun k' i j' hk' hi hc' hr'=>by
    cases hc' with
    | zero g1 g2 =>
     rw [zHt hi,if_neg (by omega)] at g2; omega
    | succ g1 g2 g3 =>
     obtain ⟨e,he,e1,e2,e3,e4⟩:=hd.way.tight i _ g1 g2
     obtain ⟨i',j2,hi',hj2,h|⟨h0,h⟩⟩:=zBI.1 he
     ·subst h; dsimp only at e2; omega
     ·subst h
      dsimp only at e1 e2
      subst e2
      rw [zHt hi,if_neg (by omega)] at g2
      obtain rfl:j2=j':=by omega
      exact h0) (by omega)
  obtain ⟨i0,g1,g2,g3,g4,g5⟩:=hF.root
  obtain ⟨g6,g7⟩:=hd.root i0 g1 g3 g2
  have hcol:∀ j,j<b.length→x.ca.getD j 0≤99:=fun j hj=>by
   have h1:=hd.rest i0 j g1 hj (by omega)
   have:gt c i0 j≤99:=(hc.at' i0 j g1 hj).2
   omega
  have hV:V≤x.ca.getD m 0:=by have:=hd.slow m hm; omega
  have hm0:0≤x.ca.getD m 0:=by have:=hd.slow m hm; have:=(hs m hm).1; omega
  have hleft:=zGG h.shp hm
  have hpart:IsPart a.length b.length (ga a) (ga b) (gt q'):=⟨hF.nn,fun i hi=>by
   rw [g4 i hi]
   have:=h.part.row i hi
   by_cases h:i=i0
   ·subst h; rw [if_pos rfl]; omega
   ·rw [if_neg h]; omega,fun j hj=>by
   rw [hF.col j hj]
   have:=h.part.col j hj
   by_cases h:j=m
   ·subst h
    rw [hleft] at h3
    rw [if_pos rfl]; omega
   ·rw [if_neg h]; omega⟩
  refine ⟨q',hq',⟨⟨h.shp.a5,h.shp.b5,h.shp.ha,h.shp.hb,hF.sz.rows,hF.sz.cols,fun i j hi hj=>⟨hF.nn i j hi hj,Int.le_trans (hpart.at_le hi hj) (h.shp.hb.at hj).2⟩⟩,hpart,?_⟩,hV,hm0,hcol m hm,?_,?_⟩
  ·
   let D:=x.ca.getD m 0 - V
   have hD:D=x.ca.getD m 0 - V:=rfl
   have hDn:0≤D:=by omega
   let s':Nat→Int:=fun j=>min (x.ca.getD j 0) (s j+D)
   let r':Nat→Int:=fun i=>if x.ra.getD i 0<far then min (x.ra.getD i 0) (r i+D) else 99
   have hs':∀ j,s' j=min (x.ca.getD j 0) (s j+D):=fun _=>rfl
   have hr1:∀ i,x.ra.getD i 0<far→r' i=min (x.ra.getD i 0) (r i+D):=fun i h=>if_pos h
   have hr2:∀ i,¬x.ra.getD i 0<far→r' i=99:=fun i h=>if_neg h
   have hlink:∀ i j,i<a.length→j<b.length→0<gt p i j→x.ra.getD i 0<far∧x.ca.getD j 0=x.ra.getD i 0+gt c i j:=fun i j hi hj h0=>by
    have k1:=hcol j hj
    have k2:=hd.back i j hi hj h0 (by omega)
    have k3:0≤gt c i j:=(hc.at' i j hi hj).1
    have k4:=hd.rest i j hi hj (by omega)
    exact ⟨by omega,by omega⟩
   refine ⟨r',s',⟨fun i j hi hj=>?_,fun i j hi hj h0=>?_,fun i hi=>?_,fun i hi hl=>?_,fun j hj=>?_,fun j hj hl=>?_⟩,fun i hi=>?_,fun j hj=>?_⟩
   ·have k1:=hcol j hj
    have k3:0≤gt c i j:=(hc.at' i j hi hj).1
    by_cases hx:x.ra.getD i 0<far
    ·have k4:=hd.rest i j hi hj hx
     have k5:=hg.hold i j hi hj
     rw [hs',hr1 i hx]; omega
    ·rw [hs',hr2 i hx]; omega
   ·rcases hF.link i j hi hj h0 with hl|⟨l1,l2,l3⟩
    ·obtain ⟨k1,k2⟩:=hlink i j hi hj hl
     have k3:=hg.tight i j hi hj hl
     rw [hs',hr1 i k1]; omega
    ·have k1:=hcol j hj
     have k3:0≤gt c i j:=(hc.at' i j hi hj).1
     rw [hs',hr1 i (by omega)]; omega
   ·have k1:=hd.rlow i hi
    have k2:=hg.rnn i hi
    by_cases hx:x.ra.getD i 0<far
    ·rw [hr1 i hx]; omega
    ·rw [hr2 i hx]; omega
   ·have hl2:rowS b.length (gt p) i<ga a i:=by
     rw [g4 i hi] at hl
     split at hl<;>omega
    have k1:=hd.left i hi hl2
    have k2:=hg.rnn i hi
    rw [hr1 i (by omega)]; omega
   ·rw [hs']
    have:=hg.sle j hj
    omega
   ·have hl2:colS a.length (gt p) j<ga b j:=by
     rw [hF.col j hj] at hl
     split at hl<;>omega
    have k1:=hg.sleft j hj hl2
    have k2:=h5 j hj (by rw [zGG h.shp hj]; omega) (by have:=hcol j hj; omega)
    rw [hs']; omega
   ·by_cases hx:x.ra.getD i 0<far
    ·rw [hr1 i hx]
     have:r i+D≤99∨x.ra.getD i 0≤99:=by
      by_cases hrow:∃ j,j<b.length∧0<gt p i j
      ·obtain ⟨j,hj,h0⟩:=hrow
       have k2:=(hlink i j hi hj h0).2
       have k3:0≤gt c i j:=(hc.at' i j hi hj).1
       have:=hcol j hj
       right; omega
      ·right
       obtain ⟨k',hk'⟩:=hd.way.chain i (by rw [zCI hi]; exact hx)
       cases hk' with
       | zero w1 w2 =>
        have:=(hd.root i hi hx w2).2
        omega
       | succ w1 w2 w3 =>
        obtain ⟨e,he,e1,e2,e3,e4⟩:=hd.way.tight i _ w1 w2
        obtain ⟨i',j2,hi',hj2,h|⟨h0,h⟩⟩:=zBI.1 he
        ·subst h; dsimp only at e2; omega
        ·subst h
         dsimp only at e2
         subst e2
         exact (hrow ⟨j2,hj2,h0⟩).elim
     omega
    ·rw [hr2 i hx]; omega
   ·have k1:=hd.slow j hj
    have k2:=(hs j hj).1
    have k3:=hcol j hj
    rw [hs']; omega
  ·unfold units
   rw [zAm a.length (fun i hi=>g4 i hi),zCO,zKo,if_pos g1]
  ·rw [g5,g7]; omega
end
end Go.OT
namespace Go.OT
def sumL (l:List Int):Int:=sg l.length (ga l)
def iterV (a b:List Int) (c:List (List Int)):Nat→List (List Int)→List (List Int)
 | 0,p=>p
 | n+1,p=>if bestV a b c p<0 then p else iterV a b c n ((nextP a b c p).getD [])
def zDJ (a b:List Int):List (List Int):=List.replicate a.length (List.replicate b.length 0)
def cheapV (a b:List Int) (c:List (List Int)):List (List Int):=iterV a b c ((sumL a).toNat+1) (zDJ a b)
structure MC (a b:List Int) (c:List (List Int)):Prop where
 a5:1≤a.length∧a.length≤6
 b5:1≤b.length∧b.length≤6
 ha:Bnd 0 200 a
 hb:Bnd 0 200 b
 hc:Tb a.length b.length 0 99 c
theorem zC3 (a b:List Int):gt (zDJ a b)=fun _ _=>0:=by
 funext i j
 unfold gt zDJ
 rw [List.getD_eq_getElem?_getD,List.getD_eq_getElem?_getD,List.getElem?_replicate]
 split
 ·rw [Option.getD_some,List.getElem?_replicate]
  split<;>rfl
 ·rfl
theorem zJb (C i:Nat):rowS C (fun _ _=>0) i=0:=zDk C
theorem zL0 (R j:Nat):colS R (fun _ _=>0) j=0:=zDk R
theorem zHu (R C:Nat):units R C (fun _ _=>0)=0:=by
 unfold units
 rw [zAm R fun i _=>zJb C i,zDk]
theorem zVo (R C:Nat) (c:Nat→Nat→Int):cst R C c (fun _ _=>0)=0:=by
 unfold cst
 rw [zAm R fun i _=>(zAm C fun j _=>Int.mul_zero _).trans (zDk C),zDk]
section
variable {a b:List Int} {c:List (List Int)}
theorem zMa (a b:List Int) {lo hi:Int} (h1:lo≤0) (h2:0≤hi):Tb a.length b.length lo hi (zDJ a b):=by
 refine ⟨by simp [zDJ],fun i hi=>?_,fun i j _ _=>?_⟩
 ·unfold zDJ
  rw [List.getD_eq_getElem?_getD,List.getElem?_replicate,if_pos hi,Option.getD_some,List.length_replicate]
 ·have:=congrFun (congrFun (zC3 a b) i) j
  unfold gt at this
  rw [this]
  exact ⟨h1,h2⟩
theorem MC.start (h:MC a b c):Way2 a b c (zDJ a b) 0:=by
 refine ⟨⟨h.a5,h.b5,h.ha,h.hb,zMa a b (by omega) (by omega)⟩,?_,fun _=>0,fun _=>0,?_,fun _ _=>by dsimp only; omega,fun _ _=>by dsimp only; omega⟩
 ·rw [zC3]
  exact ⟨fun _ _ _ _=>Int.le_refl _,fun i hi=>by rw [zJb]; exact (h.ha.at hi).1,fun j hj=>by rw [zL0]; exact (h.hb.at hj).1⟩
 ·rw [zC3]
  refine ⟨fun i j hi hj=>?_,fun i j _ _ h0=>absurd h0 (by omega),fun _ _=>Int.le_refl _,fun _ _ _=>rfl,fun _ _=>Int.le_refl _,fun _ _ _=>rfl⟩
  have:0≤gt c i j:=(h.hc.at' i j hi hj).1
  omega
theorem IsPart.units_le {p:Nat→Nat→Int} (h:IsPart a.length b.length (ga a) (ga b) p):0≤units a.length b.length p∧units a.length b.length p≤sumL a∧units a.length b.length p≤sumL b :=
 ⟨zDe _ fun i hi=>zDe _ fun j hj=>h.nn i j hi hj,sg_le _ fun i hi=>h.row i hi,by rw [zCJ]; exact sg_le _ fun j hj=>h.col j hj⟩
theorem zPN (hc:Tb a.length b.length 0 99 c):∀ (n:Nat) (p:List (List Int)) (V:Int),Way2 a b c p V→sumL a - units a.length b.length (gt p)<n →
 (∃ V',Way2 a b c (iterV a b c n p) V')∧bestV a b c (iterV a b c n p)<0
 | 0,p,V,h,hn=>by have:=h.part.units_le; omega
 | n+1,p,V,h,hn=>by
  by_cases hb:bestV a b c p<0
  ·have e:iterV a b c (n+1) p=p:=if_pos hb
   rw [e]
   exact ⟨⟨V,h⟩,hb⟩
  ·obtain ⟨p',h1,h2,h3,h4,h5,h6,h7⟩:=zEp hc h hb
   have e:iterV a b c (n+1) p=iterV a b c n p':=by
    show (if _ then _ else _)=_
    rw [if_neg hb,h1]; rfl
   rw [e]
   exact zPN hc n p' _ h2 (by omega)
theorem MC.cheap (h:MC a b c):(∃ V,Way2 a b c (cheapV a b c) V)∧bestV a b c (cheapV a b c)<0:=by
 refine zPN h.hc _ _ 0 h.start ?_
 rw [zC3,zHu]
 omega
structure Best (a b:List Int) (c p:List (List Int)):Prop where
 shp:Shp a b p
 plan:IsPlan a.length b.length (ga a) (ga b) (gt p)
 good:∃ r s:Nat→Int,Holds a.length b.length (gt c) (fun i => - r i) s∧Tight a.length b.length (gt c) (gt p) (fun i => - r i) s∧(∀ i,i<a.length→0≤r i∧r i≤99)∧∀ j,j<b.length→0≤s j∧s j≤99
theorem MC.best (h:MC a b c) (hs:sumL a=sumL b):Best a b c (cheapV a b c):=by
 obtain ⟨⟨V,h1⟩,hb⟩:=h.cheap
 have h2:=(zFP h.hc h1 hb).2.2
 obtain ⟨r,s,hg,hr,hs2⟩:=h1.good
 have h3:(∀ i,i<a.length→rowS b.length (gt (cheapV a b c)) i=ga a i)∧∀ j,j<b.length→colS a.length (gt (cheapV a b c)) j=ga b j:=by
  rcases h2 with h2|h2
  ·refine ⟨h2,fun j hj=>?_⟩
   have e1:units a.length b.length (gt (cheapV a b c))=sumL a:=zAm _ h2
   rw [zCJ,hs] at e1
   have e2:=zLB b.length (f:=fun j=>ga b j - colS a.length (gt (cheapV a b c)) j) (fun j hj=>by have:=h1.part.col j hj; omega) (by rw [zGT]; unfold sumL at e1; omega) j hj
   omega
  ·refine ⟨fun i hi=>?_,h2⟩
   have e1:sg b.length (colS a.length (gt (cheapV a b c)))=sumL b:=zAm _ h2
   rw [←zCJ,←hs] at e1
   have e2:=zLB a.length (f:=fun i=>ga a i - rowS b.length (gt (cheapV a b c)) i) (fun i hi=>by have:=h1.part.row i hi; omega) (by rw [zGT]; unfold sumL units at e1; omega) i hi
   omega
 exact ⟨h1.shp,⟨h1.part.nn,h3.1,h3.2⟩,r,s,fun i j hi hj=>by have:=hg.hold i j hi hj; dsimp only; omega,fun i j hi hj h0=>by have:=hg.tight i j hi hj h0; dsimp only; omega,fun i hi=>⟨hg.rnn i hi,hr i hi⟩,hs2⟩
end
end Go.OT
