import Derived.Test.YtekfodeknpnkbaaGreatDoorT1
set_option linter.unusedSimpArgs false
set_option linter.unusedVariables false
namespace Go.VS
open Go.RowKit
def mapSV (K:BV→BV):SV→SV
 | .one b=>.one (K b)
 | .tup bs=>.tup (bs.map K)
 | .rcd bs=>.rcd (bs.map K)
def killR (r:Nat) (b:BV):BV:=match b with
 | .ref q=>if q=r then .any else b
 | .refi q _=>if q=r then .any else b
 | .refp q _=>if q=r then .any else b
 | .adr q _ _=>if q=r then .any else b
 | .adri q _ _ _=>if q=r then .any else b
 | .adrf q _ _ _ _ _=>if q=r then .any else b
 | .lits q=>if q=r then .any else b
 | b=>b
def zBG (r:Nat) (b:BV):BV:=match b with
 | .refi q _=>if q=r then .any else b
 | .adri q _ _ _=>if q=r then .any else b
 | b=>b
def killB (x:Nat) (b:BV):BV:=match b with
 | .box q=>if q=x then .any else b
 | .boxf q _ _ _=>if q=x then .any else b
 | .fn _ caps=>if caps.elem x then .any else b
 | b=>b
def AS.map (s:AS) (K:BV→BV):AS:={s with env:=fun i=>mapSV K (s.env i),boxes:=fun i=>(s.boxes i).map (mapSV K)}
def AS.setRoot (s:AS) (r:Nat) (rc:Option RC):AS:={s with roots:=upd s.roots r rc}
def AS.setBox (s:AS) (b:Nat) (sv:SV):AS:={s with boxes:=upd s.boxes b (some sv)}
def zAT (a b:Sh) (v:a.T):Option b.T:=if h:a=b then some (h ▸ v) else none
theorem zEa (a:Sh) (v:a.T):zAT a a v=some v:=by simp [zAT]
def badE (s:AS):Prop×AS×SV:=(False,s,.one .any)
def zG0:SV→Nat
 | .one (.val sh _)=>sh.size
 | .one _=>1
 | .rcd bs=>bs.length
 | .tup _=>0
def sized:SV→Bool
 | .one (.val _ _)=>true
 | .one b=>b.single
 | .rcd _=>true
 | .tup _=>false
def fitsT (G:Lang) (t:TypeId):SV→Prop
 | .one (.val sh _)=>G.sh t=some sh
 | .one b=>b.single=true∧G.plain t=true
 | .rcd bs=>G.ones t=some bs.length
 | .tup _=>False
def lens (G:Lang) (s:AS) (t:TypeId):SV→Option ((sh:Sh)×List sh.T)
 | .one (.val (.sl sh) xs)=>some ⟨sh,xs⟩
 | .one .nils=>match G.sh t with
  | some (.sl sh)=>some ⟨sh,[]⟩
  | _=>none
 | .one (.ref r)=>match s.roots r with
  | some (.flat _ sh xs)=>some ⟨sh,xs⟩
  | _=>none
 | .one (.refi r i)=>match s.roots r with
  | some (.deep _ _ sh xss)=>if i<xss.length then some ⟨sh,xss.getD i []⟩ else none
  | _=>none
 | _=>none
def ef (G:Lang) (nl:Nat) (s:AS) (dst:Option Tmp):Op→Prop×AS×SV
 | .store t x y=>match ev s x,ev s y with
  | .one (.adr r i sz),.one (.val sh v)=>match s.roots r with
   | some (.flat e sh' xs)=>match zAT sh sh' v with
    | some v'=>(G.sh t=some sh'∧sz=sh'.size∧i<xs.length,s.setRoot r (some (.flat e sh' (xs.set i v'))),.one .any)
    | none=>badE s
   | some (.rags e sh' xss)=>match zAT sh (.sl sh') v with
    | some v'=>(G.sh t=some (.sl sh')∧sz=1∧i<xss.length,s.setRoot r (some (.rags e sh' (xss.set i v'))),.one .any)
    | none=>badE s
   | _=>badE s
  | .one (.adr r i sz),.one (.ref q)=>match s.roots r,s.roots q with
   | some (.deep e e2 sh xss),some (.flat e' sh' ys)=>match zAT (.sl sh') (.sl sh) ys with
    | some ys'=>(G.sh t=some (.sl sh)∧sz=1∧i<xss.length∧r≠q∧nl≤q∧e'=e2,((s.map (killR q)).map (zBG r)).setRoot q none |>.setRoot r (some (.deep e e2 sh (xss.set i ys'))),.one .any)
    | none=>badE s
   | some (.hole e e2 sh xss k),some (.flat e' sh' ys)=>match zAT (.sl sh') (.sl sh) ys with
    | some ys'=>(G.sh t=some (.sl sh)∧sz=1∧i<xss.length∧i=k∧r≠q∧nl≤q∧e'=e2,((s.map (killR q)).map (zBG r)).setRoot q none |>.setRoot r (some (.deep e e2 sh (xss.set i ys'))),.one .any)
    | none=>badE s
   | _,_=>badE s
  | .one (.adri r i j sz),.one (.val sh v)=>match s.roots r with
   | some (.deep e e2 sh' xss)=>match zAT sh sh' v with
    | some v'=>(G.sh t=some sh'∧sz=sh'.size∧i<xss.length∧j<(xss.getD i []).length,s.setRoot r (some (.deep e e2 sh' (xss.set i ((xss.getD i []).set j v')))),.one .any)
    | none=>badE s
   | _=>badE s
  | .one (.box b),v=>match s.boxes b with
   | some old=>(zG0 old=zG0 v∧sized old=true∧fitsT G t v,s.setBox b v,.one .any)
   | none=>badE s
  | .one (.boxf b _ _ off),.one (.val (.prod p q) v)=>match s.boxes b with
   | some (.rcd bs)=>(off+(p.size+q.size)≤bs.length∧G.sh t=some (.prod p q),s.setBox b (.rcd (bs.take off++zE8 (.prod p q) v++bs.drop (off+(p.size+q.size)))),.one .any)
   | _=>badE s
  | .one (.boxf b _ _ off),.one v=>match s.boxes b with
   | some (.rcd bs)=>(off<bs.length∧v.single=true∧G.plain t=true,s.setBox b (.rcd (bs.set off v)),.one .any)
   | _=>badE s
  | _,_=>badE s
 | .makeSlice t l c=>match dst,ev s l,ev s c,G.sh t with
  | some d,.one (.val .int n),.one (.val .int m),some (.sl (.sl sh)) =>
   ((n:Int)=m∧cutOK n 1000000∧nl≤d∧sh.flat=true,(s.map (killR d)).setRoot d (some (.deep (G.el t) (G.el (G.el t)) sh (List.replicate (Int.toNat n) []))),.one (.ref d))
  | some d,.one (.val .int n),.one (.val .int m),some (.sl sh) =>
   ((n:Int)=m∧cutOK n 1000000∧nl≤d∧sh.flat=true,(s.map (killR d)).setRoot d (some (.flat (G.el t) sh (List.replicate (Int.toNat n) sh.zero))),.one (.ref d))
  | _,_,_,_=>badE s
 | .buildSlice t n parts=>match dst,G.sh t with
  | some d,some (.sl sh)=>match zDi sh (parts.toList.map fun p=>ev s p.2) with
   | some xs=>(parts.toList.map (·.1)=List.range n∧n≤1000∧sh.flat=true∧nl≤d,(s.map (killR d)).setRoot d (some (.flat (G.el t) sh xs)),.one (.ref d))
   | none=>badE s
  | _,_=>badE s
 | .alloc t=>match dst,G.sh t with
  | some d,some sh=>(nl≤d,(s.map (killB d)).setBox d (if sh.agg then .rcd (zeroCells sh) else .one ((zeroCells sh).headD .any)),.one (.box d))
  | some d,none=>(G.fnT t=true∧nl≤d,(s.map (killB d)).setBox d (.one .nilf),.one (.box d))
  | _,_=>badE s
 | .box _ x=>match dst,ev s x with
  | some d,.one v=>((v.single=true∨(∃ sh y,v=.val sh y))∧nl≤d,(s.map (killB d)).setBox d (mapSV (killB d) (.one v)),.one (.box d))
  | some d,.rcd bs=>(nl≤d,(s.map (killB d)).setBox d (mapSV (killB d) (.rcd bs)),.one (.box d))
  | _,_=>badE s
 | .call {callee:=.builtin .append,args,argTypes}=>match dst,args.toList,argTypes.toList with
  | some d,[x,y],[t,t']=>match ev s x,ev s y with
   | .one (.ref r),.one (.lits q)=>match s.roots r,s.roots q with
    | some (.deep e e2 sh xss),some (.flat e' sh' ys)=>match zAT (.sl sh') (.sl sh) ys with
     | some ys'=>(t=t'∧G.sh t=some (.sl (.sl sh))∧e=G.el t∧r≠q∧nl≤q∧nl≤r∧e'=e2∧xss.length≤1000000,((s.map (killR q)).map (killR r)).setRoot q none |>.setRoot r (some (.deep e e2 sh (xss++[ys']))),.one (.ref r))
     | none=>badE s
    | _,_=>badE s
   | .one .nils,.one (.lits q)=>match s.roots q,G.sh t with
    | some (.flat e' sh' ys),some (.sl (.sl sh))=>match zAT (.sl sh') (.sl sh) ys with
     | some ys'=>(t=t'∧d≠q∧nl≤q∧nl≤d∧e'=G.el (G.el t),((s.map (killR q)).map (killR d)).setRoot q none |>.setRoot d (some (.deep (G.el t) e' sh [ys'])),.one (.ref d))
     | none=>badE s
    | _,_=>badE s
   | .one (.ref r),v=>match s.roots r,lens G s t v with
    | some (.flat e sh xs),some ⟨sh',ys⟩=>match zAT (.sl sh') (.sl sh) ys with
     | some ys'=>(t=t'∧G.sh t=some (.sl sh)∧e=G.el t∧nl≤r∧xs.length≤1000000∧(ys').length≤1000000,(s.map (killR r)).setRoot r (some (.flat e sh (xs++ys'))),.one (.ref r))
     | none=>badE s
    | _,_=>badE s
   | .one .nils,v=>match lens G s t v,G.sh t with
    | some ⟨sh',ys⟩,some (.sl sh)=>match zAT (.sl sh') (.sl sh) ys with
     | some ys'=>(t=t'∧sh.flat=true∧nl≤d∧(ys').length≤1000000,(s.map (killR d)).setRoot d (some (.flat (G.el t) sh ys')),.one (.ref d))
     | none=>badE s
    | _,_=>badE s
   | .one (.refi r i),v=>match s.roots r,lens G s t v with
    | some (.deep e e2 sh xss),some ⟨sh',ys⟩=>match zAT (.sl sh') (.sl sh) ys with
     | some ys'=>(t=t'∧G.sh t=some (.sl sh)∧e2=G.el t∧i<xss.length∧nl≤d∧r≠d∧(xss.getD i []).length≤1000000∧(ys').length≤1000000,
      ((s.map (killR d)).map (zBG r)).setRoot r (some (.hole e e2 sh xss i)) |>.setRoot d (some (.flat e2 sh (xss.getD i []++ys'))),.one (.ref d))
     | none=>badE s
    | _,_=>badE s
   | _,_=>badE s
  | _,_,_=>badE s
 | _=>badE s
section
variable {C:Ctx} {G:Lang} {γ:Gam} {s:AS} {a:Act} {w:World}
def Wrote (C:Ctx) (a:Act) (w:World) (N:Nat) (o:Oper) (r:Prop×AS×SV):Prop :=
 r.1→∃ v w' γ',((execOp a.eval o).run C.P w=.ok (.value v) w'∨((execOp a.eval o).run C.P w=.ok .skip w'∧v=undef))∧Rel C γ' r.2.1 a w'∧svRep C γ' w' r.2.2 v
theorem Wrote.bad {N:Nat} {o:Oper}:Wrote C a w N o (badE s):=fun h=>h.elim
def Forgets (K:BV→BV) (γ γ':Gam):Prop:=∀ b,K b=.any∨(K b=b∧Agree γ γ' b)
theorem zFD {K:BV→BV} {γ':Gam} {w':World} (hs:Sub C γ w γ' w') (hK:Forgets K γ γ'):∀ (bs:List BV) (vs:List Value),zAp C γ w bs vs→zAp C γ' w' (bs.map K) vs
 | [],_,h=>h
 | b::bs,vs,h=>by
  obtain ⟨v,vs',rfl,h1,h2⟩:=h
  refine ⟨v,vs',rfl,?_,zFD hs hK bs vs' h2⟩
  rcases hK b with h3|⟨h3,h4⟩
  ·rw [h3]; trivial
  ·rw [h3]; exact zCd hs h4 h1
theorem zGZ {K:BV→BV} {γ':Gam} {w':World} (hs:Sub C γ w γ' w') (hK:Forgets K γ γ') {sv:SV} {v:Value} (h:svRep C γ w sv v):svRep C γ' w' (mapSV K sv) v:=by
 cases sv with
 | one b =>
  rcases hK b with h3|⟨h3,h4⟩
  ·simp only [mapSV,h3]; trivial
  ·simp only [mapSV,h3]; exact zCd hs h4 h
 | tup bs =>
  obtain ⟨vs,h1,h2⟩:=h
  exact ⟨vs,h1,zFD hs hK bs vs h2⟩
 | rcd bs =>
  obtain ⟨vs,h1,h2,h3⟩:=h
  exact ⟨vs,h1,zFD hs hK bs vs h2,h3⟩
theorem zC8 {K:BV→BV} {γ':Gam} {w':World} (hs:Sub C γ w γ' w') (hK:Forgets K γ γ') {sv:SV} {cs:List Value} (h:zBb C γ w sv cs):zBb C γ' w' (mapSV K sv) cs:=by
 cases sv with
 | one b =>
  obtain ⟨v,h1,h2⟩:=h
  refine ⟨v,?_,h2⟩
  rcases hK b with h3|⟨h3,h4⟩
  ·rw [h3]; trivial
  ·rw [h3]; exact zCd hs h4 h1
 | tup bs=>exact h
 | rcd bs=>exact zFD hs hK bs cs h
theorem Forgets.id (γ:Gam):Forgets (fun b=>b) γ γ:=fun b=>.inr ⟨rfl,Agree.refl γ b⟩
theorem Forgets.comp {K K':BV→BV} {γ γ':Gam} (h:Forgets K γ γ') (h':∀ b,K' b=.any∨K' b=b):Forgets (fun b=>K' (K b)) γ γ':=by
 intro b
 rcases h b with h1|⟨h1,h2⟩
 ·left
  rcases h' .any with h3|h3
  ·simp only [h1,h3]
  ·simp only [h1,h3]
 ·simp only [h1]
  rcases h' b with h3|h3
  ·left; exact h3
  ·right; exact ⟨h3,h2⟩
theorem zPU (sv:SV):mapSV (fun b=>b) sv=sv:=by cases sv<;>simp [mapSV]
theorem AS.map_env (s:AS) (K:BV→BV) (i:Nat):(s.map K).env i=mapSV K (s.env i):=rfl
structure Write (C:Ctx) (γ:Gam) (w w':World) (g:Nat) (l:Loc):Prop where
 own:γ.own g=some l
 may:C.w0.heap.size≤g∨C.L g
 grown:w.grownBy w' (some g)
 nmk:∀ d,l≠.mk d
theorem Write.keep {w':World} {g:Nat} {l:Loc} (hw:Write C γ w w' g l) (h:Keep C.L C.w0 w):Keep C.L C.w0 w' :=
 ⟨hw.grown.os.trans h.os,hw.grown.tape.trans h.tape,hw.grown.output.trans h.output,Nat.le_trans h.size hw.grown.size,fun k hk hL=>by
  rw [hw.grown.block k (Nat.lt_of_lt_of_le hk h.size) (fun e=>by
   simp only [Option.some.injEq] at e
   subst e
   rcases hw.may with h1|h1
   ·omega
   ·exact hL h1)]
  exact h.block k hk hL⟩
theorem Write.sub {w':World} {g:Nat} {l:Loc} (hw:Write C γ w w' g l):Sub C γ w γ w' :=
 ⟨hw.grown.size,fun b hb hz=>⟨hz,hw.grown.block b hb (fun e=>by
  simp only [Option.some.injEq] at e
  subst e
  have:=hz.2
  rw [hw.own] at this
  cases this)⟩,fun b d hb hz=>⟨hz,hw.grown.block b hb (fun e=>by
  simp only [Option.some.injEq] at e
  subst e
  rw [hw.own,Option.some.injEq] at hz
  exact hw.nmk d hz)⟩⟩
theorem Write.row {w':World} {g:Nat} {l l':Loc} (hw:Write C γ w w' g l) (hne:l'≠l) {e sz n:Nat} {v:Value} {xs:List Value} (h:w.ownsRow 0 e sz v n xs) (ho:ownB C γ v l'):w'.ownsRow 0 e sz v n xs:=by
 refine h.kept hw.grown ?_
 cases hv:v.ownBlock with
 | none=>exact .inl rfl
 | some k =>
  right
  intro e
  simp only [Option.some.injEq] at e
  subst e
  have:=(ho k hv).1
  rw [hw.own] at this
  simp only [Option.some.injEq] at this
  exact hne this.symm
theorem Write.root {w':World} {g:Nat} {l:Loc} (hw:Write C γ w w' g l) {r:Nat} {rc:RC} (h:rcRep C γ w r rc) (h1:l≠.hd r) (h2:∀ i,l≠.row r i):rcRep C γ w' r rc:=by
 cases rc with
 | flat e s xs=>exact ⟨h.1,hw.row (Ne.symm h1) h.2.1 h.2.2,h.2.2⟩
 | deep e e2 s xss=>exact ⟨h.1,hw.row (Ne.symm h1) h.2.1 h.2.2.1,h.2.2.1,fun i xs hi=>⟨hw.row (Ne.symm (h2 i)) (h.2.2.2 i xs hi).1 (h.2.2.2 i xs hi).2,(h.2.2.2 i xs hi).2⟩⟩
 | hole e e2 s xss k=>exact ⟨h.1,hw.row (Ne.symm h1) h.2.1 h.2.2.1,h.2.2.1,fun i xs hne hi=>⟨hw.row (Ne.symm (h2 i)) (h.2.2.2 i xs hne hi).1 (h.2.2.2 i xs hne hi).2,(h.2.2.2 i xs hne hi).2⟩⟩
 | rags e s xss =>
  obtain ⟨vs,k1,k2,k3⟩:=h
  exact ⟨vs,hw.row (Ne.symm h1) k1 k2,k2,zAF hw.sub _ _ (fun b _=>Agree.refl γ b) k3⟩
theorem Write.box {w':World} {g:Nat} {l:Loc} (hw:Write C γ w w' g l) (hl:∀ k b,γ.own k=some b→k<w.heap.size) {b:Nat} {sv:SV} (h:bxRep C γ w b sv) (h1:l≠.bx b):bxRep C γ w' b sv:=by
 obtain ⟨cs,t,e1,e2,e3,e4,e5⟩:=h
 refine ⟨cs,t,?_,zDo hw.sub (fun _ _=>Agree.refl γ _) e2,e3,e4,e5⟩
 rw [hw.grown.block _ (hl _ _ e4) (fun e=>by
  simp only [Option.some.injEq] at e
  rw [e,hw.own] at e4
  simp only [Option.some.injEq] at e4
  exact h1 e4)]
 exact e1
theorem zFv {g n cap e sz o:Nat} {xs:List Value} (h:w.ownsRow 0 e sz (.slice (some ⟨g,0,none⟩) n cap) n xs) (vs:List Value) (ho:o+vs.length≤xs.length) :
 ∃ cur t,w.heap[g]?=some (.cells cur t (0,0))∧o+vs.length≤cur.size ∧
  (w.setRow g (cur.toList.take o++vs++cur.toList.drop (o+vs.length)).toArray).ownsRow 0 e sz (.slice (some ⟨g,0,none⟩) n cap) n (xs.take o++vs++xs.drop (o+vs.length)) ∧
  w.grownBy (w.setRow g (cur.toList.take o++vs++cur.toList.drop (o+vs.length)).toArray) (some g):=by
 obtain ⟨hlen,h2⟩:=h
 rcases h2 with ⟨h',_⟩|⟨g',cap',cur,h',hb,hg,hnc,hcm,hcs,htake⟩
 ·simp at h'
 ·simp only [Value.slice.injEq,Option.some.injEq,Addr.mk.injEq,and_true,true_and] at h'
  obtain ⟨rfl,rfl⟩:=h'
  have hle:n*sz≤cur.size:=by rw [hcs]; exact Nat.mul_le_mul_right _ hnc
  refine ⟨cur,e,hg,by omega,⟨by simp; omega,.inr ⟨g,cap,_,rfl,hb,setRow_heap w g cur _ e _ hg,hnc,hcm,?_,?_⟩⟩,⟨rfl,rfl,rfl,by simp,fun k _ hk=>setRow_other w g k _ (fun e=>hk (by simp [e]))⟩⟩
  ·simp only [List.size_toArray,List.length_append,List.length_take,List.length_drop,Array.length_toList]
   omega
  ·rw [←htake]
   apply List.ext_getElem?
   intro j
   simp only [List.getElem?_take,List.getElem?_append,List.length_take,List.getElem?_drop,List.length_append,Array.length_toList]
   have hm:min o cur.size=o:=by omega
   have hm2:min o (min (n*sz) cur.size)=o:=by omega
   simp only [hm,hm2]
   by_cases h1:j<o
   ·have:j<n*sz:=by omega
    have h3:j<o+vs.length:=by omega
    simp [h1,this,h3]
   ·by_cases h3:j<o+vs.length
    ·have h4:j<n*sz:=by omega
     simp [h1,h3,h4]
    ·by_cases h4:j<n*sz
     ·have h5:o+vs.length+(j - (o+vs.length))=j:=by omega
      simp [h1,h3,h4,h5]
     ·have h5:o+vs.length+(j - (o+vs.length))=j:=by omega
      simp [h1,h3,h4,h5]
end
end Go.VS
namespace Go.VS
open Go.RowKit
section
variable {C:Ctx} {G:Lang} {γ:Gam} {s:AS} {a:Act} {w:World} {N:Nat}
theorem zDU {P:Program} {w:World} {t:TypeId} {i:TypeInfo} (hi:P.info? t=some i) {g o:Nat} {v:Value} {cur:Array Value} {tt:TypeId} (hg:w.heap[g]?=some (.cells cur tt (0,0)))
 (hs:v.cells.size=i.size) (hl:o+v.cells.toList.length≤cur.size) (h1:∀ u∈v.cells.toList,u.oneCell'=true) :
 (Instr.storeAt t (.pointer (some ⟨g,o,none⟩)) v).run P w=.ok () (w.setRow g (cur.toList.take o++v.cells.toList++cur.toList.drop (o+v.cells.toList.length)).toArray):=by
 have hst:=run_storeCells_at P g o tt v.cells.toList 0 cur w hg (by simpa using hl) h1
 simp only [Nat.add_zero] at hst
 simp only [Instr.storeAt,Instr.sureAddr,storeVar,Sem.run_bind,Sem.run_pure,Result.andThen_ok,zBi hi,hs,ne_eq,not_true_eq_false,if_false]
 exact hst
theorem zCt {P:Program} {w w':World} {a:Act} {t:TypeId} {x y:Operand} {d:Option Tmp} {ty:TypeId} {pos:String} {af:Array Edge} {gd:Option (Nat×Bool)} (h:(Instr.storeAt t (a.eval x) (a.eval y)).run P w=.ok () w') :
 (execOp a.eval ⟨d,.store t x y,ty,pos,af,gd⟩).run P w=.ok .skip w':=by
 simp only [execOp,Sem.run_bind,h,Result.andThen_ok,Sem.run_pure]
theorem zGh {α:Type} (f:α→List Value) (sz:Nat) (hf:∀ x,(f x).length=sz) (y:α):∀ (xs:List α) (i:Nat),i<xs.length →
 (xs.set i y).flatMap f=(xs.flatMap f).take (i*sz)++f y++(xs.flatMap f).drop (i*sz+(f y).length)
 | x::xs,0,_=>by
  have:(f x).length=sz:=hf x
  have h2:(f y).length=(f x).length:=by rw [this,hf]
  simp [h2]
 | x::xs,i+1,hi=>by
  have hx:(f x).length=sz:=hf x
  have hy:(f y).length=sz:=hf y
  have ih:=zGh f sz hf y xs i (by simpa using hi)
  have e1:(i+1)*sz=sz+i*sz:=by rw [Nat.add_mul]; omega
  simp only [List.set_cons_succ,List.flatMap_cons,ih,e1,hy]
  rw [List.take_append,List.drop_append,hx]
  have h1:(f x).take (sz+i*sz)=f x:=List.take_of_length_le (by omega)
  have h2:(f x).drop (sz+i*sz+sz)=[]:=List.drop_of_length_le (by omega)
  have h3:sz+i*sz - sz=i*sz:=by omega
  have h4:sz+i*sz+sz - sz=i*sz+sz:=by omega
  simp [h1,h2,h3,h4]
theorem Rel.written {w':World} {g:Nat} {l:Loc} (h:Rel C γ s a w) (hw:Write C γ w w' g l) {r:Nat} {rc:RC} (hl:l=.hd r∨∃ i,l=.row r i) (hrc:rcRep C γ w' r rc) :
 Rel C γ (s.setRoot r (some rc)) a w':=by
 refine ⟨h.defers,hw.keep h.keep,fun k b hb=>Nat.lt_of_lt_of_le (h.ownlt k b hb) hw.grown.size,h.lent,fun i=>zEy hw.sub (fun _ _=>Agree.refl γ _) (h.env i),fun q rc' hq=>?_,fun b sv hb=>hw.box h.ownlt (h.boxes b sv hb) (by rcases hl with rfl|⟨i,rfl⟩<;>simp)⟩
 simp only [AS.setRoot,upd] at hq
 split at hq
 ·rename_i e
  subst e
  simp only [Option.some.injEq] at hq
  subst hq
  exact hrc
 ·rename_i e
  exact hw.root (h.roots q rc' hq) (by rcases hl with rfl|⟨i,rfl⟩<;>simp; exact fun e'=>e e'.symm) (fun j=>by rcases hl with rfl|⟨i,rfl⟩<;>simp; exact fun e'=>absurd e'.symm e)
theorem zBm {sh sh':Sh} {v:sh.T} {v':sh'.T} (h:zAT sh sh' v=some v'):∃ e:sh=sh',v'=e ▸ v:=by
 unfold zAT at h
 split at h
 ·rename_i e
  exact ⟨e,by simpa using h.symm⟩
 ·cases h
theorem zO7 (hG:LangOK C.P G) (h:Rel C γ s a w) {d:Option Tmp} {t:TypeId} {x y:Operand} {ty:TypeId} {pos:String} {af:Array Edge} {gd:Option (Nat×Bool)} {r i sz:Nat} {sh:Sh} {v:sh.T} {e:TypeId} {xs:List sh.T}
 (hx:ev s x=.one (.adr r i sz)) (hy:ev s y=.one (.val sh v)) (hr:s.roots r=some (.flat e sh xs)) (ht:G.sh t=some sh) (hsz:sz=sh.size) (hi:i<xs.length) :
 ∃ w',(execOp a.eval ⟨d,.store t x y,ty,pos,af,gd⟩).run C.P w=.ok .skip w'∧Rel C γ (s.setRoot r (some (.flat e sh (xs.set i v)))) a w':=by
 have hx':=zAn h x
 have hy':=zAn h y
 rw [hx] at hx'
 rw [hy] at hy'
 obtain ⟨g,n,cap,hh,hv⟩:=hx'
 obtain ⟨c,hp,hvy⟩:=hy'
 obtain ⟨hf,hown,hob⟩:=h.roots r _ hr
 have hc:=(zBt sh v c hf).1 hp
 subst hc
 subst hsz
 obtain ⟨i0,z,hi0,hs0,_⟩:=hG.info t sh ht
 have hcell:(a.eval y).cells.toList=sh.cells v:=by rw [hvy]; exact zA7 sh v _ hp
 have hcl:(a.eval y).cells.toList.length=sh.size:=by rw [hcell,zAv]
 rw [hh] at hown hob
 have hn:n=xs.length:=by
  obtain ⟨ad,cp,e1,_⟩:=zAO hown
  simp only [Value.slice.injEq] at e1
  exact e1.2.1
 subst hn
 have hle:i*sh.size+(sh.cells v).length≤(xs.flatMap sh.cells).length:=by
  rw [zAv,zBT sh.cells sh.size (zAv sh)]
  have:=Nat.mul_le_mul_right sh.size (show i+1≤xs.length by omega)
  rw [Nat.add_mul] at this
  omega
 obtain ⟨cur,tt,hg,hcs,hown',hgr⟩:=zFv hown (sh.cells v) hle
 have hst:=zDU (P:=C.P) (w:=w) hi0 (v:=a.eval y) (o:=i*sh.size) hg (by rw [hs0,←hcl,Array.length_toList]) (by rw [hcell]; exact hcs) (by rw [hcell]; exact zCC sh v)
 rw [hcell] at hst
 refine ⟨_,zCt (by rw [hv]; exact hst),?_⟩
 have hk:=hob g rfl
 refine h.written ⟨hk.1,hk.2,hgr,fun _=>by simp⟩ (.inl rfl) ⟨hf,?_,by rw [hh]; exact hob⟩
 rw [hh,List.length_set,zGh sh.cells sh.size (zAv sh) v xs i hi]
 exact hown'
theorem zIn {γ:Gam} {w:World} {sh:Sh} {y:List sh.T} {u:Value}:∀ (xss:List (List sh.T)) (vs:List Value) (i:Nat),zAp C γ w (xss.map fun x=>BV.val (.sl sh) x) vs→bvRep C γ w (.val (.sl sh) y) u →
 zAp C γ w ((xss.set i y).map fun x=>BV.val (.sl sh) x) (vs.set i u)
 | [],_,_,h,_=>by obtain rfl:=h; exact rfl
 | x::xss,vs,0,h,hu=>by
  obtain ⟨v,vs',rfl,_,h2⟩:=h
  exact ⟨u,vs',rfl,hu,h2⟩
 | x::xss,vs,i+1,h,hu=>by
  obtain ⟨v,vs',rfl,h1,h2⟩:=h
  exact ⟨v,vs'.set i u,rfl,h1,zIn xss vs' i h2 hu⟩
theorem zNs (hG:LangOK C.P G) (h:Rel C γ s a w) {d:Option Tmp} {t:TypeId} {x y:Operand} {ty:TypeId} {pos:String} {af:Array Edge} {gd:Option (Nat×Bool)} {r i sz:Nat} {sh:Sh} {v:List sh.T} {e:TypeId} {xss:List (List sh.T)}
 (hx:ev s x=.one (.adr r i sz)) (hy:ev s y=.one (.val (.sl sh) v)) (hr:s.roots r=some (.rags e sh xss)) (ht:G.sh t=some (.sl sh)) (hsz:sz=1) (hi:i<xss.length) :
 ∃ w',(execOp a.eval ⟨d,.store t x y,ty,pos,af,gd⟩).run C.P w=.ok .skip w'∧Rel C γ (s.setRoot r (some (.rags e sh (xss.set i v)))) a w':=by
 have hx':=zAn h x
 have hy':=zAn h y
 rw [hx] at hx'
 rw [hy] at hy'
 obtain ⟨g,n,cap,hh,hv⟩:=hx'
 have hy0:bvRep C γ w (.val (.sl sh) v) (a.eval y):=hy'
 obtain ⟨c,⟨ad,cp,hc,_⟩,hvy⟩:=hy'
 obtain ⟨vs,hown,hob,hvs⟩:=h.roots r _ hr
 subst hsz
 obtain ⟨i0,z,hi0,hs0,_⟩:=hG.info t _ ht
 have hval:a.eval y=.slice ad v.length cp:=by rw [hvy,hc]; rfl
 have hcell:(a.eval y).cells.toList=[a.eval y]:=by rw [hval]; rfl
 rw [hh] at hown hob
 have hn:n=xss.length:=by
  obtain ⟨ad,cp,e1,_⟩:=zAO hown
  simp only [Value.slice.injEq] at e1
  exact e1.2.1
 subst hn
 have hlen:vs.length=xss.length:=by rw [hown.1,Nat.mul_one]
 have hle:i*1+[a.eval y].length≤vs.length:=by simp; omega
 obtain ⟨cur,tt,hg,hcs,hown',hgr⟩:=zFv hown [a.eval y] hle
 have hst:=zDU (P:=C.P) (w:=w) hi0 (v:=a.eval y) (o:=i*1) hg (by rw [hs0,hval]; rfl) (by rw [hcell]; exact hcs) (by rw [hcell]; intro u hu; simp at hu; subst hu; rw [hval]; rfl)
 rw [hcell] at hst
 refine ⟨_,zCt (by rw [hv]; exact hst),?_⟩
 have hk:=hob g rfl
 have hw:Write C γ w _ g (.hd r):=⟨hk.1,hk.2,hgr,fun _=>by simp⟩
 refine h.written hw (.inl rfl) ⟨vs.set i (a.eval y),?_,by rw [hh]; exact hob,zAF hw.sub _ _ (fun b _=>Agree.refl γ b) (zIn xss vs i hvs hy0)⟩
 rw [hh,List.length_set]
 have e1:vs.set i (a.eval y)=vs.take (i*1)++[a.eval y]++vs.drop (i*1+[a.eval y].length):=by
  rw [List.set_eq_take_append_cons_drop,if_pos (by omega)]
  simp
 rw [e1]
 exact hown'
theorem zNp (hG:LangOK C.P G) (h:Rel C γ s a w) {d:Option Tmp} {t:TypeId} {x y:Operand} {ty:TypeId} {pos:String} {af:Array Edge} {gd:Option (Nat×Bool)} {r i j sz:Nat} {sh:Sh} {v:sh.T} {e e2:TypeId} {xss:List (List sh.T)}
 (hx:ev s x=.one (.adri r i j sz)) (hy:ev s y=.one (.val sh v)) (hr:s.roots r=some (.deep e e2 sh xss)) (ht:G.sh t=some sh) (hsz:sz=sh.size) (hi:i<xss.length) (hj:j<(xss.getD i []).length) :
 ∃ w',(execOp a.eval ⟨d,.store t x y,ty,pos,af,gd⟩).run C.P w=.ok .skip w'∧Rel C γ (s.setRoot r (some (.deep e e2 sh (xss.set i ((xss.getD i []).set j v))))) a w':=by
 have hx':=zAn h x
 have hy':=zAn h y
 rw [hx] at hx'
 rw [hy] at hy'
 obtain ⟨g,n,cap,hh,hv⟩:=hx'
 obtain ⟨c,hp,hvy⟩:=hy'
 obtain ⟨hf,htop,hobt,hrows⟩:=h.roots r _ hr
 have hgi:xss.getD i []=xss[i]:=by simp [List.getD_eq_getElem?_getD,hi]
 rw [hgi] at hj ⊢
 obtain ⟨hown,hob⟩:=hrows i xss[i] (by simp [hi])
 have hc:=(zBt sh v c hf).1 hp
 subst hc
 subst hsz
 obtain ⟨i0,z,hi0,hs0,_⟩:=hG.info t sh ht
 have hcell:(a.eval y).cells.toList=sh.cells v:=by rw [hvy]; exact zA7 sh v _ hp
 have hcl:(a.eval y).cells.toList.length=sh.size:=by rw [hcell,zAv]
 rw [hh] at hown hob
 have hn:n=xss[i].length:=by
  obtain ⟨ad,cp,e1,_⟩:=zAO hown
  simp only [Value.slice.injEq] at e1
  exact e1.2.1
 subst hn
 have hle:j*sh.size+(sh.cells v).length≤(xss[i].flatMap sh.cells).length:=by
  rw [zAv,zBT sh.cells sh.size (zAv sh)]
  have:=Nat.mul_le_mul_right sh.size (show j+1≤xss[i].length by omega)
  rw [Nat.add_mul] at this
  omega
 obtain ⟨cur,tt,hg,hcs,hown',hgr⟩:=zFv hown (sh.cells v) hle
 have hst:=zDU (P:=C.P) (w:=w) hi0 (v:=a.eval y) (o:=j*sh.size) hg (by rw [hs0,←hcl,Array.length_toList]) (by rw [hcell]; exact hcs) (by rw [hcell]; exact zCC sh v)
 rw [hcell] at hst
 refine ⟨_,zCt (by rw [hv]; exact hst),?_⟩
 have hk:=hob g rfl
 have hw:Write C γ w _ g (.row r i):=⟨hk.1,hk.2,hgr,fun _=>by simp⟩
 refine h.written hw (.inr ⟨i,rfl⟩) ⟨hf,?_,hobt,fun k ys hys=>?_⟩
 ·rw [List.length_set]
  exact hw.row (by simp) htop hobt
 ·rw [List.getElem?_set] at hys
  split at hys
  ·rename_i e
   subst e
   simp only [Option.some.injEq] at hys
   subst hys
   refine ⟨?_,by rw [hh]; exact hob⟩
   rw [hh,List.length_set,zGh sh.cells sh.size (zAv sh) v xss[i] j hj]
   exact hown'
  ·rename_i e
   exact ⟨hw.row (by simp; exact fun e'=>e e'.symm) (hrows k ys hys).1 (hrows k ys hys).2,(hrows k ys hys).2⟩
theorem zEM (r:Nat) (b:BV):killR r b=.any∨killR r b=b:=by
 cases b<;>simp only [killR]<;>first|(right; trivial)|(split<;>simp)
theorem zHd (r:Nat) (b:BV):zBG r b=.any∨zBG r b=b:=by
 cases b<;>simp only [zBG]<;>first|(right; trivial)|(split<;>simp)
theorem zLc (r:Nat) (b:BV):killB r b=.any∨killB r b=b:=by
 cases b<;>simp only [killB]<;>first|(right; trivial)|(split<;>simp)
theorem zDP {r:Nat} {γ γ':Gam} {b:BV} (h:killR r b≠.any) (hh:∀ q,q≠r→γ'.hd q=γ.hd q) (hr:∀ q i,q≠r→γ'.rows q i=γ.rows q i) (hb:∀ x,γ'.bx x=γ.bx x):Agree γ γ' b:=by
 cases b<;>simp only [killR] at h<;>simp only [Agree]<;>first
  | trivial
  | (exact hb _)
  | (exact fun x _=>hb x)
  | (refine hh _ fun e=>?_; subst e; simp at h)
  | (refine hr _ _ fun e=>?_; subst e; simp at h)
theorem zGk {x:Nat} {γ γ':Gam} {b:BV} (h:killB x b≠.any) (hh:∀ q,γ'.hd q=γ.hd q) (hr:∀ q i,γ'.rows q i=γ.rows q i) (hb:∀ y,y≠x→γ'.bx y=γ.bx y):Agree γ γ' b:=by
 cases b<;>simp only [killB] at h<;>simp only [Agree]<;>first
  | trivial
  | (exact hh _)
  | (exact hr _ _)
  | (refine hb _ fun e=>?_; subst e; simp at h)
  | skip
 intro y hy
 refine hb y fun e=>?_
 subst e
 rename_i caps
 rw [if_pos (List.elem_eq_true_of_mem hy)] at h
 exact h rfl
theorem AS.map_map (s:AS) (K K':BV→BV):(s.map K).map K'=s.map (fun b=>K' (K b)):=by
 simp only [AS.map]
 congr 1
 ·funext i
  cases s.env i<;>simp [mapSV]
 ·funext i
  cases s.boxes i with
  | none=>rfl
  | some sv=>cases sv<;>simp [mapSV]
theorem zGt {K:BV→BV} {s:AS} {b:Nat} {sv:SV} (h:(s.map K).boxes b=some sv):∃ sv',s.boxes b=some sv'∧sv=mapSV K sv':=by
 simp only [AS.map,Option.map_eq_some_iff] at h
 obtain ⟨sv',h1,h2⟩:=h
 exact ⟨sv',h1,h2.symm⟩
theorem zJp (hG:LangOK C.P G) (h:Rel C γ s a w) {d:Option Tmp} {t:TypeId} {x y:Operand} {ty:TypeId} {pos:String} {af:Array Edge} {gd:Option (Nat×Bool)} {r q i:Nat} {sh:Sh} {e e2:TypeId}
 {rc:RC} {xss:List (List sh.T)} {ys:List sh.T}
 (hrc:rc=.deep e e2 sh xss∨rc=.hole e e2 sh xss i) (hx:ev s x=.one (.adr r i 1)) (hy:ev s y=.one (.ref q)) (hr:s.roots r=some rc) (hq:s.roots q=some (.flat e2 sh ys))
 (ht:G.sh t=some (.sl sh)) (hi:i<xss.length) (hne:r≠q) (hl:C.nl≤q) :
 ∃ w' γ',(execOp a.eval ⟨d,.store t x y,ty,pos,af,gd⟩).run C.P w=.ok .skip w' ∧
  Rel C γ' (((s.map (killR q)).map (zBG r)).setRoot q none |>.setRoot r (some (.deep e e2 sh (xss.set i ys)))) a w':=by
 have hx':=zAn h x
 have hy':=zAn h y
 rw [hx] at hx'
 rw [hy] at hy'
 obtain ⟨g,n,cap,hh,hv⟩:=hx'
 simp only [svRep,bvRep] at hy'
 obtain ⟨i0,z,hi0,hs0,_⟩:=hG.info t _ ht
 obtain ⟨hfq,hownq,hobq⟩:=h.roots q _ hq
 have htop:sh.flat=true∧w.ownsRow 0 e 1 (γ.hd r) xss.length (zAY γ r xss.length)∧ownB C γ (γ.hd r) (.hd r)∧∀ k xs,k≠i→xss[k]?=some xs→zCb C γ w r e2 sh k xs:=by
  have h1:=h.roots r _ hr
  rcases hrc with rfl|rfl
  ·exact ⟨h1.1,h1.2.1,h1.2.2.1,fun k xs _ hk=>h1.2.2.2 k xs hk⟩
  ·exact h1
 obtain ⟨hf,hown,hob,hrows⟩:=htop
 rw [hh] at hown hob
 have hn:n=xss.length:=by
  obtain ⟨ad,cp,e1,_⟩:=zAO hown
  simp only [Value.slice.injEq] at e1
  exact e1.2.1
 subst hn
 have hle:i*1+[γ.hd q].length≤(zAY γ r xss.length).length:=by simp [zAY]; omega
 obtain ⟨cur,tt,hg,hcs,hown',hgr⟩:=zFv hown [γ.hd q] hle
 have hst:=zDU (P:=C.P) (w:=w) hi0 (v:=a.eval y) (o:=i*1) hg (by rw [hs0,hy']; rfl) (by rw [hy']; exact hcs) (by rw [hy']; intro u hu; simp [Gam.hd,Sl.v,Value.cells] at hu; subst hu; rfl)
 have hcell:(a.eval y).cells.toList=[γ.hd q]:=by rw [hy']; rfl
 rw [hcell] at hst
 generalize w.setRow g (cur.toList.take (i*1)++[γ.hd q]++cur.toList.drop (i*1+[γ.hd q].length)).toArray=W at hown' hgr hst
 have hk:=hob g rfl
 have hw:Write C γ w W g (.hd r):=⟨hk.1,hk.2,hgr,fun _=>by simp⟩
 let γ':Gam:=⟨γ.hs,fun p k=>if p=r∧k=i then γ.hs q else γ.rs p k,γ.bx,fun b=>if (γ.hd q).ownBlock=some b then some (.row r i) else γ.own b⟩
 have hhd:∀ p,γ'.hd p=γ.hd p:=fun _=>rfl
 have hrow:∀ p k,(p,k)≠(r,i)→γ'.rows p k=γ.rows p k:=by
  intro p k hpk
  simp only [Gam.rows,γ']
  rw [if_neg (fun e=>hpk (by rw [e.1,e.2]))]
 have hrowi:γ'.rows r i=γ.hd q:=by simp [Gam.rows,γ',Gam.hd]
 have hqown:∀ k,(γ.hd q).ownBlock=some k→γ.own k=some (.hd q):=fun k hk=>(hobq k hk).1
 have howne:∀ b,γ.own b≠some (.hd q)→γ'.own b=γ.own b:=by
  intro b hb
  simp only [γ']
  rw [if_neg (fun e=>hb (hqown b e))]
 have hz:∀ b,C.zn γ b→C.zn γ' b:=by
  intro b hb
  refine ⟨hb.1,?_⟩
  rw [howne b (by rw [hb.2]; simp)]
  exact hb.2
 have hsub:Sub C γ w γ' W:=⟨hw.sub.size,fun b hb hzb=>⟨hz b hzb,(hw.sub.zn b hb hzb).2⟩,fun b d hb ho=>⟨by rw [howne b (by rw [ho]; simp)]; exact ho,(hw.sub.made b d hb ho).2⟩⟩
 have hK:Forgets (fun b=>zBG r (killR q b)) γ γ':=by
  intro b
  by_cases h1:zBG r (killR q b)=.any
  ·exact .inl h1
  ·right
   have h2:killR q b≠.any:=by
    intro e'
    rw [e'] at h1
    exact h1 rfl
   have h3:killR q b=b:=(zEM q b).resolve_left h2
   rw [h3] at h1
   have h4:zBG r b=b:=(zHd r b).resolve_left h1
   refine ⟨by show zBG r (killR q b)=b; rw [h3,h4],?_⟩
   cases b<;>simp only [zBG] at h1<;>simp only [Agree]<;>first
    | trivial
    | rfl
    | (exact fun _ _=>rfl)
    | (refine hrow _ _ fun e=>?_; simp only [Prod.mk.injEq] at e; simp [e.1] at h1)
 refine ⟨_,γ',zCt (by rw [hv]; exact hst),⟨h.defers,hw.keep h.keep,fun k b hb=>?_,h.lent,fun j=>?_,fun p rc' hp=>?_,fun b sv hb=>?_⟩⟩
 ·simp only [γ'] at hb
  split at hb
  ·rename_i e
   exact Nat.lt_of_lt_of_le (h.ownlt k _ (hqown k e)) hw.grown.size
  ·exact Nat.lt_of_lt_of_le (h.ownlt k b hb) hw.grown.size
 ·rw [AS.map_map]
  exact zGZ hsub hK (h.env j)
 ·have hother:∀ (p:Nat) (rc':RC),p≠r→p≠q→s.roots p=some rc'→rcRep C γ' W p rc':=by
   intro p rc' h1 h2 hp
   have h3:=hw.root (h.roots p rc' hp) (by simp; exact fun e'=>h1 e'.symm) (fun _=>by simp)
   have hB:∀ (v:Value) (l:Loc),l≠.hd q→ownB C γ v l→ownB C γ' v l:=by
    intro v l hl' ho k hk
    refine ⟨?_,(ho k hk).2⟩
    rw [howne k (by rw [(ho k hk).1]; simpa using hl')]
    exact (ho k hk).1
   have hrw:∀ k,γ'.rows p k=γ.rows p k:=fun k=>hrow p k (by simp [h1])
   have hrf:∀ m,zAY γ' p m=zAY γ p m:=fun m=>by simp [zAY,hrw]
   cases rc' with
   | flat e' s' xs=>exact ⟨h3.1,h3.2.1,hB _ _ (by simp [h2]) h3.2.2⟩
   | deep e' e2' s' xs=>exact ⟨h3.1,by rw [hrf]; exact h3.2.1,hB _ _ (by simp [h2]) h3.2.2.1,fun k ys hk=>by
    have h4:=h3.2.2.2 k ys hk
    unfold zCb at *
    rw [hrw]
    exact ⟨h4.1,hB _ _ (by simp) h4.2⟩⟩
   | hole e' e2' s' xs m=>exact ⟨h3.1,by rw [hrf]; exact h3.2.1,hB _ _ (by simp [h2]) h3.2.2.1,fun k ys hne hk=>by
    have h4:=h3.2.2.2 k ys hne hk
    unfold zCb at *
    rw [hrw]
    exact ⟨h4.1,hB _ _ (by simp) h4.2⟩⟩
   | rags e' s' xs =>
    obtain ⟨vs,k1,k2,k3⟩:=h3
    exact ⟨vs,k1,hB _ _ (by simp [h2]) k2,zAF (w:=W) (w':=W) ⟨Nat.le_refl _,fun b hb hzb=>⟨hz b hzb,rfl⟩,fun b d hb ho=>⟨by rw [howne b (by rw [ho]; simp)]; exact ho,rfl⟩⟩ _ _ (fun b hb=>by obtain ⟨y,_,rfl⟩:=List.mem_map.1 hb; trivial) k3⟩
  simp only [AS.setRoot,upd] at hp
  split at hp
  ·rename_i e'
   subst e'
   simp only [Option.some.injEq] at hp
   subst hp
   refine ⟨hf,?_,?_,fun k zs hzs=>?_⟩
   ·rw [List.length_set]
    show World.ownsRow W 0 e 1 (γ.hd p) xss.length (zAY γ' p xss.length)
    rw [hh]
    have hrf:zAY γ' p xss.length=(zAY γ p xss.length).take (i*1)++[γ.hd q]++(zAY γ p xss.length).drop (i*1+[γ.hd q].length):=by
     apply List.ext_getElem?
     intro j
     simp only [zAY,List.getElem?_map,List.getElem?_append,List.getElem?_take,List.getElem?_drop,List.length_append,List.length_take,List.length_map,List.length_range,List.length_singleton,Nat.mul_one]
     have hm:min i xss.length=i:=by omega
     rw [hm]
     by_cases h1:j<i
     ·have h2:j<i+1:=by omega
      rw [if_pos h2,if_pos h1,if_pos h1]
      rcases Nat.lt_or_ge j xss.length with h3|h3
      ·simp [List.getElem?_range h3,hrow p j (by simp; omega)]
      ·simp [h3]
     ·by_cases h2:j<i+1
      ·have:j=i:=by omega
       subst this
       simp [List.getElem?_range hi,hrowi]
      ·rw [if_neg h2]
       have:i+1+(j - (i+1))=j:=by omega
       rw [this]
       rcases Nat.lt_or_ge j xss.length with h3|h3
       ·simp [List.getElem?_range h3,hrow p j (by simp; omega)]
       ·simp [h3]
    rw [hrf]
    exact hown'
   ·intro k hk
    have:=hob k (by rw [←hh]; exact hk)
    refine ⟨?_,this.2⟩
    rw [howne k (by rw [this.1]; simpa using hne)]
    exact this.1
   ·rw [List.getElem?_set] at hzs
    split at hzs
    ·rename_i e'
     subst e'
     simp only [hi,if_true,Option.some.injEq] at hzs
     subst hzs
     unfold zCb
     rw [hrowi]
     refine ⟨hw.row (by simpa using Ne.symm hne) hownq hobq,fun k hk=>⟨?_,(hobq k hk).2⟩⟩
     simp [γ',hk]
    ·rename_i e'
     have h4:=hrows k zs (fun e=>e' e.symm) hzs
     unfold zCb at *
     rw [hrow p k (by simp; exact fun e=>e' e.symm)]
     refine ⟨hw.row (by simp) h4.1 h4.2,fun m hm=>⟨?_,(h4.2 m hm).2⟩⟩
     rw [howne m (by rw [(h4.2 m hm).1]; simp)]
     exact (h4.2 m hm).1
  ·rename_i e'
   split at hp
   ·cases hp
   ·rename_i e3
    exact hother p rc' e' e3 hp
 ·rw [AS.map_map] at hb
  obtain ⟨sv',h1,rfl⟩:=zGt (s:=s) hb
  obtain ⟨cs,t',e1,e2',e3,e4,e5⟩:=hw.box h.ownlt (h.boxes b sv' h1) (by simp)
  refine ⟨cs,t',e1,?_,e3,?_,e5⟩
  ·obtain ⟨cs0,t0,d1,d2,d3,d4,d5⟩:=h.boxes b sv' h1
   have hge:γ.bx b≠g:=by
    intro e6
    rw [e6,hk.1] at d4
    simp at d4
   have hsame:=hw.grown.block (γ.bx b) (h.ownlt _ _ d4) (by simpa using hge)
   rw [hsame,d1] at e1
   simp only [Option.some.injEq,Obj.cells.injEq,and_true] at e1
   obtain ⟨rfl,rfl⟩:=e1
   exact zC8 hsub hK d2
  ·rw [howne _ (by rw [e4]; simp)]
   exact e4
end
end Go.VS
namespace Go.VS
open Go.RowKit
section
variable {C:Ctx} {G:Lang} {γ γ':Gam} {s:AS} {a:Act} {w w':World}
def Loc.root:Loc→Option Nat
 | .hd r=>some r
 | .row r _=>some r
 | .bx _=>none
 | .mk _=>none
structure Move (C:Ctx) (γ:Gam) (w:World) (γ':Gam) (w':World) (T:Nat→Prop):Prop where
 sub:Sub C γ w γ' w'
 keep:Keep C.L C.w0 w'
 ownlt:∀ k l,γ'.own k=some l→k<w'.heap.size
 lent:∀ r,r<C.nl→γ'.hd r=C.lh r
 hd:∀ p,¬T p→γ'.hd p=γ.hd p
 rows:∀ p i,¬T p→γ'.rows p i=γ.rows p i
 bx:∀ x,γ'.bx x=γ.bx x
 kept:∀ b l,γ.own b=some l→(∀ r,l.root=some r→¬T r)→γ'.own b=some l∧w'.heap[b]?=w.heap[b]?
theorem zDr {e sz n:Nat} {v:Value} {xs:List Value} (h:w.ownsRow 0 e sz v n xs) (hb:∀ k,v.ownBlock=some k→w'.heap[k]?=w.heap[k]?):w'.ownsRow 0 e sz v n xs:=by
 obtain ⟨h1,h2⟩:=h
 refine ⟨h1,?_⟩
 rcases h2 with h2|⟨g,cap,cur,rfl,hb0,hg,r⟩
 ·exact .inl h2
 ·exact .inr ⟨g,cap,cur,rfl,hb0,(hb g rfl).trans hg,r⟩
theorem Move.ownB {T:Nat→Prop} (m:Move C γ w γ' w' T) {v:Value} {l:Loc} (hl:∀ r,l.root=some r→¬T r) (h:ownB C γ v l):VS.ownB C γ' v l∧∀ k,v.ownBlock=some k→w'.heap[k]?=w.heap[k]? :=
 ⟨fun k hk=>⟨(m.kept k l (h k hk).1 hl).1,(h k hk).2⟩,fun k hk=>(m.kept k l (h k hk).1 hl).2⟩
theorem Move.root {T:Nat→Prop} (m:Move C γ w γ' w' T) {p:Nat} {rc:RC} (hp:¬T p) (h:rcRep C γ w p rc):rcRep C γ' w' p rc:=by
 have hrf:∀ n,zAY γ' p n=zAY γ p n:=fun n=>by simp [zAY,m.rows p _ hp]
 have h1:∀ r,(Loc.hd p).root=some r→¬T r:=fun r e=>by simp [Loc.root] at e; subst e; exact hp
 have h2:∀ i r,(Loc.row p i).root=some r→¬T r:=fun i r e=>by simp [Loc.root] at e; subst e; exact hp
 have rowOK:∀ {e2:TypeId} {sh:Sh} {i:Nat} {xs:List sh.T},zCb C γ w p e2 sh i xs→zCb C γ' w' p e2 sh i xs:=by
  intro e2 sh i xs hr
  unfold zCb at *
  obtain ⟨b1,b2⟩:=m.ownB (h2 i) hr.2
  rw [m.rows p i hp]
  exact ⟨zDr hr.1 b2,b1⟩
 cases rc with
 | flat e sh xs =>
  obtain ⟨b1,b2⟩:=m.ownB h1 h.2.2
  refine ⟨h.1,?_,?_⟩<;>rw [m.hd p hp]
  ·exact zDr h.2.1 b2
  ·exact b1
 | deep e e2 sh xss =>
  obtain ⟨b1,b2⟩:=m.ownB h1 h.2.2.1
  refine ⟨h.1,?_,?_,fun i xs hi=>rowOK (h.2.2.2 i xs hi)⟩<;>rw [m.hd p hp]
  ·rw [hrf]; exact zDr h.2.1 b2
  ·exact b1
 | hole e e2 sh xss k =>
  obtain ⟨b1,b2⟩:=m.ownB h1 h.2.2.1
  refine ⟨h.1,?_,?_,fun i xs hne hi=>rowOK (h.2.2.2 i xs hne hi)⟩<;>rw [m.hd p hp]
  ·rw [hrf]; exact zDr h.2.1 b2
  ·exact b1
 | rags e sh xss =>
  obtain ⟨vs,k1,k2,k3⟩:=h
  obtain ⟨b1,b2⟩:=m.ownB h1 k2
  exact ⟨vs,by rw [m.hd p hp]; exact zDr k1 b2,by rw [m.hd p hp]; exact b1,zAF m.sub _ _ (fun b hb=>by obtain ⟨y,_,rfl⟩:=List.mem_map.1 hb; trivial) k3⟩
theorem Move.rel {T:Nat→Prop} (m:Move C γ w γ' w' T) (h:Rel C γ s a w) {K:BV→BV} (hK:Forgets K γ γ') {roots':Nat→Option RC}
 (hr:∀ p rc,roots' p=some rc→(¬T p∧s.roots p=some rc)∨rcRep C γ' w' p rc) :
 Rel C γ' ⟨fun i=>mapSV K (s.env i),roots',fun b=>(s.boxes b).map (mapSV K)⟩ a w':=by
 refine ⟨h.defers,m.keep,m.ownlt,fun r hr=>⟨m.lent r hr,(m.bx r).trans (h.lent r hr).2⟩,fun i=>zGZ m.sub hK (h.env i),fun p rc hp=>?_,fun b sv hb=>?_⟩
 ·rcases hr p rc hp with ⟨h1,h2⟩|h1
  ·exact m.root h1 (h.roots p rc h2)
  ·exact h1
 ·simp only [Option.map_eq_some_iff] at hb
  obtain ⟨sv',h1,rfl⟩:=hb
  obtain ⟨cs,t,d1,d2,d3,d4,d5⟩:=h.boxes b sv' h1
  obtain ⟨k1,k2⟩:=m.kept _ _ d4 (fun r e=>by simp [Loc.root] at e)
  refine ⟨cs,t,?_,zC8 m.sub hK d2,d3,?_,?_⟩<;>rw [m.bx b]
  ·exact k2.trans d1
  ·exact k1
  ·exact d5
theorem zGB {d:Nat} (hh:∀ q,q≠d→γ'.hd q=γ.hd q) (hr:∀ q i,q≠d→γ'.rows q i=γ.rows q i) (hb:∀ x,γ'.bx x=γ.bx x):Forgets (killR d) γ γ':=by
 intro b
 by_cases h1:killR d b=.any
 ·exact .inl h1
 ·exact .inr ⟨(zEM d b).resolve_left h1,zDP h1 hh hr hb⟩
def zCa (γ:Gam) (d:Nat) (x:Sl) (rs:Nat→Sl) (k:Nat):Gam:=⟨upd γ.hs d x,upd γ.rs d rs,γ.bx,fun b=>if x.v.ownBlock=some b∧b=k then some (.hd d) else γ.own b⟩
theorem zWh (h:Rel C γ s a w) {d:Nat} (hd:C.nl≤d) (x:Sl) (rs:Nat→Sl) (hg:w.grownBy w' none) (hx:∀ b,x.v.ownBlock=some b→b=w.heap.size∧b<w'.heap.size) :
 Move C γ w (zCa γ d x rs w.heap.size) w' (fun p=>p=d):=by
 have hsame:∀ b,b<w.heap.size→(zCa γ d x rs w.heap.size).own b=γ.own b:=fun b hb=>by
  simp only [zCa]
  rw [if_neg (fun e=>by omega)]
 refine ⟨⟨hg.size,fun b hb hz=>⟨⟨hz.1,by rw [hsame b hb]; exact hz.2⟩,hg.block b hb (by simp)⟩,fun b d hb ho=>⟨by rw [hsame b hb]; exact ho,hg.block b hb (by simp)⟩⟩,⟨hg.os.trans h.keep.os,hg.tape.trans h.keep.tape,hg.output.trans h.keep.output,Nat.le_trans h.keep.size hg.size,fun k hk hL =>
  (hg.block k (Nat.lt_of_lt_of_le hk h.keep.size) (by simp)).trans (h.keep.block k hk hL)⟩,fun k l hk=>?_,fun r hr=>?_,fun p hp=>?_,fun p i hp=>?_,fun _=>rfl,fun b l hb hl=>⟨?_,hg.block b (h.ownlt b l hb) (by simp)⟩⟩
 ·simp only [zCa] at hk
  split at hk
  ·rename_i e; exact (hx k e.1).2
  ·exact Nat.lt_of_lt_of_le (h.ownlt k l hk) hg.size
 ·simp only [Gam.hd,zCa,upd]
  rw [if_neg (by omega)]
  exact (h.lent r hr).1
 ·simp only [Gam.hd,zCa,upd]
  rw [if_neg hp]
 ·simp only [Gam.rows,zCa,upd]
  rw [if_neg hp]
 ·rw [hsame b (h.ownlt b l hb)]
  exact hb
theorem zA4 (γ:Gam) (d:Nat) (x:Sl) (rs:Nat→Sl) (k:Nat):(zCa γ d x rs k).hd d=x.v:=by simp [zCa,Gam.hd,upd]
theorem zIR (γ:Gam) (d:Nat) (x:Sl) (rs:Nat→Sl) (k i:Nat):(zCa γ d x rs k).rows d i=(rs i).v:=by simp [zCa,Gam.rows,upd]
theorem zDD {d:Nat} {x:Sl} {rs:Nat→Sl} (h:Rel C γ s a w) (hx:∀ b,x.v.ownBlock=some b→b=w.heap.size):ownB C (zCa γ d x rs w.heap.size) x.v (.hd d):=by
 intro k hk
 refine ⟨?_,.inl ?_⟩
 ·simp only [zCa]
  rw [if_pos ⟨hk,hx k hk⟩]
 ·rw [hx k hk]
  exact h.keep.size
theorem zHm (h:Rel C γ s a w) {d:Nat} (hd:C.nl≤d) (x:Sl) (rs:Nat→Sl) (hg:w.grownBy w' none) (hx:∀ b,x.v.ownBlock=some b→b=w.heap.size∧b<w'.heap.size) {rc:RC}
 (hrc:rcRep C (zCa γ d x rs w.heap.size) w' d rc):Rel C (zCa γ d x rs w.heap.size) ((s.map (killR d)).setRoot d (some rc)) a w':=by
 have m:=zWh h hd x rs hg hx
 refine m.rel h (zGB (fun q hq=>m.hd q hq) (fun q i hq=>m.rows q i hq) m.bx) (fun p rc' hp=>?_)
 simp only [AS.map,upd] at hp
 split at hp
 ·rename_i e
  subst e
  simp only [Option.some.injEq] at hp
  subst hp
  exact .inr hrc
 ·rename_i e
  exact .inl ⟨e,hp⟩
theorem zFo {sh:Sh} (z:Array Value) (hz:z.toList=sh.cells sh.zero) (hpos:0<sh.size) (k:Nat):(madeCells z (k*sh.size)).toList=(List.replicate k sh.zero).flatMap sh.cells:=by
 have hzs:z.size=sh.size:=by have:=congrArg List.length hz; rw [zAv] at this; simpa using this
 apply List.ext_getElem?
 intro j
 have hlen:((List.replicate k sh.zero).flatMap sh.cells).length=k*sh.size:=by rw [zBT sh.cells sh.size (zAv sh)]; simp
 rcases Nat.lt_or_ge j (k*sh.size) with hj|hj
 ·have h1:j / sh.size<k:=(Nat.div_lt_iff_lt_mul hpos).2 hj
  have h2:j % sh.size<sh.size:=Nat.mod_lt _ hpos
  have h3:j=(j / sh.size)*sh.size+j % sh.size:=by rw [Nat.mul_comm]; exact (Nat.div_add_mod j sh.size).symm
  have h4:=zEK sh.cells sh.size (zAv sh) (List.replicate k sh.zero) (j / sh.size) (j % sh.size) (by simpa using h1) h2
  rw [←h3] at h4
  rw [h4]
  have h5:(sh.cells sh.zero)[j % sh.size]?=z[j % sh.size]?:=by rw [←hz]; simp
  have h6:z[j % sh.size]?=some (z[j % sh.size]'(by omega)):=by simp [hzs,h2]
  simp only [List.getElem_replicate,h5,h6]
  simp [madeCells,hzs,hj,h2]
 ·have h1:(madeCells z (k*sh.size)).toList.length≤j:=by rw [Array.length_toList,size_madeCells]; exact hj
  rw [List.getElem?_eq_none h1,List.getElem?_eq_none (by rw [hlen]; exact hj)]
theorem zO6 (hG:LangOK C.P G) (h:Rel C γ s a w) {d:Nat} {t:TypeId} {l c:Operand} {ty:TypeId} {pos:String} {af:Array Edge} {gd:Option (Nat×Bool)} {sh:Sh} {n:Int}
 (hl:ev s l=.one (.val .int n)) (hc:ev s c=.one (.val .int n)) (ht:G.sh t=some (.sl sh)) (hn:cutOK n 1000000) (hf:sh.flat=true) (hd:C.nl≤d) :
 ∃ v w' γ',(execOp a.eval ⟨some d,.makeSlice t l c,ty,pos,af,gd⟩).run C.P w=.ok (.value v) w' ∧
  Rel C γ' ((s.map (killR d)).setRoot d (some (.flat (G.el t) sh (List.replicate n.toNat sh.zero)))) a w'∧svRep C γ' w' (.one (.ref d)) v:=by
 have hl':=zAn h l
 have hc':=zAn h c
 rw [hl] at hl'
 rw [hc] at hc'
 have hl':=zAH hl'
 have hc':=zAH hc'
 obtain ⟨hu,he,hpos⟩:=hG.sl t sh ht
 obtain ⟨i0,z,hi0,hs0,hby,hz,hzc⟩:=hG.info _ sh he
 obtain ⟨k,rfl⟩:∃ k:Nat,n=k:=⟨n.toNat,by have:=hn.1; omega⟩
 have hk:k≤1000000:=by have:=hn.2; omega
 obtain ⟨w',hr,hown,hg⟩:=run_make_full (P:=C.P) w 0 t (G.el t) i0 z sh.size hu hi0 hz hs0 .i64 .i64 k (by have:=Nat.mul_le_mul hby hk; omega) (by unfold maxLen; omega) (Nat.zero_le _)
 have hlt:w.heap.size<w'.heap.size:=by
  rcases hown.2 with ⟨e,_⟩|⟨g,cap,cur,e,_,hg',_⟩
  ·simp at e
  ·simp only [Value.slice.injEq,Option.some.injEq,Addr.mk.injEq,and_true,true_and] at e
   obtain ⟨e1,_⟩:=e
   rw [e1]
   exact (Array.getElem?_eq_some_iff.1 hg').1
 let x:Sl:=⟨some ⟨w.heap.size,0,none⟩,k,k⟩
 have hx:∀ b,x.v.ownBlock=some b→b=w.heap.size:=fun b hb=>by
  simp only [x,Sl.v,Value.ownBlock,Option.some.injEq] at hb
  exact hb.symm
 refine ⟨x.v,w',zCa γ d x (fun _=>⟨none,0,0⟩) w.heap.size,run_v (by rw [hl',hc']; exact hr),zHm h hd x _ hg (fun b hb=>⟨hx b hb,by rw [hx b hb]; exact hlt⟩) ⟨hf,?_,?_⟩,by simp only [svRep,bvRep]; rw [zA4]⟩
 ·rw [zA4,List.length_replicate,Int.toNat_natCast]
  have hcells:(madeCells z.cells (k*sh.size)).toList=(List.replicate k sh.zero).flatMap sh.cells:=by
   have hz':z.cells.toList=sh.cells sh.zero:=hzc
   exact zFo z.cells hz' hpos.1 k
  rw [←hcells]
  exact hown
 ·rw [zA4]
  exact zDD h hx
theorem zHn {α:Type} (c:Value) (k:Nat) {x:α}:(List.replicate k x).flatMap (fun _=>[c])=List.replicate k c:=by
 induction k with
 | zero=>rfl
 | succ k ih=>simp [List.replicate_succ,ih]
theorem zO5 (hG:LangOK C.P G) (h:Rel C γ s a w) {d:Nat} {t:TypeId} {l c:Operand} {ty:TypeId} {pos:String} {af:Array Edge} {gd:Option (Nat×Bool)} {sh:Sh} {n:Int}
 (hl:ev s l=.one (.val .int n)) (hc:ev s c=.one (.val .int n)) (ht:G.sh t=some (.sl (.sl sh))) (hn:cutOK n 1000000) (hf:sh.flat=true) (hd:C.nl≤d) :
 ∃ v w' γ',(execOp a.eval ⟨some d,.makeSlice t l c,ty,pos,af,gd⟩).run C.P w=.ok (.value v) w' ∧
  Rel C γ' ((s.map (killR d)).setRoot d (some (.deep (G.el t) (G.el (G.el t)) sh (List.replicate n.toNat [])))) a w'∧svRep C γ' w' (.one (.ref d)) v:=by
 have hl':=zAn h l
 have hc':=zAn h c
 rw [hl] at hl'
 rw [hc] at hc'
 have hl':=zAH hl'
 have hc':=zAH hc'
 obtain ⟨hu,he,hpos⟩:=hG.sl t _ ht
 obtain ⟨i0,z,hi0,hs0,hby,hz,hzc⟩:=hG.info _ _ he
 obtain ⟨k,rfl⟩:∃ k:Nat,n=k:=⟨n.toNat,by have:=hn.1; omega⟩
 have hk:k≤1000000:=by have:=hn.2; omega
 obtain ⟨w',hr,hown,hg⟩:=run_make_full (P:=C.P) w 0 t (G.el t) i0 z 1 hu hi0 hz hs0 .i64 .i64 k (by have:=Nat.mul_le_mul hby hk; omega) (by unfold maxLen; omega) (Nat.zero_le _)
 have hlt:w.heap.size<w'.heap.size:=by
  rcases hown.2 with ⟨e,_⟩|⟨g,cap,cur,e,_,hg',_⟩
  ·simp at e
  ·simp only [Value.slice.injEq,Option.some.injEq,Addr.mk.injEq,and_true,true_and] at e
   obtain ⟨e1,_⟩:=e
   rw [e1]
   exact (Array.getElem?_eq_some_iff.1 hg').1
 let x:Sl:=⟨some ⟨w.heap.size,0,none⟩,k,k⟩
 have hx:∀ b,x.v.ownBlock=some b→b=w.heap.size:=fun b hb=>by
  simp only [x,Sl.v,Value.ownBlock,Option.some.injEq] at hb
  exact hb.symm
 refine ⟨x.v,w',zCa γ d x (fun _=>⟨none,0,0⟩) w.heap.size,run_v (by rw [hl',hc']; exact hr),zHm h hd x _ hg (fun b hb=>⟨hx b hb,by rw [hx b hb]; exact hlt⟩) ⟨hf,?_,?_,fun i xs hi=>?_⟩,by simp only [svRep,bvRep]; rw [zA4]⟩
 ·rw [zA4,List.length_replicate,Int.toNat_natCast]
  have hcells:(madeCells z.cells (k*1)).toList=zAY (zCa γ d x (fun _=>⟨none,0,0⟩) w.heap.size) d k:=by
   have hz':z.cells.toList=Sh.cells (.sl sh) (Sh.zero (.sl sh)):=hzc
   have h1:=zFo z.cells hz' (by simp [Sh.size]) k
   rw [show (Sh.sl sh).size=1 from rfl] at h1
   rw [h1]
   have hr0:(zCa γ d x (fun _=>⟨none,0,0⟩) w.heap.size).rows d=fun _=>Value.slice none 0 0:=funext fun i=>zIR γ d x _ _ i
   simp only [zAY,Sh.cells]
   rw [hr0,List.map_const',List.length_range]
   exact zHn _ k
  rw [←hcells]
  exact hown
 ·rw [zA4]
  exact zDD h hx
 ·rw [List.getElem?_replicate] at hi
  split at hi
  ·simp only [Option.some.injEq] at hi
   subst hi
   unfold zCb
   rw [zIR]
   exact ⟨World.ownsRow_nil _ _ _ _,fun k hk=>by simp [Sl.v,Value.ownBlock] at hk⟩
  ·cases hi
def mkGam (γ:Gam) (d k:Nat):Gam:={γ with own:=fun b=>if b=k then some (.mk d) else γ.own b}
theorem zU0 (hG:LangOK C.P G) (h:Rel C γ s a w) {dd:Option Tmp} {d:Nat} {t:TypeId} {l c:Operand} {ty:TypeId} {pos:String} {af:Array Edge} {gd:Option (Nat×Bool)} {sh:Sh} {n:Int}
 (hl:ev s l=.one (.val .int n)) (hc:ev s c=.one (.val .int n)) (ht:G.sh t=some (.sl sh)) (hn:cutOK n 1000000) (hf:sh.flat=true) :
 ∃ v w' γ',(execOp a.eval ⟨dd,.makeSlice t l c,ty,pos,af,gd⟩).run C.P w=.ok (.value v) w' ∧
  Rel C γ' s a w'∧svRep C γ' w' (.one (.mk d (G.el t) sh (List.replicate n.toNat sh.zero))) v:=by
 have hl':=zAn h l
 have hc':=zAn h c
 rw [hl] at hl'
 rw [hc] at hc'
 have hl':=zAH hl'
 have hc':=zAH hc'
 obtain ⟨hu,he,hpos⟩:=hG.sl t sh ht
 obtain ⟨i0,z,hi0,hs0,hby,hz,hzc⟩:=hG.info _ sh he
 obtain ⟨k,rfl⟩:∃ k:Nat,n=k:=⟨n.toNat,by have:=hn.1; omega⟩
 have hk:k≤1000000:=by have:=hn.2; omega
 obtain ⟨w',hr,hown,hg⟩:=run_make_full (P:=C.P) w 0 t (G.el t) i0 z sh.size hu hi0 hz hs0 .i64 .i64 k (by have:=Nat.mul_le_mul hby hk; omega) (by unfold maxLen; omega) (Nat.zero_le _)
 have hlt:w.heap.size<w'.heap.size:=zMH hown rfl
 have hsame:∀ b,b<w.heap.size→(mkGam γ d w.heap.size).own b=γ.own b:=fun b hb=>by
  simp only [mkGam]
  rw [if_neg (by omega)]
 have hblk:∀ b,b<w.heap.size→w'.heap[b]?=w.heap[b]?:=fun b hb=>hg.block b hb (by simp)
 have m:Move C γ w (mkGam γ d w.heap.size) w' (fun _=>False) :=
  ⟨⟨hg.size,fun b hb hz=>⟨⟨hz.1,by rw [hsame b hb]; exact hz.2⟩,hblk b hb⟩,fun b e hb ho=>⟨by rw [hsame b hb]; exact ho,hblk b hb⟩⟩,
    ⟨hg.os.trans h.keep.os,hg.tape.trans h.keep.tape,hg.output.trans h.keep.output,Nat.le_trans h.keep.size hg.size,fun k hk hL=>(hg.block k (Nat.lt_of_lt_of_le hk h.keep.size) (by simp)).trans (h.keep.block k hk hL)⟩,
    fun k l hk=>by
     simp only [mkGam] at hk
     split at hk
     ·rename_i e; rw [e]; exact hlt
     ·exact Nat.lt_of_lt_of_le (h.ownlt k l hk) hg.size,
    fun r hr=>(h.lent r hr).1,fun _ _=>rfl,fun _ _ _=>rfl,fun _=>rfl,fun b l hb _=>⟨by rw [hsame b (h.ownlt b l hb)]; exact hb,hblk b (h.ownlt b l hb)⟩⟩
 refine ⟨_,w',mkGam γ d w.heap.size,run_v (by rw [hl',hc']; exact hr),?_,hf,?_,fun b hb=>?_⟩
 ·have hK:Forgets (fun b=>b) γ (mkGam γ d w.heap.size):=fun b=>.inr ⟨rfl,by cases b<;>simp [Agree,Gam.hd,Gam.rows,mkGam]⟩
  have:=m.rel h hK (roots':=s.roots) (fun p rc hp=>.inl ⟨fun h=>h,hp⟩)
  have e1:(fun i=>mapSV (fun b=>b) (s.env i))=s.env:=funext fun i=>zPU _
  have e2:(fun b=>(s.boxes b).map (mapSV fun b=>b))=s.boxes:=funext fun b=>by
   cases s.boxes b with
   | none=>rfl
   | some sv=>simp [zPU]
  rw [e1,e2] at this
  exact this
 ·rw [List.length_replicate,Int.toNat_natCast]
  have hcells:(madeCells z.cells (k*sh.size)).toList=(List.replicate k sh.zero).flatMap sh.cells:=by
   have hz':z.cells.toList=sh.cells sh.zero:=hzc
   exact zFo z.cells hz' hpos.1 k
  rw [←hcells]
  exact hown
 ·simp only [Value.ownBlock,Option.some.injEq] at hb
  subst hb
  exact ⟨by simp [mkGam],.inl h.keep.size⟩
def zBM (d:Nat) (b:BV):BV:=match b with
 | .mk e _ _ _=>if e=d then .any else b
 | b=>b
def thaw (s:AS) (i d r:Nat) (e:TypeId) (sh:Sh) (xs:List sh.T):AS:=(((s.map (zBM d)).map (killR r)).setRoot r (some (.flat e sh xs))).put (some i) (.one (.ref r))
theorem zWU (h:Rel C γ s a w) {i d r:Nat} {e:TypeId} {sh:Sh} {xs:List sh.T} (hi:s.env i=.one (.mk d e sh xs)) (hr:C.nl≤r):∃ γ',Rel C γ' (thaw s i d r e sh xs) a w:=by
 have hv:=h.env i
 rw [hi] at hv
 obtain ⟨hf,hown,hob⟩:=hv
 obtain ⟨ad,cap,e0,h1,h2⟩:=zAO hown
 let x:Sl:=⟨ad,xs.length,cap⟩
 have hx:x.v=a.tmps.getD i undef:=e0.symm
 let γ':Gam:=⟨upd γ.hs r x,γ.rs,γ.bx,fun b=>if x.v.ownBlock=some b then some (.hd r) else γ.own b⟩
 have hmk:∀ b,x.v.ownBlock=some b→γ.own b=some (.mk d):=fun b hb=>(hob b (by rw [←hx]; exact hb)).1
 have hne:∀ b,γ.own b≠some (.mk d)→γ'.own b=γ.own b:=fun b hb=>by
  simp only [γ']
  rw [if_neg (fun e=>hb (hmk b e))]
 have hhd:∀ p,p≠r→γ'.hd p=γ.hd p:=fun p hp=>by simp only [Gam.hd,γ',upd]; rw [if_neg hp]
 have hhd':γ'.hd r=a.tmps.getD i undef:=by rw [←hx]; simp [Gam.hd,γ',upd]
 have keepB:∀ (b:BV) (v:Value),bvRep C γ w b v→bvRep C γ' w (killR r (zBM d b)) v:=by
  intro b v hb
  by_cases hk:killR r (zBM d b)=.any
  ·rw [hk]; trivial
  have hk1:zBM d b=b:=by
   cases b<;>simp only [zBM] at hk ⊢
   split
   ·rename_i e; rw [if_pos e] at hk; exact absurd rfl hk
   ·rfl
  rw [hk1] at hk ⊢
  have hk2:killR r b=b:=(zEM r b).resolve_left hk
  rw [hk2]
  have hz:∀ b,C.zn γ b→C.zn γ' b:=fun b hz=>⟨hz.1,by rw [hne b (by rw [hz.2]; simp)]; exact hz.2⟩
  have ag:Agree γ γ' b:=by
   have:=zDP (γ:=γ) (γ':=γ') hk hhd (fun _ _ _=>rfl) (fun _=>rfl)
   exact this
  cases b with
  | mk d' e' s' ys =>
   obtain ⟨k1,k2,k3⟩:=hb
   have hdd:d'≠d:=by
    intro e
    simp only [zBM,if_pos e] at hk1
    cases hk1
   exact ⟨k1,k2,fun k hk=>⟨by rw [hne k (by rw [(k3 k hk).1]; simp; exact hdd)]; exact (k3 k hk).1,(k3 k hk).2⟩⟩
  | any=>trivial
  | raw u=>exact hb
  | ifc=>exact hb
  | val sh' y =>
   obtain ⟨cs,h1,h2⟩:=hb
   exact ⟨cs,zAx (Nat.le_refl _) (fun b _ hb=>⟨hz b hb,rfl⟩) _ _ _ h1,h2⟩
  | nils=>exact hb
  | ref q=>simp only [bvRep,Agree] at *; rw [ag]; exact hb
  | refi q j=>simp only [bvRep,Agree] at *; rw [ag]; exact hb
  | refp q j=>simp only [bvRep,Agree] at *; rw [ag]; exact hb
  | adr q j sz=>simp only [bvRep,Agree] at *; rw [ag]; exact hb
  | adri q j k sz=>simp only [bvRep,Agree] at *; rw [ag]; exact hb
  | adrf q j sz n f off=>simp only [bvRep,Agree] at *; rw [ag]; exact hb
  | box q=>exact hb
  | boxf q n f off=>exact hb
  | padr sh' y =>
   obtain ⟨b,off,cs,k1,k2,k3,k4,k5⟩:=hb
   exact ⟨b,off,cs,k1,hz b k2,k3,zAx (Nat.le_refl _) (fun b _ hb=>⟨hz b hb,rfl⟩) _ _ _ k4,k5⟩
  | fn f caps=>exact hb
  | bnd f sh' y =>
   obtain ⟨u,h0,cs,h1,h2⟩:=hb
   exact ⟨u,h0,cs,zAx (Nat.le_refl _) (fun b _ hb=>⟨hz b hb,rfl⟩) _ _ _ h1,h2⟩
  | fnv as' r' q p=>exact hb
  | pfn as' r' q p =>
   obtain ⟨b,off,c,k1,k2,k3,k4,k5⟩:=hb
   exact ⟨b,off,c,k1,hz b k2,k3,k4,k5⟩
  | nilf=>exact hb
  | unk=>exact hb
  | lits q =>
   obtain ⟨g,cp,k1,k2,k3,k4⟩:=hb
   exact ⟨g,cp,k1,hz g k2,k3,by rw [show γ'.hd q=γ.hd q from ag]; exact k4⟩
  | skip=>exact hb
 have keepBs:∀ (bs:List BV) (vs:List Value),zAp C γ w bs vs→zAp C γ' w ((bs.map (zBM d)).map (killR r)) vs:=by
  intro bs
  induction bs with
  | nil=>exact fun _ h=>h
  | cons b bs ih =>
   rintro vs ⟨v,vs',rfl,k1,k2⟩
   exact ⟨v,vs',rfl,keepB b v k1,ih vs' k2⟩
 have keepSV:∀ (sv:SV) (v:Value),svRep C γ w sv v→svRep C γ' w (mapSV (killR r) (mapSV (zBM d) sv)) v:=by
  intro sv v hsv
  cases sv with
  | one b=>exact keepB b v hsv
  | tup bs =>
   obtain ⟨vs,k1,k2⟩:=hsv
   exact ⟨vs,k1,keepBs bs vs k2⟩
  | rcd bs =>
   obtain ⟨vs,k1,k2,k3⟩:=hsv
   exact ⟨vs,k1,keepBs bs vs k2,k3⟩
 have keepRoot:∀ (p:Nat) (rc:RC),p≠r→rcRep C γ w p rc→rcRep C γ' w p rc:=by
  intro p rc hp hrc
  have hB:∀ (v:Value) (l:Loc),l≠.mk d→ownB C γ v l→ownB C γ' v l:=fun v l hl ho k hk=>⟨by rw [hne k (by rw [(ho k hk).1]; simpa using hl)]; exact (ho k hk).1,(ho k hk).2⟩
  cases rc with
  | flat e' s' ys=>exact ⟨hrc.1,by rw [hhd p hp]; exact hrc.2.1,by rw [hhd p hp]; exact hB _ _ (by simp) hrc.2.2⟩
  | deep e' e2' s' ys=>exact ⟨hrc.1,by rw [hhd p hp]; exact hrc.2.1,by rw [hhd p hp]; exact hB _ _ (by simp) hrc.2.2.1,fun k zs hk=>⟨(hrc.2.2.2 k zs hk).1,hB _ _ (by simp) (hrc.2.2.2 k zs hk).2⟩⟩
  | hole e' e2' s' ys m=>exact ⟨hrc.1,by rw [hhd p hp]; exact hrc.2.1,by rw [hhd p hp]; exact hB _ _ (by simp) hrc.2.2.1,fun k zs hn hk=>⟨(hrc.2.2.2 k zs hn hk).1,hB _ _ (by simp) (hrc.2.2.2 k zs hn hk).2⟩⟩
  | rags e' s' ys =>
   obtain ⟨vs,k1,k2,k3⟩:=hrc
   refine ⟨vs,by rw [hhd p hp]; exact k1,by rw [hhd p hp]; exact hB _ _ (by simp) k2,?_⟩
   have:∀ (l:List (List s'.T)) (us:List Value),zAp C γ w (l.map fun x=>BV.val (.sl s') x) us→zAp C γ' w (l.map fun x=>BV.val (.sl s') x) us:=by
    intro l
    induction l with
    | nil=>intro us h; exact h
    | cons x l ih =>
     intro us h
     obtain ⟨u,us',rfl,q1,q2⟩:=h
     have q3:=keepB (.val (.sl s') x) u q1
     simp only [zBM,killR] at q3
     exact ⟨u,us',rfl,q3,ih us' q2⟩
   exact this _ _ k3
 refine ⟨γ',h.defers,h.keep,fun k l hk=>?_,fun q hq=>?_,fun j=>?_,fun p rc hp=>?_,fun b sv hb=>?_⟩
 ·simp only [γ'] at hk
  split at hk
  ·rename_i e; exact h.ownlt k _ (hmk k e)
  ·exact h.ownlt k l hk
 ·rw [hhd q (by omega)]
  exact h.lent q hq
 ·simp only [thaw,AS.put,upd]
  split
  ·rename_i e
   subst e
   exact hhd'.symm
  ·exact keepSV _ _ (h.env j)
 ·simp only [thaw,AS.put,AS.setRoot,AS.map,upd] at hp
  split at hp
  ·rename_i e
   subst e
   simp only [Option.some.injEq] at hp
   subst hp
   refine ⟨hf,by rw [hhd']; exact hown,?_⟩
   intro k hk
   rw [hhd',←hx] at hk
   exact ⟨by simp only [γ']; rw [if_pos hk],(hob k (by rw [←hx]; exact hk)).2⟩
  ·rename_i e
   exact keepRoot p rc e (h.roots p rc hp)
 ·simp only [thaw,AS.put,AS.setRoot,AS.map,Option.map_map,Option.map_eq_some_iff] at hb
  obtain ⟨sv',k1,rfl⟩:=hb
  obtain ⟨cs,t,d1,d2,d3,d4,d5⟩:=h.boxes b sv' k1
  refine ⟨cs,t,d1,?_,d3,by show γ'.own (γ.bx b)=_; rw [hne _ (by rw [d4]; simp)]; exact d4,d5⟩
  cases sv' with
  | one b' =>
   obtain ⟨v,e1,e2⟩:=d2
   exact ⟨v,keepB b' v e1,e2⟩
  | tup bs=>exact d2
  | rcd bs=>exact keepBs bs _ d2
theorem zJe {P:Program} {w:World} {t ty e:TypeId} {i:TypeInfo} (ht:P.underlying t=some (.slice e)) (hi:P.info? e=some i) {sz n:Nat} {v:Value} {xs:List Value} (h:w.ownsRow 0 e sz v n xs) (ad:Option Addr) (c:Nat) :
 (Builtin.append_ #[t,t] ty #[v,.slice ad 0 c]).run P w=.ok v w:=by
 rcases h.2 with ⟨rfl,rfl⟩|⟨g,cap,cur,rfl,_,_,hnc,_⟩
 ·cases ad<;>simp [Builtin.append_,run_underlying ht,sizeOf,typeInfo,hi,Builtin.lenOf,Builtin.firstCells,loadCells,loadCellsFrom]
 ·cases ad<;>simp [Builtin.append_,run_underlying ht,sizeOf,typeInfo,hi,Builtin.lenOf,Builtin.firstCells,hnc,storeCells,loadCells,loadCellsFrom]
theorem zED {P:Program} {w:World} {t ty e:TypeId} {i:TypeInfo} {z:Value} (ht:P.underlying t=some (.slice e)) (hi:P.info? e=some i) (hz:i.zero=some z) {sz:Nat} (hsz:i.size=sz) (hzs:z.cells.size=sz)
 {v:Value} {n:Nat} {xs:List Value} (h:w.ownsRow 0 e sz v n xs) (ad:Option Addr) (m c:Nat) (news:List Value) (hl:news.length=m*sz) (hnews:∀ a,ad=some a→∀ j u,news[j]?=some u→w.cell? (a.add j)=some u)
 (hsome:0<m→ad≠none) (h1:∀ u∈news,u.oneCell'=true) (hby:i.bytes≤1024) (hn:n≤1000000) (hm:m≤1000000) :
 ∃ (x:Sl) (w':World),(Builtin.append_ #[t,t] ty #[v,.slice ad m c]).run P w=.ok x.v w'∧w'.ownsRow 0 e sz x.v (n+m) (xs++news) ∧
  ((x.v.ownBlock=v.ownBlock∧w.grownBy w' v.ownBlock)∨(x.v.ownBlock=some w.heap.size∧w.heap.size<w'.heap.size∧w.grownBy w' none)):=by
 rcases Nat.eq_zero_or_pos m with rfl|hpos
 ·obtain ⟨a0,cp,e0,_⟩:=zAO h
  have hnil:news=[]:=by simpa using hl
  subst hnil
  refine ⟨⟨a0,n,cp⟩,w,?_,?_,.inl ⟨?_,⟨rfl,rfl,rfl,Nat.le_refl _,fun _ _ _=>rfl⟩⟩⟩
  ·rw [zJe ht hi h ad c,e0]; rfl
  ·rw [Nat.add_zero,List.append_nil]
   have:(⟨a0,n,cp⟩:Sl).v=v:=e0.symm
   rw [this]; exact h
  ·rw [e0]; rfl
 ·obtain ⟨a,rfl⟩:∃ a,ad=some a:=by
   cases ad with
   | none=>exact absurd rfl (hsome hpos)
   | some a=>exact ⟨a,rfl⟩
  have hnews':=hnews a rfl
  subst hsz
  have hb:(n+m)*i.bytes≤140737488355328:=by
   have:=Nat.mul_le_mul (show n+m≤2000000 by omega) hby
   omega
  have grown:∀ (old:Nat) ,old<n+m →
   (w.drew.alloc (.cells (xs.toArray++news.toArray++Builtin.zeroCells z.cells (grownCap w (n+m) old e - (n+m))) e)).ownsRow 0 e i.size
    (.slice (some ⟨w.heap.size,0,none⟩) (n+m) (grownCap w (n+m) old e)) (n+m) (xs++news):=by
   intro old ho
   have hge:=grownCap_ge w (n+m) old e
   have hcm:grownCap w (n+m) old e≤maxLen:=grownCap_le_maxLen w (n+m) old e (by unfold maxLen; omega)
   refine ⟨by rw [List.length_append,h.1,hl,Nat.add_mul],.inr ⟨w.heap.size,_,_,rfl,Nat.zero_le _,heap_alloc_new w.drew _,hge,hcm,?_,?_⟩⟩
   ·simp only [Array.size_append,List.size_toArray,size_zeroCells,hzs,h.1,hl,←Nat.add_mul]
    congr 1
    omega
   ·have:(xs++news).length=(n+m)*i.size:=by rw [List.length_append,h.1,hl,Nat.add_mul]
    simp only [Array.toList_append]
    rw [←this]
    exact List.take_left
  rcases h.2 with ⟨rfl,rfl⟩|⟨g,cap,cur,rfl,hb0,hg,hnc,hcm,hcs,htake⟩
  ·have hx:xs=[]:=by simpa using h.1
   subst hx
   have hr:=run_append_nil (P:=P) w t ty e i z ht hi hz a m c news hl hnews' hpos (by omega) (by rw [Nat.zero_add] at hb; omega)
   have hg:=grown 0 (by omega)
   simp only [Nat.zero_add,List.nil_append] at hg ⊢
   refine ⟨⟨some ⟨w.heap.size,0,none⟩,m,grownCap w m 0 e⟩,_,hr,by simpa [Sl.v] using hg,.inr ⟨rfl,by simp,⟨rfl,rfl,rfl,by simp,fun k hk _=>Below.heap_alloc w.drew _ k hk⟩⟩⟩
  ·rcases Nat.lt_or_ge cap (n+m) with hcap|hcap
   ·have holds:∀ j u,xs[j]?=some u→w.cell? ((⟨g,0,none⟩:Addr).add j)=some u:=fun j u hj=>by
     rw [Addr.add_lit,Nat.zero_add]
     exact zEQ h hj
    have hfit:=growslice_fits (old:=cap) hcap hb
    have hr:=run_append_grow (P:=P) w t ty e i z ht hi hz ⟨g,0,none⟩ n cap xs h.1 holds a m c news hl hnews' hcap (by omega) hfit
    exact ⟨⟨some ⟨w.heap.size,0,none⟩,n+m,grownCap w (n+m) cap e⟩,_,hr,grown cap hcap,.inr ⟨rfl,by simp,⟨rfl,rfl,rfl,by simp,fun k hk _=>Below.heap_alloc w.drew _ k hk⟩⟩⟩
   ·obtain ⟨w',hr,ho,hgr⟩:=run_append_fits (P:=P) w 0 t ty e i i.size ht hi rfl g n cap xs h a m c news hl hnews' h1 hcap
    exact ⟨⟨some ⟨g,0,none⟩,n+m,cap⟩,w',hr,ho,.inl ⟨rfl,hgr⟩⟩
theorem zEH {P:Program} {w w':World} {a:Act} {t ty:TypeId} {x y:Operand} {d:Option Tmp} {pos:String} {af:Array Edge} {gd:Option (Nat×Bool)} {v:Value}
 (h:(Builtin.append_ #[t,t] ty #[a.eval x,a.eval y]).run P w=.ok v w'):(execOp a.eval ⟨d,.call {callee:=.builtin .append,args:=#[x,y],argTypes:=#[t,t]},ty,pos,af,gd⟩).run P w=.ok (.value v) w':=by
 simp only [execOp,resolve,invoke,builtin]
 simp [h]
end
end Go.VS
namespace Go.VS
open Go.RowKit
section
variable {C:Ctx} {G:Lang} {γ γ':Gam} {s:AS} {a:Act} {w w':World}
theorem zOS (hG:LangOK C.P G) (h:Rel C γ s a w) {t:TypeId} {sv:SV} {sh:Sh} {ys:List sh.T} (hl:lens G s t sv=some ⟨sh,ys⟩) (hf:sh.flat=true) (hpos:0<sh.size) {v:Value} (hv:svRep C γ w sv v) :
 ∃ ad c,v=.slice ad ys.length c∧(0<ys.length→ad≠none)∧∀ b,ad=some b→∀ j u,(ys.flatMap sh.cells)[j]?=some u→w.cell? (b.add j)=some u:=by
 have split:∀ (j:Nat) (u:Value),(ys.flatMap sh.cells)[j]?=some u→j / sh.size<ys.length∧∀ hi:j / sh.size<ys.length,(sh.cells ys[j / sh.size])[j % sh.size]?=some u:=by
  intro j u hj
  have hlt:=(List.getElem?_eq_some_iff.1 hj).1
  rw [zBT sh.cells sh.size (zAv sh)] at hlt
  have h1:j / sh.size<ys.length:=(Nat.div_lt_iff_lt_mul hpos).2 hlt
  refine ⟨h1,fun hi=>?_⟩
  have h3:j=(j / sh.size)*sh.size+j % sh.size:=by rw [Nat.mul_comm]; exact (Nat.div_add_mod j sh.size).symm
  have h4:=zEK sh.cells sh.size (zAv sh) ys (j / sh.size) (j % sh.size) h1 (Nat.mod_lt _ hpos)
  rw [←h3,hj] at h4
  exact h4.symm
 have owned:∀ {e:TypeId} {v:Value},w.ownsRow 0 e sh.size v ys.length (ys.flatMap sh.cells)→∃ ad c,v=.slice ad ys.length c∧(0<ys.length→ad≠none)∧∀ b,ad=some b→∀ j u,(ys.flatMap sh.cells)[j]?=some u→w.cell? (b.add j)=some u:=by
  intro e v hown
  rcases hown.2 with ⟨rfl,h2⟩|⟨g,cap,cur,rfl,hr⟩
  ·exact ⟨none,0,by rw [h2],fun h3=>by omega,fun b hb=>by cases hb⟩
  ·refine ⟨some ⟨g,0,none⟩,cap,rfl,fun _=>by simp,fun b hb j u hj=>?_⟩
   simp only [Option.some.injEq] at hb
   subst hb
   rw [Addr.add_lit,Nat.zero_add]
   exact zEQ hown hj
 unfold lens at hl
 split at hl
 ·rename_i sh' xs
  simp only [Option.some.injEq,Sigma.mk.injEq] at hl
  obtain ⟨rfl,hl⟩:=hl
  simp only [heq_eq_eq] at hl
  subst hl
  obtain ⟨cs,⟨ad,cap,rfl,hc,hm,hall⟩,hv'⟩:=hv
  refine ⟨ad,cap,by rw [hv']; rfl,fun h0=>?_,fun b hb j u hj=>?_⟩
  ·obtain ⟨b,off,c,e,_⟩:=hall 0 h0
   rw [e]; simp
  ·obtain ⟨h1,h2⟩:=split j u hj
   obtain ⟨b',off,c,e,hz,hlt,hp,hcell⟩:=hall (j / sh'.size) h1
   rw [hb] at e
   simp only [Option.some.injEq] at e
   subst e
   rw [Addr.add_lit]
   have hc':=(zBt sh' _ c hf).1 hp
   have h3:=hcell (j % sh'.size) u (by rw [hc']; exact h2 h1)
   have h4:(j / sh'.size)*sh'.size+j % sh'.size=j:=by rw [Nat.mul_comm]; exact Nat.div_add_mod j sh'.size
   rw [h4] at h3
   exact h3
 ·split at hl
  ·rename_i sh' ht
   simp only [Option.some.injEq,Sigma.mk.injEq] at hl
   obtain ⟨rfl,hl⟩:=hl
   simp only [heq_eq_eq] at hl
   subst hl
   simp only [svRep,bvRep] at hv
   exact ⟨none,0,hv,fun h0=>by simp at h0,fun b hb=>by cases hb⟩
  ·cases hl
 ·split at hl
  ·rename_i r e sh' xs hr
   simp only [Option.some.injEq,Sigma.mk.injEq] at hl
   obtain ⟨rfl,hl⟩:=hl
   simp only [heq_eq_eq] at hl
   subst hl
   simp only [svRep,bvRep] at hv
   rw [hv]
   exact owned (h.roots _ _ hr).2.1
  ·cases hl
 ·split at hl
  ·rename_i r i _ e e2 sh' xss hr
   split at hl
   ·rename_i hi
    simp only [Option.some.injEq,Sigma.mk.injEq] at hl
    obtain ⟨rfl,hl⟩:=hl
    simp only [heq_eq_eq] at hl
    subst hl
    simp only [svRep,bvRep] at hv
    rw [hv]
    have hgi:xss.getD i []=xss[i]:=by simp [List.getD_eq_getElem?_getD,hi]
    rw [hgi] at owned ⊢
    exact owned ((h.roots _ _ hr).2.2.2 i _ (by simp [hi])).1
   ·cases hl
  ·cases hl
 ·cases hl
theorem zGg {sh:Sh} (ys:List sh.T):∀ u∈ys.flatMap sh.cells,u.oneCell'=true:=by
 intro u hu
 obtain ⟨y,_,h2⟩:=List.mem_flatMap.1 hu
 exact zCC sh y u h2
def reGam (γ:Gam) (d:Nat) (x:Sl) (k:Nat):Gam:=⟨upd γ.hs d x,γ.rs,γ.bx,fun b=>if x.v.ownBlock=some b∧b=k then some (.hd d) else γ.own b⟩
theorem zRG (h:Rel C γ s a w) {d:Nat} (hd:C.nl≤d) (x:Sl) (hob:ownB C γ (γ.hd d) (.hd d))
 (hx:(x.v.ownBlock=(γ.hd d).ownBlock∧w.grownBy w' (γ.hd d).ownBlock)∨(x.v.ownBlock=some w.heap.size∧w.heap.size<w'.heap.size∧w.grownBy w' none)) :
 Move C γ w (reGam γ d x w.heap.size) w' (fun p=>p=d)∧ownB C (reGam γ d x w.heap.size) x.v (.hd d)∧(∀ b l,γ.own b=some l→(reGam γ d x w.heap.size).own b=some l):=by
 have hsame:∀ b,b<w.heap.size→(reGam γ d x w.heap.size).own b=γ.own b:=fun b hb=>by
  simp only [reGam]
  rw [if_neg (fun e=>by omega)]
 have hkeep:∀ b l,γ.own b=some l→(reGam γ d x w.heap.size).own b=some l:=fun b l hb=>by rw [hsame b (h.ownlt b l hb)]; exact hb
 have hblk:∀ b,b<w.heap.size→γ.own b≠some (.hd d)→w'.heap[b]?=w.heap[b]?:=by
  intro b hb hne
  rcases hx with ⟨_,hg⟩|⟨_,_,hg⟩
  ·refine hg.block b hb (fun e=>hne (hob b e.symm).1)
  ·exact hg.block b hb (by simp)
 have hos:w'.os=w.os∧w'.tape=w.tape∧w'.output=w.output∧w.heap.size≤w'.heap.size:=by
  rcases hx with ⟨_,hg⟩|⟨_,_,hg⟩<;>exact ⟨hg.os,hg.tape,hg.output,hg.size⟩
 refine ⟨⟨⟨hos.2.2.2,fun b hb hz=>⟨⟨hz.1,by rw [hsame b hb]; exact hz.2⟩,hblk b hb (by rw [hz.2]; simp)⟩,fun b d hb ho=>⟨by rw [hsame b hb]; exact ho,hblk b hb (by rw [ho]; simp)⟩⟩,⟨hos.1.trans h.keep.os,hos.2.1.trans h.keep.tape,hos.2.2.1.trans h.keep.output,Nat.le_trans h.keep.size hos.2.2.2,fun k hk hL=>?_⟩,fun k l hk=>?_,fun r hr=>?_,fun p hp=>?_,fun p i hp=>rfl,fun _=>rfl,fun b l hb hl=>⟨hkeep b l hb,hblk b (h.ownlt b l hb) ?_⟩⟩,fun k hk=>?_,hkeep⟩
 ·rcases hx with ⟨_,hg⟩|⟨_,_,hg⟩
  ·rw [hg.block k (Nat.lt_of_lt_of_le hk h.keep.size) (fun e=>by
    rcases (hob k e.symm).2 with h1|h1
    ·omega
    ·exact hL h1)]
   exact h.keep.block k hk hL
  ·rw [hg.block k (Nat.lt_of_lt_of_le hk h.keep.size) (by simp)]
   exact h.keep.block k hk hL
 ·simp only [reGam] at hk
  split at hk
  ·rename_i e
   rcases hx with ⟨h1,hg⟩|⟨h1,h2,hg⟩
   ·rw [h1] at e
    have:=h.ownlt k _ (hob k e.1).1
    omega
   ·omega
  ·exact Nat.lt_of_lt_of_le (h.ownlt k l hk) hos.2.2.2
 ·simp only [Gam.hd,reGam,upd]
  rw [if_neg (by omega)]
  exact (h.lent r hr).1
 ·simp only [Gam.hd,reGam,upd]
  rw [if_neg hp]
 ·rw [hb]
  intro e
  simp only [Option.some.injEq] at e
  subst e
  exact hl d rfl rfl
 ·rcases hx with ⟨h1,hg⟩|⟨h1,h2,hg⟩
  ·rw [h1] at hk
   exact ⟨hkeep k _ (hob k hk).1,(hob k hk).2⟩
  ·rw [h1] at hk
   simp only [Option.some.injEq] at hk
   subst hk
   exact ⟨by simp only [reGam]; rw [if_pos ⟨h1,trivial⟩],.inl h.keep.size⟩
theorem zP6 (γ:Gam) (d:Nat) (x:Sl) (k:Nat):(reGam γ d x k).hd d=x.v:=by simp [reGam,Gam.hd,upd]
theorem zLJ (hG:LangOK C.P G) (h:Rel C γ s a w) {d:Option Tmp} {t:TypeId} {x y:Operand} {ty:TypeId} {pos:String} {af:Array Edge} {gd:Option (Nat×Bool)} {r:Nat} {sh:Sh} {xs ys:List sh.T}
 (hx:ev s x=.one (.ref r)) (hr:s.roots r=some (.flat (G.el t) sh xs)) (hy:lens G s t (ev s y)=some ⟨sh,ys⟩) (ht:G.sh t=some (.sl sh)) (hd:C.nl≤r) (hn:xs.length≤1000000) (hm:ys.length≤1000000) :
 ∃ v w' γ',(execOp a.eval ⟨d,.call {callee:=.builtin .append,args:=#[x,y],argTypes:=#[t,t]},ty,pos,af,gd⟩).run C.P w=.ok (.value v) w' ∧
  Rel C γ' ((s.map (killR r)).setRoot r (some (.flat (G.el t) sh (xs++ys)))) a w'∧svRep C γ' w' (.one (.ref r)) v:=by
 have hx':=zAn h x
 rw [hx] at hx'
 simp only [svRep,bvRep] at hx'
 obtain ⟨hu,he,hpos⟩:=hG.sl t sh ht
 obtain ⟨i0,z,hi0,hs0,hby,hz,hzc⟩:=hG.info _ sh he
 have hzs:z.cells.size=sh.size:=by have:=congrArg List.length hzc; rw [zAv] at this; simpa using this
 obtain ⟨hf,hown,hob⟩:=h.roots r _ hr
 obtain ⟨ad,c,hv,hne,hcells⟩:=zOS hG h hy hf hpos.1 (zAn h y)
 obtain ⟨X,w',hrun,hown',hX⟩:=zED (ty:=ty) hu hi0 hz hs0 hzs hown ad ys.length c (ys.flatMap sh.cells) (zBT sh.cells sh.size (zAv sh) ys) hcells hne (zGg ys) hby hn hm
 obtain ⟨m,ho,_⟩:=zRG h hd X hob hX
 refine ⟨X.v,w',reGam γ r X w.heap.size,zEH (by rw [hx',hv]; exact hrun),?_,by simp only [svRep,bvRep]; rw [zP6]⟩
 refine m.rel h (zGB (fun q hq=>m.hd q hq) (fun q i hq=>m.rows q i hq) m.bx) (fun p rc' hp=>?_)
 simp only [AS.map,upd] at hp
 split at hp
 ·rename_i e
  subst e
  simp only [Option.some.injEq] at hp
  subst hp
  right
  refine ⟨hf,?_,?_⟩<;>rw [zP6]
  ·rw [List.length_append,List.flatMap_append]; exact hown'
  ·exact ho
 ·rename_i e
  exact .inl ⟨e,hp⟩
theorem zNo (hG:LangOK C.P G) (h:Rel C γ s a w) {d:Nat} {t:TypeId} {x y:Operand} {ty:TypeId} {pos:String} {af:Array Edge} {gd:Option (Nat×Bool)} {sh:Sh} {ys:List sh.T}
 (hx:ev s x=.one .nils) (hy:lens G s t (ev s y)=some ⟨sh,ys⟩) (ht:G.sh t=some (.sl sh)) (hf:sh.flat=true) (hd:C.nl≤d) (hm:ys.length≤1000000) :
 ∃ v w' γ',(execOp a.eval ⟨some d,.call {callee:=.builtin .append,args:=#[x,y],argTypes:=#[t,t]},ty,pos,af,gd⟩).run C.P w=.ok (.value v) w' ∧
  Rel C γ' ((s.map (killR d)).setRoot d (some (.flat (G.el t) sh ys))) a w'∧svRep C γ' w' (.one (.ref d)) v:=by
 have hx':=zAn h x
 rw [hx] at hx'
 simp only [svRep,bvRep] at hx'
 obtain ⟨hu,he,hpos⟩:=hG.sl t sh ht
 obtain ⟨i0,z,hi0,hs0,hby,hz,hzc⟩:=hG.info _ sh he
 have hzs:z.cells.size=sh.size:=by have:=congrArg List.length hzc; rw [zAv] at this; simpa using this
 obtain ⟨ad,c,hv,hne,hcells⟩:=zOS hG h hy hf hpos.1 (zAn h y)
 obtain ⟨X,w',hrun,hown',hX⟩:=zED (ty:=ty) hu hi0 hz hs0 hzs (World.ownsRow_nil w 0 (G.el t) sh.size) ad ys.length c (ys.flatMap sh.cells) (zBT sh.cells sh.size (zAv sh) ys) hcells hne (zGg ys) hby (by omega) hm
 have hg:w.grownBy w' none:=by rcases hX with ⟨_,hg⟩|⟨_,_,hg⟩<;>exact hg
 have hXb:∀ b,X.v.ownBlock=some b→b=w.heap.size∧b<w'.heap.size:=by
  intro b hb
  rcases hX with ⟨h1,_⟩|⟨h1,h2,_⟩
  ·rw [h1] at hb; simp [Value.ownBlock] at hb
  ·rw [h1] at hb
   simp only [Option.some.injEq] at hb
   subst hb
   exact ⟨rfl,h2⟩
 refine ⟨X.v,w',zCa γ d X (γ.rs d) w.heap.size,zEH (by rw [hx',hv]; exact hrun),zHm h hd X (γ.rs d) hg hXb ⟨hf,?_,?_⟩,by simp only [svRep,bvRep]; rw [zA4]⟩
 ·rw [zA4]
  simpa using hown'
 ·rw [zA4]
  exact zDD h (fun b hb=>(hXb b hb).1)
def zGR (γ:Gam) (r q n:Nat) (x:Sl) (k:Nat):Gam :=
 ⟨upd γ.hs r x,fun p i=>if p=r∧i=n then γ.hs q else γ.rs p i,γ.bx,fun b=>if (γ.hd q).ownBlock=some b then some (.row r n) else if x.v.ownBlock=some b∧b=k then some (.hd r) else γ.own b⟩
theorem zM0 {γ γ':Gam} {r n:Nat} (h:∀ i,i<n→γ'.rows r i=γ.rows r i):zAY γ' r n=zAY γ r n:=by
 unfold zAY
 exact List.map_congr_left fun i hi=>h i (List.mem_range.1 hi)
theorem zOJ (γ:Gam) (r n:Nat):zAY γ r (n+1)=zAY γ r n++[γ.rows r n]:=by simp [zAY,List.range_succ]
theorem zE2 (hG:LangOK C.P G) (h:Rel C γ s a w) {d:Option Tmp} {t:TypeId} {x y:Operand} {ty:TypeId} {pos:String} {af:Array Edge} {gd:Option (Nat×Bool)} {r q:Nat} {e2:TypeId} {sh:Sh} {xss:List (List sh.T)} {ys:List sh.T}
 {v0:Value} (hx:a.eval x=v0) (hown:w.ownsRow 0 (G.el t) 1 v0 xss.length (zAY γ r xss.length)) (hob:ownB C γ v0 (.hd r)) (hv0:∀ b,v0.ownBlock=some b→v0=γ.hd r) (hrows:∀ i xs,xss[i]?=some xs→zCb C γ w r e2 sh i xs)
 (hy:ev s y=.one (.lits q)) (hq:s.roots q=some (.flat e2 sh ys)) (ht:G.sh t=some (.sl (.sl sh))) (hf:sh.flat=true) (hd:C.nl≤r) (hdq:C.nl≤q) (hne:r≠q) (hn:xss.length≤1000000) :
 ∃ v w' γ',(execOp a.eval ⟨d,.call {callee:=.builtin .append,args:=#[x,y],argTypes:=#[t,t]},ty,pos,af,gd⟩).run C.P w=.ok (.value v) w' ∧
  Rel C γ' (((s.map (killR q)).map (killR r)).setRoot q none |>.setRoot r (some (.deep (G.el t) e2 sh (xss++[ys])))) a w'∧svRep C γ' w' (.one (.ref r)) v:=by
 obtain ⟨hu,he,hpos⟩:=hG.sl t _ ht
 obtain ⟨i0,z,hi0,hs0,hby,hz,hzc⟩:=hG.info _ _ he
 have hzs:z.cells.size=1:=by have:=congrArg List.length hzc; rw [zAv,Array.length_toList] at this; exact this
 obtain ⟨_,hownq,hobq⟩:=h.roots q _ hq
 have hy':=zAn h y
 rw [hy] at hy'
 obtain ⟨g,cap,hyv,hgz,hglt,hgc⟩:=hy'
 obtain ⟨X,w',hrun,hown',hX⟩:=zED (ty:=ty) hu hi0 hz hs0 hzs hown (some ⟨g,0,none⟩) 1 cap [γ.hd q] rfl (fun b hb j u hj=>by
  simp only [Option.some.injEq] at hb
  subst hb
  cases j with
  | zero=>simp only [List.getElem?_cons_zero,Option.some.injEq] at hj; subst hj; rw [Addr.add_lit]; exact hgc
  | succ j=>simp at hj) (fun _=>by simp) (fun u hu=>by simp at hu; subst hu; rfl) hby hn (by omega)
 let γ':=zGR γ r q xss.length X w.heap.size
 have hqlt:∀ b,(γ.hd q).ownBlock=some b→b<w.heap.size:=fun b hb=>h.ownlt b _ (hobq b hb).1
 have hsame:∀ b,b<w.heap.size→γ.own b≠some (.hd q)→γ'.own b=γ.own b:=fun b hb hn'=>by
  simp only [γ',zGR]
  rw [if_neg (fun e=>hn' (hobq b e).1),if_neg (fun e=>by omega)]
 have hhd:∀ p,p≠r→γ'.hd p=γ.hd p:=fun p hp=>by simp only [γ',zGR,Gam.hd,upd]; rw [if_neg hp]
 have hrow:∀ p i,¬(p=r∧i=xss.length)→γ'.rows p i=γ.rows p i:=fun p i hp=>by simp only [γ',zGR,Gam.rows]; rw [if_neg hp]
 have hrown:γ'.rows r xss.length=γ.hd q:=by simp [γ',zGR,Gam.rows,Gam.hd]
 have hblk:∀ b,b<w.heap.size→γ.own b≠some (.hd r)→w'.heap[b]?=w.heap[b]?:=by
  intro b hb hne'
  rcases hX with ⟨_,hg⟩|⟨_,_,hg⟩
  ·exact hg.block b hb (fun e=>hne' (hob b e.symm).1)
  ·exact hg.block b hb (by simp)
 have hos:w'.os=w.os∧w'.tape=w.tape∧w'.output=w.output∧w.heap.size≤w'.heap.size:=by
  rcases hX with ⟨_,hg⟩|⟨_,_,hg⟩<;>exact ⟨hg.os,hg.tape,hg.output,hg.size⟩
 have hXown:ownB C γ' X.v (.hd r):=by
  intro k hk
  rcases hX with ⟨h1,hg⟩|⟨h1,h2,hg⟩
  ·rw [h1] at hk
   have h3:=hob k hk
   refine ⟨?_,h3.2⟩
   rw [hsame k (h.ownlt k _ h3.1) (by rw [h3.1]; simpa using hne)]
   exact h3.1
  ·rw [h1] at hk
   simp only [Option.some.injEq] at hk
   subst hk
   refine ⟨?_,.inl h.keep.size⟩
   simp only [γ',zGR]
   rw [if_neg (fun e=>by have:=hqlt _ e; omega),if_pos ⟨h1,trivial⟩]
 have hT:∀ b l,γ.own b=some l→(∀ p,l.root=some p→¬(p=r∨p=q))→γ.own b≠some (.hd q)∧γ.own b≠some (.hd r):=by
  intro b l hb hl
  rw [hb]
  constructor
  ·intro e
   simp only [Option.some.injEq] at e
   subst e
   exact hl q rfl (.inr rfl)
  ·intro e
   simp only [Option.some.injEq] at e
   subst e
   exact hl r rfl (.inl rfl)
 have m:Move C γ w γ' w' (fun p=>p=r∨p=q):=by
  refine ⟨⟨hos.2.2.2,fun b hb hzb=>⟨⟨hzb.1,by rw [hsame b hb (by rw [hzb.2]; simp)]; exact hzb.2⟩,hblk b hb (by rw [hzb.2]; simp)⟩,fun b d hb ho=>⟨by rw [hsame b hb (by rw [ho]; simp)]; exact ho,hblk b hb (by rw [ho]; simp)⟩⟩,⟨hos.1.trans h.keep.os,hos.2.1.trans h.keep.tape,hos.2.2.1.trans h.keep.output,Nat.le_trans h.keep.size hos.2.2.2,fun k hk hL=>?_⟩,fun k l hk=>?_,fun p hp=>?_,fun p hp=>hhd p (fun e=>hp (.inl e)),fun p i hp=>hrow p i (fun e=>hp (.inl e.1)),fun _=>rfl,fun b l hb hl=>?_⟩
  ·rcases hX with ⟨_,hg⟩|⟨_,_,hg⟩
   ·rw [hg.block k (Nat.lt_of_lt_of_le hk h.keep.size) (fun e=>by
     rcases (hob k e.symm).2 with h1|h1
     ·omega
     ·exact hL h1)]
    exact h.keep.block k hk hL
   ·rw [hg.block k (Nat.lt_of_lt_of_le hk h.keep.size) (by simp)]
    exact h.keep.block k hk hL
  ·simp only [γ',zGR] at hk
   split at hk
   ·rename_i e
    exact Nat.lt_of_lt_of_le (hqlt k e) hos.2.2.2
   ·split at hk
    ·rename_i e
     rcases hX with ⟨h1,hg⟩|⟨h1,h2,hg⟩
     ·rw [h1] at e
      have:=h.ownlt k _ (hob k e.1).1
      omega
     ·omega
    ·exact Nat.lt_of_lt_of_le (h.ownlt k l hk) hos.2.2.2
  ·rw [hhd p (by omega)]
   exact (h.lent p hp).1
  ·obtain ⟨h1,h2⟩:=hT b l hb hl
   exact ⟨by rw [hsame b (h.ownlt b l hb) h1]; exact hb,hblk b (h.ownlt b l hb) h2⟩
 have hK:Forgets (fun b=>killR r (killR q b)) γ γ':=by
  intro b
  by_cases h1:killR r (killR q b)=.any
  ·exact .inl h1
  ·right
   have h2:killR q b≠.any:=fun e'=>by rw [e'] at h1; exact h1 rfl
   have h3:killR q b=b:=(zEM q b).resolve_left h2
   rw [h3] at h1
   refine ⟨by show killR r (killR q b)=b; rw [h3]; exact (zEM r b).resolve_left h1,zDP h1 hhd (fun p i hp=>hrow p i (fun e=>hp e.1)) (fun _=>rfl)⟩
 have rowOK:∀ {i:Nat} {xs:List sh.T},i<xss.length→zCb C γ w r e2 sh i xs→zCb C γ' w' r e2 sh i xs:=by
  intro i xs hi hr'
  unfold zCb at *
  rw [hrow r i (fun e=>by omega)]
  refine ⟨zDr hr'.1 (fun k hk=>hblk k (h.ownlt k _ (hr'.2 k hk).1) (by rw [(hr'.2 k hk).1]; simp)),fun k hk=>⟨?_,(hr'.2 k hk).2⟩⟩
  rw [hsame k (h.ownlt k _ (hr'.2 k hk).1) (by rw [(hr'.2 k hk).1]; simp)]
  exact (hr'.2 k hk).1
 have hhr:γ'.hd r=X.v:=by simp [γ',zGR,Gam.hd,upd]
 refine ⟨X.v,w',γ',zEH (by rw [hx,hyv]; exact hrun),?_,by simp only [svRep,bvRep]; rw [hhr]⟩
 rw [AS.map_map]
 refine m.rel h hK (fun p rc' hp=>?_)
 simp only [AS.map,AS.setRoot,upd] at hp
 split at hp
 ·rename_i e
  subst e
  simp only [Option.some.injEq] at hp
  subst hp
  right
  refine ⟨hf,?_,?_,fun i xs hi=>?_⟩
  ·rw [hhr,List.length_append,List.length_singleton,zOJ,hrown,zM0 (fun i hi=>hrow p i (fun e=>by omega))]
   exact hown'
  ·rw [hhr]; exact hXown
  ·rcases Nat.lt_or_ge i xss.length with hlt|hge
   ·rw [List.getElem?_append_left hlt] at hi
    exact rowOK hlt (hrows i xs hi)
   ·rw [List.getElem?_append_right hge] at hi
    have:i=xss.length:=by
     have:=(List.getElem?_eq_some_iff.1 hi).1
     simp at this; omega
    subst this
    simp only [Nat.sub_self,List.getElem?_cons_zero,Option.some.injEq] at hi
    subst hi
    unfold zCb
    rw [hrown]
    refine ⟨zDr hownq (fun k hk=>hblk k (hqlt k hk) (by rw [(hobq k hk).1]; simpa using Ne.symm hne)),fun k hk=>⟨?_,(hobq k hk).2⟩⟩
    simp only [γ',zGR]
    rw [if_pos hk]
 ·rename_i e
  split at hp
  ·cases hp
  ·rename_i e3
   exact .inl ⟨fun e'=>e'.elim e e3,hp⟩
end
end Go.VS
namespace Go.VS
open Go.RowKit
section
variable {C:Ctx} {G:Lang} {γ γ':Gam} {s:AS} {a:Act} {w w':World}
def zGj (γ:Gam) (r i d:Nat) (x:Sl) (k:Nat):Gam :=
 ⟨upd γ.hs d x,γ.rs,γ.bx,fun b=>if (γ.rows r i).ownBlock=some b then some (.hd d) else if x.v.ownBlock=some b∧b=k then some (.hd d) else γ.own b⟩
theorem zLK (hG:LangOK C.P G) (h:Rel C γ s a w) {dd:Option Tmp} {d:Nat} {t:TypeId} {x y:Operand} {ty:TypeId} {pos:String} {af:Array Edge} {gd:Option (Nat×Bool)} {r i:Nat} {e:TypeId} {sh:Sh} {xss:List (List sh.T)} {ys:List sh.T}
 (hx:ev s x=.one (.refi r i)) (hr:s.roots r=some (.deep e (G.el t) sh xss)) (hy:lens G s t (ev s y)=some ⟨sh,ys⟩) (ht:G.sh t=some (.sl sh)) (hi:i<xss.length) (hd:C.nl≤d) (hne:r≠d)
 (hn:(xss.getD i []).length≤1000000) (hm:ys.length≤1000000) :
 ∃ v w' γ',(execOp a.eval ⟨dd,.call {callee:=.builtin .append,args:=#[x,y],argTypes:=#[t,t]},ty,pos,af,gd⟩).run C.P w=.ok (.value v) w' ∧
  Rel C γ' ((((s.map (killR d)).map (zBG r)).setRoot r (some (.hole e (G.el t) sh xss i))).setRoot d (some (.flat (G.el t) sh (xss.getD i []++ys)))) a w'∧svRep C γ' w' (.one (.ref d)) v:=by
 have hx':=zAn h x
 rw [hx] at hx'
 simp only [svRep,bvRep] at hx'
 obtain ⟨hu,he,hpos⟩:=hG.sl t sh ht
 obtain ⟨i0,z,hi0,hs0,hby,hz,hzc⟩:=hG.info _ sh he
 have hzs:z.cells.size=sh.size:=by have:=congrArg List.length hzc; rw [zAv] at this; simpa using this
 obtain ⟨hf,htop,hobt,hrows⟩:=h.roots r _ hr
 have hgi:xss.getD i []=xss[i]:=by simp [List.getD_eq_getElem?_getD,hi]
 rw [hgi] at hn ⊢
 obtain ⟨hown,hob⟩:=hrows i xss[i] (by simp [hi])
 obtain ⟨ad,c,hv,hsome,hcells⟩:=zOS hG h hy hf hpos.1 (zAn h y)
 obtain ⟨X,w',hrun,hown',hX⟩:=zED (ty:=ty) hu hi0 hz hs0 hzs hown ad ys.length c (ys.flatMap sh.cells) (zBT sh.cells sh.size (zAv sh) ys) hcells hsome (zGg ys) hby hn hm
 let γ':=zGj γ r i d X w.heap.size
 have hlt:∀ b,(γ.rows r i).ownBlock=some b→b<w.heap.size:=fun b hb=>h.ownlt b _ (hob b hb).1
 have hsame:∀ b,b<w.heap.size→γ.own b≠some (.row r i)→γ'.own b=γ.own b:=fun b hb hn'=>by
  simp only [γ',zGj]
  rw [if_neg (fun e=>hn' (hob b e).1),if_neg (fun e=>by omega)]
 have hhd:∀ p,p≠d→γ'.hd p=γ.hd p:=fun p hp=>by simp only [γ',zGj,Gam.hd,upd]; rw [if_neg hp]
 have hrow:∀ p k,γ'.rows p k=γ.rows p k:=fun _ _=>rfl
 have hhr:γ'.hd d=X.v:=by simp [γ',zGj,Gam.hd,upd]
 have hblk:∀ b,b<w.heap.size→γ.own b≠some (.row r i)→w'.heap[b]?=w.heap[b]?:=by
  intro b hb hne'
  rcases hX with ⟨_,hg⟩|⟨_,_,hg⟩
  ·exact hg.block b hb (fun e=>hne' (hob b e.symm).1)
  ·exact hg.block b hb (by simp)
 have hos:w'.os=w.os∧w'.tape=w.tape∧w'.output=w.output∧w.heap.size≤w'.heap.size:=by
  rcases hX with ⟨_,hg⟩|⟨_,_,hg⟩<;>exact ⟨hg.os,hg.tape,hg.output,hg.size⟩
 have hXown:ownB C γ' X.v (.hd d):=by
  intro k hk
  rcases hX with ⟨h1,hg⟩|⟨h1,h2,hg⟩
  ·rw [h1] at hk
   refine ⟨?_,(hob k hk).2⟩
   simp only [γ',zGj]
   rw [if_pos hk]
  ·rw [h1] at hk
   simp only [Option.some.injEq] at hk
   subst hk
   refine ⟨?_,.inl h.keep.size⟩
   simp only [γ',zGj]
   rw [if_neg (fun e=>by have:=hlt _ e; omega),if_pos ⟨h1,trivial⟩]
 have m:Move C γ w γ' w' (fun p=>p=r∨p=d):=by
  refine ⟨⟨hos.2.2.2,fun b hb hzb=>⟨⟨hzb.1,by rw [hsame b hb (by rw [hzb.2]; simp)]; exact hzb.2⟩,hblk b hb (by rw [hzb.2]; simp)⟩,fun b d hb ho=>⟨by rw [hsame b hb (by rw [ho]; simp)]; exact ho,hblk b hb (by rw [ho]; simp)⟩⟩,⟨hos.1.trans h.keep.os,hos.2.1.trans h.keep.tape,hos.2.2.1.trans h.keep.output,Nat.le_trans h.keep.size hos.2.2.2,fun k hk hL=>?_⟩,fun k l hk=>?_,fun p hp=>?_,fun p hp=>hhd p (fun e=>hp (.inr e)),fun p k hp=>rfl,fun _=>rfl,fun b l hb hl=>?_⟩
  ·rcases hX with ⟨_,hg⟩|⟨_,_,hg⟩
   ·rw [hg.block k (Nat.lt_of_lt_of_le hk h.keep.size) (fun e=>by
     rcases (hob k e.symm).2 with h1|h1
     ·omega
     ·exact hL h1)]
    exact h.keep.block k hk hL
   ·rw [hg.block k (Nat.lt_of_lt_of_le hk h.keep.size) (by simp)]
    exact h.keep.block k hk hL
  ·simp only [γ',zGj] at hk
   split at hk
   ·rename_i e
    exact Nat.lt_of_lt_of_le (hlt k e) hos.2.2.2
   ·split at hk
    ·rename_i e1 e
     rcases hX with ⟨h1,hg⟩|⟨h1,h2,hg⟩
     ·rw [h1] at e
      exact absurd e.1 e1
     ·omega
    ·exact Nat.lt_of_lt_of_le (h.ownlt k l hk) hos.2.2.2
  ·rw [hhd p (by omega)]
   exact (h.lent p hp).1
  ·have h1:γ.own b≠some (.row r i):=by
    rw [hb]
    intro e
    simp only [Option.some.injEq] at e
    subst e
    exact hl r rfl (.inl rfl)
   exact ⟨by rw [hsame b (h.ownlt b l hb) h1]; exact hb,hblk b (h.ownlt b l hb) h1⟩
 have hK:Forgets (fun b=>zBG r (killR d b)) γ γ':=by
  intro b
  by_cases h1:zBG r (killR d b)=.any
  ·exact .inl h1
  ·right
   have h2:killR d b≠.any:=fun e'=>by rw [e'] at h1; exact h1 rfl
   have h3:killR d b=b:=(zEM d b).resolve_left h2
   rw [h3] at h1
   refine ⟨by show zBG r (killR d b)=b; rw [h3]; exact (zHd r b).resolve_left h1,zDP h2 hhd (fun p i _=>hrow p i) (fun _=>rfl)⟩
 refine ⟨X.v,w',γ',zEH (by rw [hx',hv]; exact hrun),?_,by simp only [svRep,bvRep]; rw [hhr]⟩
 rw [AS.map_map]
 refine m.rel h hK (fun p rc' hp=>?_)
 simp only [AS.map,AS.setRoot,upd] at hp
 split at hp
 ·rename_i e'
  subst e'
  simp only [Option.some.injEq] at hp
  subst hp
  right
  refine ⟨hf,?_,by rw [hhr]; exact hXown⟩
  rw [hhr,List.length_append,List.flatMap_append]
  exact hown'
 ·rename_i e3
  split at hp
  ·rename_i e4
   subst e4
   simp only [Option.some.injEq] at hp
   subst hp
   right
   have hkeepOwn:∀ b l,l≠.row p i→γ.own b=some l→γ'.own b=some l∧w'.heap[b]?=w.heap[b]?:=by
    intro b l hl hb
    have h1:γ.own b≠some (.row p i):=by rw [hb]; simpa using hl
    exact ⟨by rw [hsame b (h.ownlt b l hb) h1]; exact hb,hblk b (h.ownlt b l hb) h1⟩
   refine ⟨hf,?_,?_,fun k xs hk hxs=>?_⟩
   ·rw [hhd p e3]
    exact zDr htop (fun b hb=>(hkeepOwn b _ (by simp) (hobt b hb).1).2)
   ·rw [hhd p e3]
    exact fun b hb=>⟨(hkeepOwn b _ (by simp) (hobt b hb).1).1,(hobt b hb).2⟩
   ·have h4:=hrows k xs hxs
    unfold zCb at *
    rw [hrow]
    exact ⟨zDr h4.1 (fun b hb=>(hkeepOwn b _ (by simp; omega) (h4.2 b hb).1).2),fun b hb=>⟨(hkeepOwn b _ (by simp; omega) (h4.2 b hb).1).1,(h4.2 b hb).2⟩⟩
  ·rename_i e4
   exact .inl ⟨fun e'=>e'.elim e4 e3,hp⟩
theorem zO4 (hG:LangOK C.P G) (h:Rel C γ s a w) {d n:Nat} {t ty:TypeId} {parts:Array (Nat×Operand)} {pos:String} {af:Array Edge} {gd:Option (Nat×Bool)} {sh:Sh} {xs:List sh.T} (ht:G.sh t=some (.sl sh))
 (hxs:zDi sh (parts.toList.map fun p=>ev s p.2)=some xs) (hidx:parts.toList.map (·.1)=List.range n) (hn:n≤1000) (hf:sh.flat=true) (hd:C.nl≤d) :
 ∃ v w' γ',(execOp a.eval ⟨some d,.buildSlice t n parts,ty,pos,af,gd⟩).run C.P w=.ok (.value v) w'∧Rel C γ' ((s.map (killR d)).setRoot d (some (.flat (G.el t) sh xs))) a w'∧svRep C γ' w' (.one (.ref d)) v:=by
 obtain ⟨hl,hget⟩:=zF9 (C:=C) (γ:=γ) (w:=w) _ (parts.toList.map fun p=>a.eval p.2) xs hxs (by simp) (fun i sv v h1 h2=>by
  rw [List.getElem?_map,Option.map_eq_some_iff] at h1 h2
  obtain ⟨o,h3,rfl⟩:=h1
  obtain ⟨o',h4,rfl⟩:=h2
  rw [h3] at h4
  obtain rfl:o=o':=by simpa using h4
  exact zAn h o.2)
 have hnl:n=xs.length:=by
  rw [hl,List.length_map]
  have:=congrArg List.length hidx
  simpa using this.symm
 have hsz:∀ v∈(parts.toList.map fun p=>a.eval p.2),v.cells.toList.length=sh.size:=by
  intro v hv
  obtain ⟨i,hi,hvi⟩:=List.getElem_of_mem hv
  obtain ⟨u,h1,c,hp,h2⟩:=hget i (by rw [hl]; exact hi)
  rw [List.getElem?_eq_getElem hi,hvi] at h1
  obtain rfl:v=u:=by simpa using h1
  rw [h2]; exact zMJ hp
 have hr:=zEc (a:=a) (w:=w) hG ht hidx hn rfl hsz
 have hcells:(parts.toList.map fun p=>a.eval p.2).flatMap (fun v=>v.cells.toList)=xs.flatMap sh.cells:=by
  generalize (parts.toList.map fun p=>a.eval p.2)=vs at hl hget
  clear hr hsz hnl hxs
  induction vs generalizing xs with
  | nil =>
   have:xs=[]:=by simpa using hl
   subst this
   rfl
  | cons v vs ih =>
   cases xs with
   | nil=>simp at hl
   | cons x xs =>
    obtain ⟨u,h1,c,hp,h2⟩:=hget 0 (by simp)
    simp only [List.getElem?_cons_zero,Option.some.injEq] at h1
    subst h1
    have hc:=(zBt sh _ c hf).1 hp
    have e1:v.cells.toList=sh.cells x:=by rw [h2,zA7 sh _ c hp,hc]; rfl
    rw [List.flatMap_cons,List.flatMap_cons,e1,ih (by simpa using hl) (fun i hi=>by
     have:=hget (i+1) (by simpa using hi)
     simpa using this)]
 let x:Sl:=⟨some ⟨w.heap.size,0,none⟩,n,n⟩
 have hx:∀ b,x.v.ownBlock=some b→b=w.heap.size:=fun b hb=>by
  simp only [x,Sl.v,Value.ownBlock,Option.some.injEq] at hb
  exact hb.symm
 have hg:w.grownBy (w.alloc (.cells ((parts.toList.map fun p=>a.eval p.2).flatMap fun v=>v.cells.toList).toArray (G.el t))) none:=⟨rfl,rfl,rfl,by simp,fun k hk _=>Below.heap_alloc w _ k hk⟩
 refine ⟨x.v,_,zCa γ d x (γ.rs d) w.heap.size,run_v hr,zHm h hd x (γ.rs d) hg (fun b hb=>⟨hx b hb,by rw [hx b hb]; simp⟩) ⟨hf,?_,?_⟩,by simp only [svRep,bvRep]; rw [zA4]⟩
 ·rw [zA4,←hnl]
  have hlen:(xs.flatMap sh.cells).length=n*sh.size:=by rw [zBT sh.cells sh.size (zAv sh),hnl]
  refine ⟨hlen,.inr ⟨w.heap.size,n,_,rfl,Nat.zero_le _,heap_alloc_new w _,Nat.le_refl _,by unfold maxLen; omega,?_,?_⟩⟩
  ·rw [hcells]; simpa using hlen
  ·rw [hcells,←hlen]; exact List.take_length
 ·rw [zA4]
  exact zDD h hx
theorem Rel.boxed {b:Nat} {sv:SV} (h:Rel C γ s a w) (hw:Write C γ w w' (γ.bx b) (.bx b)) (hb:bxRep C γ w' b sv):Rel C γ (s.setBox b sv) a w':=by
 refine ⟨h.defers,hw.keep h.keep,fun k l hl=>Nat.lt_of_lt_of_le (h.ownlt k l hl) hw.grown.size,h.lent,fun i=>zEy hw.sub (fun _ _=>Agree.refl γ _) (h.env i),fun q rc hq=>hw.root (h.roots q rc hq) (by simp) (fun _=>by simp),fun q sv' hq=>?_⟩
 simp only [AS.setBox,upd] at hq
 split at hq
 ·rename_i e
  subst e
  simp only [Option.some.injEq] at hq
  subst hq
  exact hb
 ·rename_i e
  exact hw.box h.ownlt (h.boxes q sv' hq) (by simp; exact fun e'=>e e'.symm)
theorem zHU {g:Nat} {cur:Array Value} (w:World):w.grownBy (w.setRow g cur) (some g) :=
 ⟨rfl,rfl,rfl,by simp,fun k _ hk=>setRow_other w g k _ (fun e=>hk (by simp [e]))⟩
theorem zM8 {sv:SV} {cs:List Value} (hs:sized sv=true) (h:zBb C γ w sv cs):cs.length=zG0 sv:=by
 cases sv with
 | one b =>
  obtain ⟨v,hv,rfl⟩:=h
  cases b with
  | val sh x =>
   obtain ⟨c,hp,rfl⟩:=hv
   rw [zA7 sh x c hp,zB5 sh x c hp]
   rfl
  | any=>simp [sized,BV.single] at hs
  | skip=>simp [sized,BV.single] at hs
  | fnv as_ r q p=>simp [sized,BV.single] at hs
  | bnd f s x=>simp [sized,BV.single] at hs
  | raw u =>
   rw [zBR (b:=.raw _) hs hv]
   rfl
  | _ =>
   rw [zBR (by rfl) hv]
   rfl
 | tup bs=>exact h.elim
 | rcd bs=>exact zA0 bs cs h
theorem zLU {sv:SV} {v:Value} (h:svRep C γ w sv v) (hs:sized sv=true):zBb C γ w sv v.cells.toList∧(∀ u∈v.cells.toList,u.oneCell'=true)∧v.cells.toList.length=zG0 sv:=by
 have key:zBb C γ w sv v.cells.toList→v.cells.toList.length=zG0 sv:=fun hb=>zM8 hs hb
 cases sv with
 | one b =>
  have hb:zBb C γ w (.one b) v.cells.toList:=⟨v,h,rfl⟩
  have hv:bvRep C γ w b v:=h
  refine ⟨hb,?_,key hb⟩
  cases b with
  | val sh x =>
   obtain ⟨c,hp,rfl⟩:=h
   rw [zA7 sh x c hp]
   exact zFR sh x c hp
  | any=>simp [sized,BV.single] at hs
  | skip=>simp [sized,BV.single] at hs
  | fnv as_ r q p=>simp [sized,BV.single] at hs
  | bnd f s x=>simp [sized,BV.single] at hs
  | raw q =>
   rw [zBR (b:=.raw _) hs hv]
   intro u hu
   simp only [List.mem_singleton] at hu
   subst hu
   exact zEu (b:=.raw _) hs hv
  | _ =>
   rw [zBR (by rfl) hv]
   intro u hu
   simp only [List.mem_singleton] at hu
   subst hu
   exact zEu (by rfl) hv
 | tup bs=>simp [sized] at hs
 | rcd bs =>
  obtain ⟨vs,rfl,h1,h2⟩:=h
  have hb:zBb C γ w (.rcd bs) (Value.agg vs.toArray).cells.toList:=by simpa [Value.cells,zBb] using h1
  exact ⟨hb,by simpa [Value.cells] using h2,key hb⟩
theorem zTc (hG:LangOK C.P G) {t:TypeId} {sv:SV} (h:fitsT G t sv):∃ i,C.P.info? t=some i∧i.size=zG0 sv:=by
 cases sv with
 | one b =>
  have plain:G.plain t=true→∃ i,C.P.info? t=some i∧i.size=1:=fun hp=>by
   obtain ⟨d,i,_,_,h1,h2⟩:=hG.plain t hp
   exact ⟨i,h1,h2⟩
  cases b with
  | val sh x =>
   obtain ⟨i,z,hi,hs,_⟩:=hG.info t sh h
   exact ⟨i,hi,hs⟩
  | _=>exact plain h.2
 | tup bs=>exact h.elim
 | rcd bs =>
  obtain ⟨fs,i,z,_,hi,hs,_⟩:=hG.ones t _ h
  exact ⟨i,hi,hs⟩
theorem zQM {t:TypeId} {sv:SV} (h:fitsT G t sv):sized sv=true:=by
 cases sv with
 | one b =>
  cases b with
  | val sh x=>rfl
  | _=>exact h.1
 | tup bs=>exact h.elim
 | rcd bs=>rfl
theorem zET {t:TypeId} {i:TypeInfo} (hi:C.P.info? t=some i) {g o:Nat} {v:Value} {cur:Array Value} {tt:TypeId} (hg:w.heap[g]?=some (.cells cur tt (0,0)))
 (hs:v.cells.size=i.size) (hl:o+v.cells.toList.length≤cur.size) (h1:∀ u∈v.cells.toList,u.oneCell'=true) :
 ∃ W,(Instr.storeAt t (.pointer (some ⟨g,o,none⟩)) v).run C.P w=.ok () W∧w.grownBy W (some g)∧W.heap[g]?=some (.cells (cur.toList.take o++v.cells.toList++cur.toList.drop (o+v.cells.toList.length)).toArray tt (0,0)) :=
 ⟨_,zDU hi hg hs hl h1,zHU w,setRow_heap w g cur _ tt _ hg⟩
theorem zO8 (hG:LangOK C.P G) (h:Rel C γ s a w) {d:Option Tmp} {t:TypeId} {x y:Operand} {ty:TypeId} {pos:String} {af:Array Edge} {gd:Option (Nat×Bool)} {b:Nat} {old:SV}
 (hx:ev s x=.one (.box b)) (ho:s.boxes b=some old) (hsz:zG0 old=zG0 (ev s y)) (hs:sized old=true) (hf:fitsT G t (ev s y)) :
 ∃ w',(execOp a.eval ⟨d,.store t x y,ty,pos,af,gd⟩).run C.P w=.ok .skip w'∧Rel C γ (s.setBox b (ev s y)) a w':=by
 have hx':=zAn h x
 rw [hx] at hx'
 simp only [svRep,bvRep] at hx'
 obtain ⟨cs,tt,h1,h2,h3,h4,h5⟩:=h.boxes b _ ho
 obtain ⟨i,hi,his⟩:=zTc hG hf
 obtain ⟨k1,k2,k3⟩:=zLU (zAn h y) (zQM hf)
 have hcl:=zM8 hs h2
 obtain ⟨W,hst,hgr,hcur⟩:=zET (C:=C) (w:=w) hi (v:=a.eval y) (o:=0) h1 (by rw [his,←k3,Array.length_toList]) (by rw [k3,←hsz,←hcl]; simp) k2
 refine ⟨_,zCt (by rw [hx']; exact hst),?_⟩
 have hw:Write C γ w W (γ.bx b) (.bx b):=⟨h4,h5,hgr,fun _=>by simp⟩
 refine h.boxed hw ⟨_,tt,hcur,?_,?_,h4,h5⟩
 ·have:(cs.toList.take 0++(a.eval y).cells.toList++cs.toList.drop (0+(a.eval y).cells.toList.length)).toArray.toList=(a.eval y).cells.toList:=by
   have hd:cs.toList.drop (0+(a.eval y).cells.toList.length)=[]:=List.drop_of_length_le (by rw [k3,←hsz,←hcl]; omega)
   rw [hd]; simp
  rw [this]
  exact zDo hw.sub (fun _ _=>Agree.refl γ _) k1
 ·have hd:cs.toList.drop (0+(a.eval y).cells.toList.length)=[]:=List.drop_of_length_le (by rw [k3,←hsz,←hcl]; omega)
  rw [hd]
  simpa using k2
theorem zNr (hG:LangOK C.P G) (h:Rel C γ s a w) {d:Option Tmp} {t:TypeId} {x y:Operand} {ty:TypeId} {pos:String} {af:Array Edge} {gd:Option (Nat×Bool)} {b n f off:Nat} {bs:List BV} {v:BV}
 (hx:ev s x=.one (.boxf b n f off)) (ho:s.boxes b=some (.rcd bs)) (hy:ev s y=.one v) (hoff:off<bs.length) (hv:v.single=true) (ht:G.plain t=true) :
 ∃ w',(execOp a.eval ⟨d,.store t x y,ty,pos,af,gd⟩).run C.P w=.ok .skip w'∧Rel C γ (s.setBox b (.rcd (bs.set off v))) a w':=by
 have hx':=zAn h x
 rw [hx] at hx'
 simp only [svRep,bvRep] at hx'
 have hy':=zAn h y
 rw [hy] at hy'
 obtain ⟨cs,tt,h1,h2,h3,h4,h5⟩:=h.boxes b _ ho
 obtain ⟨_,i,_,_,hi,his⟩:=hG.plain t ht
 have k1:=zBR hv hy'
 have k2:=zEu hv hy'
 have hcl:=zA0 bs cs.toList h2
 obtain ⟨W,hst,hgr,hcur⟩:=zET (C:=C) (w:=w) hi (v:=a.eval y) (o:=off) h1 (by rw [his,←Array.length_toList,k1]; rfl) (by rw [k1]; simp at hcl ⊢; omega) (by rw [k1]; intro u hu; simp at hu; subst hu; exact k2)
 refine ⟨_,zCt (by rw [hx']; exact hst),?_⟩
 have hw:Write C γ w W (γ.bx b) (.bx b):=⟨h4,h5,hgr,fun _=>by simp⟩
 have hset:cs.toList.take off++[a.eval y]++cs.toList.drop (off+1)=cs.toList.set off (a.eval y):=by
  rw [List.set_eq_take_append_cons_drop,if_pos (by omega)]
  simp
 rw [k1] at hcur
 refine h.boxed hw ⟨_,tt,hcur,?_,?_,h4,h5⟩
 ·show zAp C γ _ (bs.set off v) (cs.toList.take off++[a.eval y]++cs.toList.drop (off+1))
  rw [hset]
  exact zCR bs _ off v _ (zAF hw.sub bs _ (fun _ _=>Agree.refl γ _) h2) (zCd hw.sub (Agree.refl γ _) hy')
 ·intro u hu
  have hu':u∈cs.toList.set off (a.eval y):=by rw [←hset]; simpa using hu
  rcases List.mem_or_eq_of_mem_set hu' with h6|h6
  ·exact h3 u h6
  ·rw [h6]; exact k2
theorem zNq (hG:LangOK C.P G) (h:Rel C γ s a w) {d:Option Tmp} {t:TypeId} {x y:Operand} {ty:TypeId} {pos:String} {af:Array Edge} {gd:Option (Nat×Bool)} {b n f off:Nat} {bs:List BV} {p q:Sh} {v:(Sh.prod p q).T}
 (hx:ev s x=.one (.boxf b n f off)) (ho:s.boxes b=some (.rcd bs)) (hy:ev s y=.one (.val (.prod p q) v)) (hoff:off+(p.size+q.size)≤bs.length) (ht:G.sh t=some (.prod p q)) :
 ∃ w',(execOp a.eval ⟨d,.store t x y,ty,pos,af,gd⟩).run C.P w=.ok .skip w'∧Rel C γ (s.setBox b (.rcd (bs.take off++zE8 (.prod p q) v++bs.drop (off+(p.size+q.size))))) a w':=by
 have hx':=zAn h x
 rw [hx] at hx'
 simp only [svRep,bvRep] at hx'
 have hy':=zAn h y
 rw [hy] at hy'
 obtain ⟨cs,tt,h1,h2,h3,h4,h5⟩:=h.boxes b _ ho
 obtain ⟨i,z,hi,his,_⟩:=hG.info t _ ht
 obtain ⟨c,hp,hv⟩:=hy'
 have k1:(a.eval y).cells.toList=c:=by rw [hv]; exact zA7 _ _ c hp
 have k2:=zFR _ _ c hp
 have k3:c.length=p.size+q.size:=zB5 _ _ c hp
 have hcl:=zA0 bs cs.toList h2
 obtain ⟨W,hst,hgr,hcur⟩:=zET (C:=C) (w:=w) hi (v:=a.eval y) (o:=off) h1 (by rw [his,←Array.length_toList,k1,k3]; rfl) (by rw [k1,k3]; simp at hcl ⊢; omega) (by rw [k1]; exact k2)
 refine ⟨_,zCt (by rw [hx']; exact hst),?_⟩
 have hw:Write C γ w W (γ.bx b) (.bx b):=⟨h4,h5,hgr,fun _=>by simp⟩
 rw [k1,k3] at hcur
 have hs:=zAF hw.sub bs _ (fun _ _=>Agree.refl γ _) h2
 have hc:zAp C γ W (zE8 (.prod p q) v) c:=zAF hw.sub _ _ (fun _ _=>Agree.refl γ _) (zEG (.prod p q) v c hp)
 refine h.boxed hw ⟨_,tt,hcur,?_,?_,h4,h5⟩
 ·show zAp C γ _ _ (cs.toList.take off++c++cs.toList.drop (off+(p.size+q.size)))
  exact zBS _ _ _ _ (zBS _ _ _ _ (zEF off bs _ hs) hc) (zEE _ bs _ hs)
 ·intro u hu
  have hu':u∈cs.toList.take off++c++cs.toList.drop (off+(p.size+q.size)):=by simpa using hu
  rcases List.mem_append.1 hu' with h6|h6
  ·rcases List.mem_append.1 h6 with h7|h7
   ·exact h3 u (List.mem_of_mem_take h7)
   ·exact k2 u h7
  ·exact h3 u (List.mem_of_mem_drop h6)
def zAK (γ:Gam) (d k:Nat):Gam:=⟨γ.hs,γ.rs,upd γ.bx d k,fun b=>if b=k then some (.bx d) else γ.own b⟩
theorem zOE (h:Rel C γ s a w) (d:Nat) (hnd:C.nl≤d) (cs:Array Value) (t:TypeId) {sv:SV} (hsv:zBb C (zAK γ d w.heap.size) (w.alloc (.cells cs t)) sv cs.toList) (h1:∀ u∈cs.toList,u.oneCell'=true) :
 Rel C (zAK γ d w.heap.size) ((s.map (killB d)).setBox d sv) a (w.alloc (.cells cs t)):=by
 have hsame:∀ b,b<w.heap.size→(zAK γ d w.heap.size).own b=γ.own b:=fun b hb=>by
  simp only [zAK]
  rw [if_neg (by omega)]
 have hsz:w.heap.size<(w.alloc (.cells cs t)).heap.size:=by simp
 have hblk:∀ b,b<w.heap.size→(w.alloc (.cells cs t)).heap[b]?=w.heap[b]?:=fun b hb=>Below.heap_alloc w _ b hb
 have hkeep:∀ b l,γ.own b=some l→(zAK γ d w.heap.size).own b=some l∧(w.alloc (.cells cs t)).heap[b]?=w.heap[b]?:=fun b l hb=>⟨by rw [hsame b (h.ownlt b l hb)]; exact hb,hblk b (h.ownlt b l hb)⟩
 have hsub:Sub C γ w (zAK γ d w.heap.size) (w.alloc (.cells cs t)):=⟨by omega,fun b hb hz=>⟨⟨hz.1,by rw [hsame b hb]; exact hz.2⟩,hblk b hb⟩,fun b d hb ho=>⟨by rw [hsame b hb]; exact ho,hblk b hb⟩⟩
 have hK:Forgets (killB d) γ (zAK γ d w.heap.size):=by
  intro b
  by_cases h1:killB d b=.any
  ·exact .inl h1
  ·exact .inr ⟨(zLc d b).resolve_left h1,zGk h1 (fun _=>rfl) (fun _ _=>rfl) (fun y hy=>by simp only [zAK,upd]; rw [if_neg hy])⟩
 have m:Move C γ w ⟨γ.hs,γ.rs,γ.bx,(zAK γ d w.heap.size).own⟩ (w.alloc (.cells cs t)) (fun _=>False) :=
  ⟨⟨by omega,hsub.zn,hsub.made⟩,h.keep.step (M:=fun _=>False) ⟨rfl,rfl,rfl,by omega,fun b hb _=>hblk b hb⟩ (fun _ hf=>hf.elim),fun k l hk=>by
    simp only [zAK] at hk
    split at hk
    ·rename_i e; omega
    ·exact Nat.lt_trans (h.ownlt k l hk) hsz,fun r hr=>(h.lent r hr).1,fun _ _=>rfl,fun _ _ _=>rfl,fun _=>rfl,fun b l hb _=>hkeep b l hb⟩
 refine ⟨h.defers,m.keep,m.ownlt,fun r hr=>⟨(h.lent r hr).1,by simp only [zAK,upd]; rw [if_neg (by omega)]; exact (h.lent r hr).2⟩,fun i=>zGZ hsub hK (h.env i),fun p rc hp=>?_,fun b sv' hb=>?_⟩
 ·have h2:=m.root (fun hf=>hf) (h.roots p rc hp)
  cases rc with
  | rags e sh xss =>
   obtain ⟨vs,k1,k2,k3⟩:=h2
   exact ⟨vs,k1,k2,zAF (γ:=⟨γ.hs,γ.rs,γ.bx,(zAK γ d w.heap.size).own⟩) (γ':=zAK γ d w.heap.size) ⟨Nat.le_refl _,fun b _ hz=>⟨hz,rfl⟩,fun b d _ ho=>⟨ho,rfl⟩⟩ _ _ (fun b hb=>by obtain ⟨y,_,rfl⟩:=List.mem_map.1 hb; trivial) k3⟩
  | _=>exact h2
 ·simp only [AS.setBox,upd] at hb
  split at hb
  ·rename_i e
   subst e
   simp only [Option.some.injEq] at hb
   subst hb
   have hbx:(zAK γ b w.heap.size).bx b=w.heap.size:=by simp [zAK,upd]
   refine ⟨cs,t,?_,hsv,h1,?_,?_⟩
   ·rw [hbx]; exact heap_alloc_new w _
   ·rw [hbx]; simp [zAK]
   ·rw [hbx]; exact .inl h.keep.size
  ·rename_i e
   obtain ⟨sv0,h2,rfl⟩:=zGt hb
   obtain ⟨cs',t',d1,d2,d3,d4,d5⟩:=h.boxes b sv0 h2
   have hbx:(zAK γ d w.heap.size).bx b=γ.bx b:=by simp only [zAK,upd]; rw [if_neg e]
   refine ⟨cs',t',?_,zC8 hsub hK d2,d3,?_,?_⟩<;>rw [hbx]
   ·rw [(hkeep _ _ d4).2]; exact d1
   ·exact (hkeep _ _ d4).1
   ·exact d5
theorem zY0 (hG:LangOK C.P G) (h:Rel C γ s a w) {d:Nat} {dd:Option Tmp} {t ty:TypeId} {pos:String} {af:Array Edge} {gd:Option (Nat×Bool)} {sh:Sh} (hnd:C.nl≤d) (ht:G.sh t=some sh) :
 ∃ v w' γ',(execOp a.eval ⟨dd,.alloc t,ty,pos,af,gd⟩).run C.P w=.ok (.value v) w' ∧
  Rel C γ' ((s.map (killB d)).setBox d (if sh.agg then .rcd (zeroCells sh) else .one ((zeroCells sh).headD .any))) a w'∧svRep C γ' w' (.one (.box d)) v:=by
 obtain ⟨i,z,hi,hs,_,hz,hzc⟩:=hG.info t sh ht
 refine ⟨_,_,_,run_v (v:=.pointer (some ⟨w.heap.size,0,none⟩)) (w':=w.alloc (.cells z.cells t)) ?_,zOE h d hnd z.cells t ?_ (by rw [hzc]; exact zCC sh sh.zero),by simp [svRep,bvRep,zAK,upd]⟩
 ·simp only [Instr.alloc,Sem.run_bind,zeroValue,typeInfo]
  simp [hi,hz,newVar,newRow,newObj,Sem.run]
 ·rw [hzc]
  have hz0:=zIi (C:=C) (γ:=zAK γ d w.heap.size) (w:=w.alloc (.cells z.cells t)) sh
  cases hagg:sh.agg with
  | true=>exact hz0
  | false =>
   have hl:(sh.cells sh.zero).length=1:=by rw [zAv,zFX hagg]
   obtain ⟨u,hu⟩:=List.length_eq_one_iff.1 hl
   rw [hu] at hz0 ⊢
   have hone:=zCC sh sh.zero u (by rw [hu]; simp)
   cases hzl:zeroCells sh with
   | nil=>rw [hzl] at hz0; simp [zAp] at hz0
   | cons b bs =>
    rw [hzl] at hz0
    obtain ⟨v,vs,e1,e2,e3⟩:=hz0
    simp only [List.cons.injEq] at e1
    obtain ⟨rfl,rfl⟩:=e1
    refine ⟨u,e2,?_⟩
    cases sh<;>simp [Sh.agg] at hagg<;>simp [Sh.cells] at hu<;>subst hu<;>rfl
theorem zSa (hG:LangOK C.P G) (h:Rel C γ s a w) {d:Nat} {dd:Option Tmp} {t ty:TypeId} {pos:String} {af:Array Edge} {gd:Option (Nat×Bool)} (hnd:C.nl≤d) (ht:G.fnT t=true) :
 ∃ v w' γ',(execOp a.eval ⟨dd,.alloc t,ty,pos,af,gd⟩).run C.P w=.ok (.value v) w' ∧
  Rel C γ' ((s.map (killB d)).setBox d (.one .nilf)) a w'∧svRep C γ' w' (.one (.box d)) v:=by
 obtain ⟨i,hi,hz⟩:=hG.fnT t ht
 refine ⟨_,_,_,run_v (v:=.pointer (some ⟨w.heap.size,0,none⟩)) (w':=w.alloc (.cells (Value.nilFunc).cells t)) ?_,zOE h d hnd (Value.nilFunc).cells t ⟨.nilFunc,rfl,rfl⟩ (fun u hu=>by simp [Value.cells] at hu; subst hu; rfl),by simp [svRep,bvRep,zAK,upd]⟩
 simp only [Instr.alloc,Sem.run_bind,zeroValue,typeInfo]
 simp [hi,hz,newVar,newRow,newObj,Sem.run]
theorem w_box (h:Rel C γ s a w) {d:Nat} {dd:Option Tmp} {t ty:TypeId} {x:Operand} {pos:String} {af:Array Edge} {gd:Option (Nat×Bool)} (hnd:C.nl≤d) (hs:sized (ev s x)=true) :
 ∃ v w' γ',(execOp a.eval ⟨dd,.box t x,ty,pos,af,gd⟩).run C.P w=.ok (.value v) w' ∧
  Rel C γ' ((s.map (killB d)).setBox d (mapSV (killB d) (ev s x))) a w'∧svRep C γ' w' (.one (.box d)) v:=by
 obtain ⟨k1,k2,k3⟩:=zLU (zAn h x) hs
 refine ⟨_,_,_,run_v (v:=.pointer (some ⟨w.heap.size,0,none⟩)) (w':=w.alloc (.cells (a.eval x).cells t)) ?_,zOE h d hnd (a.eval x).cells t ?_ k2,by simp [svRep,bvRep,zAK,upd]⟩
 ·simp [Instr.box,newVar,newRow,newObj,Sem.run]
 ·refine zC8 ⟨by simp,fun b hb hz=>⟨⟨hz.1,?_⟩,Below.heap_alloc w _ b hb⟩,fun b e hb ho=>⟨?_,Below.heap_alloc w _ b hb⟩⟩ ?_ k1
  ·simp only [zAK]
   rw [if_neg (by omega)]
   exact hz.2
  ·simp only [zAK]
   rw [if_neg (by omega)]
   exact ho
  ·intro b
   by_cases h1:killB d b=.any
   ·exact .inl h1
   ·exact .inr ⟨(zLc d b).resolve_left h1,zGk h1 (fun _=>rfl) (fun _ _=>rfl) (fun y hy=>by simp only [zAK,upd]; rw [if_neg hy])⟩
end
end Go.VS
namespace Go.VS
open Go.RowKit
section
variable {C:Ctx} {G:Lang} {γ:Gam} {s:AS} {a:Act} {w:World} {N:Nat}
theorem zDH {sh sh':Sh} {ys:List sh'.T} {ys':List sh.T} (h:zAT (.sl sh') (.sl sh) ys=some ys'):∃ e:sh'=sh,ys'=e ▸ ys:=by
 obtain ⟨e,h2⟩:=zBm h
 have e':sh'=sh:=by simpa using e
 subst e'
 exact ⟨rfl,h2⟩
theorem Wrote.skip {o:Oper} {s':AS} {p:Prop} (h:p→∃ w' γ',(execOp a.eval o).run C.P w=.ok .skip w'∧Rel C γ' s' a w'):Wrote C a w N o (p,s',.one .any):=fun hp =>
 let ⟨w',γ',h1,h2⟩:=h hp
 ⟨undef,w',γ',.inr ⟨h1,rfl⟩,h2,trivial⟩
theorem Wrote.value {o:Oper} {s':AS} {sv:SV} {p:Prop} (h:p→∃ v w' γ',(execOp a.eval o).run C.P w=.ok (.value v) w'∧Rel C γ' s' a w'∧svRep C γ' w' sv v):Wrote C a w N o (p,s',sv):=fun hp =>
 let ⟨v,w',γ',h1,h2,h3⟩:=h hp
 ⟨v,w',γ',.inl h1,h2,h3⟩
theorem zXV (hG:LangOK C.P G) (h:Rel C γ s a w) (d:Option Tmp) (t:TypeId) (x y:Operand) (ty:TypeId) (pos:String) (af:Array Edge) (gd:Option (Nat×Bool)) :
 Wrote C a w N ⟨d,.store t x y,ty,pos,af,gd⟩ (ef G C.nl s d (.store t x y)):=by
 simp only [ef]
 split
 ·rename_i r i sz sh v hx hy
  split
  ·rename_i e sh' xs hr
   split
   ·rename_i v' hc
    obtain ⟨rfl,h2⟩:=zBm hc
    simp only at h2
    subst h2
    refine Wrote.skip fun ⟨h1,h2,h3⟩=>?_
    obtain ⟨w',h4,h5⟩:=zO7 hG h (d:=d) (ty:=ty) (pos:=pos) (af:=af) (gd:=gd) hx hy hr h1 h2 h3
    exact ⟨w',γ,h4,h5⟩
   ·exact Wrote.bad
  ·rename_i e sh' xss hr
   split
   ·rename_i v' hc
    obtain ⟨rfl,h2⟩:=zBm hc
    simp only at h2
    subst h2
    refine Wrote.skip fun ⟨h1,h2,h3⟩=>?_
    obtain ⟨w',h4,h5⟩:=zNs hG h (d:=d) (ty:=ty) (pos:=pos) (af:=af) (gd:=gd) hx hy hr h1 h2 h3
    exact ⟨w',γ,h4,h5⟩
   ·exact Wrote.bad
  ·exact Wrote.bad
 ·rename_i r i sz q hx hy
  split
  ·rename_i e e2 sh xss e' sh' ys hr hq
   split
   ·rename_i ys' hc
    obtain ⟨rfl,h2⟩:=zDH hc
    simp only at h2
    subst h2
    refine Wrote.skip fun ⟨h1,h2,h3,h4,h5,h6⟩=>?_
    subst h2
    subst h6
    exact zJp hG h (.inl rfl) hx hy hr hq h1 h3 h4 h5
   ·exact Wrote.bad
  ·rename_i e e2 sh xss k e' sh' ys hr hq
   split
   ·rename_i ys' hc
    obtain ⟨rfl,h2⟩:=zDH hc
    simp only at h2
    subst h2
    refine Wrote.skip fun ⟨h1,h2,h3,h3',h4,h5,h6⟩=>?_
    subst h2
    subst h6
    subst h3'
    exact zJp hG h (.inr rfl) hx hy hr hq h1 h3 h4 h5
   ·exact Wrote.bad
  ·exact Wrote.bad
 ·rename_i r i j sz sh v hx hy
  split
  ·rename_i e e2 sh' xss hr
   split
   ·rename_i v' hc
    obtain ⟨rfl,h2⟩:=zBm hc
    simp only at h2
    subst h2
    refine Wrote.skip fun ⟨h1,h2,h3,h4⟩=>?_
    obtain ⟨w',h5,h6⟩:=zNp hG h (d:=d) (ty:=ty) (pos:=pos) (af:=af) (gd:=gd) hx hy hr h1 h2 h3 h4
    exact ⟨w',γ,h5,h6⟩
   ·exact Wrote.bad
  ·exact Wrote.bad
 ·rename_i b hx
  split
  ·rename_i old ho
   refine Wrote.skip fun ⟨h1,h2,h3⟩=>?_
   obtain ⟨w',h5,h6⟩:=zO8 hG h (d:=d) (ty:=ty) (pos:=pos) (af:=af) (gd:=gd) hx ho h1 h2 h3
   exact ⟨w',γ,h5,h6⟩
  ·exact Wrote.bad
 ·rename_i b n f off p q v hx hy
  split
  ·rename_i bs ho
   refine Wrote.skip fun ⟨h1,h2⟩=>?_
   obtain ⟨w',h5,h6⟩:=zNq hG h (d:=d) (ty:=ty) (pos:=pos) (af:=af) (gd:=gd) hx ho hy h1 h2
   exact ⟨w',γ,h5,h6⟩
  ·exact Wrote.bad
 ·rename_i b n f off v hx hy
  split
  ·rename_i bs ho
   refine Wrote.skip fun ⟨h1,h2,h3⟩=>?_
   obtain ⟨w',h5,h6⟩:=zNr hG h (d:=d) (ty:=ty) (pos:=pos) (af:=af) (gd:=gd) hx ho hy h1 h2 h3
   exact ⟨w',γ,h5,h6⟩
  ·exact Wrote.bad
 ·exact Wrote.bad
theorem zZC (hG:LangOK C.P G) (h:Rel C γ s a w) (d:Option Tmp) (t:TypeId) (l c:Operand) (ty:TypeId) (pos:String) (af:Array Edge) (gd:Option (Nat×Bool)) :
 Wrote C a w N ⟨d,.makeSlice t l c,ty,pos,af,gd⟩ (ef G C.nl s d (.makeSlice t l c)):=by
 simp only [ef]
 split
 ·rename_i d n m sh hl hc ht
  refine Wrote.value fun ⟨h1,h2,h3,h4⟩=>?_
  subst h1
  exact zO5 hG h hl hc ht h2 h4 h3
 ·rename_i d n m sh _ hl hc ht
  refine Wrote.value fun ⟨h1,h2,h3,h4⟩=>?_
  subst h1
  exact zO6 hG h hl hc ht h2 h4 h3
 ·exact Wrote.bad
theorem zXU (hG:LangOK C.P G) (h:Rel C γ s a w) (d:Option Tmp) (t:TypeId) (n:Nat) (parts:Array (Nat×Operand)) (ty:TypeId) (pos:String) (af:Array Edge) (gd:Option (Nat×Bool)) :
 Wrote C a w N ⟨d,.buildSlice t n parts,ty,pos,af,gd⟩ (ef G C.nl s d (.buildSlice t n parts)):=by
 simp only [ef]
 split
 ·rename_i d sh ht
  split
  ·rename_i xs hxs
   exact Wrote.value fun ⟨h1,h2,h3,h4⟩=>zO4 hG h ht hxs h1 h2 h3 h4
  ·exact Wrote.bad
 ·exact Wrote.bad
theorem zXT (hG:LangOK C.P G) (h:Rel C γ s a w) (d:Option Tmp) (t:TypeId) (ty:TypeId) (pos:String) (af:Array Edge) (gd:Option (Nat×Bool)) :
 Wrote C a w N ⟨d,.alloc t,ty,pos,af,gd⟩ (ef G C.nl s d (.alloc t)):=by
 simp only [ef]
 split
 ·rename_i d sh ht
  exact Wrote.value fun h1=>zY0 hG h h1 ht
 ·exact Wrote.value fun h1=>zSa hG h h1.2 h1.1
 ·exact Wrote.bad
theorem e_box (h:Rel C γ s a w) (d:Option Tmp) (t:TypeId) (x:Operand) (ty:TypeId) (pos:String) (af:Array Edge) (gd:Option (Nat×Bool)) :
 Wrote C a w N ⟨d,.box t x,ty,pos,af,gd⟩ (ef G C.nl s d (.box t x)):=by
 simp only [ef]
 split
 ·rename_i d v hx
  refine Wrote.value fun h1=>?_
  have hs:sized (ev s x)=true:=by
   rw [hx]
   rcases h1.1 with h1|⟨sh,y,rfl⟩
   ·cases v<;>first|rfl|exact h1
   ·rfl
  obtain ⟨v',w',γ',h2,h3,h4⟩:=w_box h (d:=d) (dd:=some d) (t:=t) (ty:=ty) (pos:=pos) (af:=af) (gd:=gd) h1.2 hs
  rw [hx] at h3
  exact ⟨v',w',γ',h2,h3,h4⟩
 ·rename_i d bs hx
  refine Wrote.value fun h1=>?_
  obtain ⟨v',w',γ',h2,h3,h4⟩:=w_box h (d:=d) (dd:=some d) (t:=t) (ty:=ty) (pos:=pos) (af:=af) (gd:=gd) (x:=x) h1 (by rw [hx]; rfl)
  rw [hx] at h3
  exact ⟨v',w',γ',h2,h3,h4⟩
 ·exact Wrote.bad
theorem zVu (hG:LangOK C.P G) (h:Rel C γ s a w) (d:Option Tmp) (args:Array Operand) (ats:Array TypeId) (ty:TypeId) (pos:String) (af:Array Edge) (gd:Option (Nat×Bool)) :
 Wrote C a w N ⟨d,.call {callee:=.builtin .append,args:=args,argTypes:=ats},ty,pos,af,gd⟩ (ef G C.nl s d (.call {callee:=.builtin .append,args:=args,argTypes:=ats})):=by
 simp only [ef]
 split
 ·rename_i d x y t t' ha hat
  have ha':args=#[x,y]:=by rw [←Array.toArray_toList (xs:=args),ha]
  have hat':ats=#[t,t']:=by rw [←Array.toArray_toList (xs:=ats),hat]
  subst ha'
  subst hat'
  split
  ·rename_i r q hx hy
   split
   ·rename_i e e2 sh xss e' sh' ys hr hq
    split
    ·rename_i ys' hc
     obtain ⟨rfl,h2⟩:=zDH hc
     simp only at h2
     subst h2
     refine Wrote.value fun ⟨h1,h2,h3,h4,h5,h6,h7,h8⟩=>?_
     subst h1
     subst h3
     subst h7
     obtain ⟨hf,hown,hob,hrows⟩:=h.roots r _ hr
     have hx':=zAn h x
     rw [hx] at hx'
     exact zE2 hG h hx' hown hob (fun _ _=>rfl) hrows hy hq h2 hf h6 h5 h4 h8
    ·exact Wrote.bad
   ·exact Wrote.bad
  ·rename_i q hx hy
   split
   ·rename_i e' sh' ys sh hq ht
    split
    ·rename_i ys' hc
     obtain ⟨rfl,h2⟩:=zDH hc
     simp only at h2
     subst h2
     refine Wrote.value fun ⟨h1,h2,h3,h4,h5⟩=>?_
     subst h1
     have hx':=zAn h x
     rw [hx] at hx'
     have hq':=h.roots q _ hq
     exact zE2 hG h (r:=d) (xss:=[]) hx' (World.ownsRow_nil _ _ _ _) (fun k hk=>by simp [Value.ownBlock] at hk) (fun b hb=>by simp [Value.ownBlock] at hb) (fun i xs hi=>by simp at hi) hy hq ht hq'.1 h4 h3 h2 (by simp)
    ·exact Wrote.bad
   ·exact Wrote.bad
  ·rename_i r hx _
   split
   ·rename_i e sh xs sh' ys hr hl
    split
    ·rename_i ys' hc
     obtain ⟨rfl,h2⟩:=zDH hc
     simp only at h2
     subst h2
     refine Wrote.value fun ⟨h1,h2,h3,h4,h5,h6⟩=>?_
     subst h1
     subst h3
     exact zLJ hG h hx hr hl h2 h4 h5 h6
    ·exact Wrote.bad
   ·exact Wrote.bad
  ·rename_i hx _
   split
   ·rename_i sh' ys sh hl ht
    split
    ·rename_i ys' hc
     obtain ⟨rfl,h2⟩:=zDH hc
     simp only at h2
     subst h2
     refine Wrote.value fun ⟨h1,h2,h3,h4⟩=>?_
     subst h1
     exact zNo hG h hx hl ht h2 h3 h4
    ·exact Wrote.bad
   ·exact Wrote.bad
  ·rename_i r i hx
   split
   ·rename_i e e2 sh xss sh' ys hr hl
    split
    ·rename_i ys' hc
     obtain ⟨rfl,h2⟩:=zDH hc
     simp only at h2
     subst h2
     refine Wrote.value fun ⟨h1,h2,h3,h4,h5,h6,h7,h8⟩=>?_
     subst h1
     subst h3
     exact zLK hG h hx hr hl h2 h4 h5 h6 h7 h8
    ·exact Wrote.bad
   ·exact Wrote.bad
  ·exact Wrote.bad
 ·exact Wrote.bad
theorem zVv (hG:LangOK C.P G) (h:Rel C γ s a w) (o:Oper):Wrote C a w N o (ef G C.nl s o.dst o.op):=by
 obtain ⟨d,op,ty,pos,af,gd⟩:=o
 cases op with
 | store t x y=>exact zXV hG h d t x y ty pos af gd
 | buildSlice t n parts=>exact zXU hG h d t n parts ty pos af gd
 | makeSlice t l c=>exact zZC hG h d t l c ty pos af gd
 | alloc t=>exact zXT hG h d t ty pos af gd
 | box t x=>exact e_box h d t x ty pos af gd
 | call c =>
  obtain ⟨callee,args,ats⟩:=c
  cases callee with
  | builtin b =>
   cases b<;>first
    | exact zVu hG h d args ats ty pos af gd
    | exact Wrote.bad
  | value f=>exact Wrote.bad
  | invoke r m=>exact Wrote.bad
 | _=>exact Wrote.bad
end
end Go.VS
namespace Go.VS
open Go.RowKit
def newR (s t:AS) (r:Nat):Bool:=(s.roots r).isNone && (t.roots r).isSome
def keepR (s t:AS) (r:Nat):Bool:=(s.roots r).isSome && (t.roots r).isSome
def names:BV→List Nat
 | .ref r|.refi r _|.refp r _|.adr r _ _|.adri r _ _ _|.adrf r _ _ _ _ _|.lits r=>[r]
 | _=>[]
def convS (s t:AS):BV→BV→Prop
 | .ref r,.val sh' x'=>t.roots r=none∧(match s.roots r with
  | some (.flat _ sh xs)=>BV.val sh' x'=.val (.sl sh) xs
  | some (.deep _ _ sh xss)=>BV.val sh' x'=.val (.sl (.sl sh)) xss
  | _=>False)
 | .refi r i,.val sh' x'=>t.roots r=none∧(match s.roots r with
  | some (.deep _ _ sh xss)=>i<xss.length∧BV.val sh' x'=.val (.sl sh) (xss.getD i [])
  | _=>False)
 | .refp r k,.val sh' x'=>t.roots r=none∧(match s.roots r with
  | some (.flat _ sh xs)=>k≤xs.length∧BV.val sh' x'=.val (.sl sh) (xs.take k)
  | _=>False)
 | .nils,.val sh' x'=>∃ sh,BV.val sh' x'=.val (.sl sh) ([]:List sh.T)
 | .raw .nilIface,.val sh' x'=>∃ u,BV.val sh' x'=.val (.err u) (0:Int)
 | .nils,.ref r=>newR s t r=true
 | b,b'=>b=b'∧∀ r∈names b,newR s t r=false
def conv (s t:AS) (b b':BV):Prop:=b'=.any∨convS s t b b'
def convs (s t:AS):List BV→List BV→Prop
 | [],[]=>True
 | b::bs,b'::bs'=>conv s t b b'∧convs s t bs bs'
 | _,_=>False
def zFy (s t:AS):SV→SV→Prop
 | .one b,.one b'=>conv s t b b'
 | .rcd bs,.rcd bs'=>convs s t bs bs'
 | sv,sv'=>sv'=.one .any∨(sv=sv'∧∀ b∈sv.bvs,∀ r∈names b,newR s t r=false)
def emptyRC:RC→Prop
 | .flat _ s xs=>s.flat=true∧xs=[]
 | .deep _ _ s xss=>s.flat=true∧xss=[]
 | .hole ..=>False
 | .rags ..=>False
structure Weak (nl:Nat) (s t:AS):Prop where
 env:∀ i,zFy s t (s.env i) (t.env i)
 boxes:∀ b sv,t.boxes b=some sv→∃ sv0,s.boxes b=some sv0∧zFy s t sv0 sv
 roots:∀ r rc,t.roots r=some rc→s.roots r=some rc∨(s.roots r=none∧nl≤r∧emptyRC rc)
section
variable {C:Ctx} {G:Lang} {γ:Gam} {s t:AS} {a:Act} {w:World}
theorem zBk {Z:Nat→Prop} {e:TypeId} {sh:Sh} (hf:sh.flat=true) {xs:List sh.T} {v:Value} (h:w.ownsRow 0 e sh.size v xs.length (xs.flatMap sh.cells)) (hz:∀ g,v.ownBlock=some g→Z g) :
 pers w Z (.sl sh) xs [v]:=by
 obtain ⟨ad,cap,rfl,h1,h2⟩:=zAO h
 refine ⟨ad,cap,rfl,h1,h2,fun i hi=>?_⟩
 obtain ⟨g,cap',e1⟩:=zD3 h (by omega)
 simp only [Value.slice.injEq] at e1
 obtain ⟨rfl,_,rfl⟩:=e1
 have hlt:g<w.heap.size:=by
  rcases h.2 with ⟨e2,_⟩|⟨g',cap',cur,e2,_,hg,_⟩
  ·simp at e2
  ·simp only [Value.slice.injEq,Option.some.injEq,Addr.mk.injEq,and_true,true_and] at e2
   obtain ⟨e2,_⟩:=e2
   subst e2
   exact (Array.getElem?_eq_some_iff.1 hg).1
 refine ⟨g,0,sh.cells xs[i],rfl,hz g rfl,hlt,(zBt sh _ _ hf).2 rfl,fun j c hj=>?_⟩
 rw [Nat.zero_add]
 rcases Nat.eq_zero_or_pos sh.size with hs|hs
 ·have:=(List.getElem?_eq_some_iff.1 hj).1
  rw [zAv] at this
  omega
 ·exact zIb h hi hs j c hj
theorem zGi {Z:Nat→Prop} {e e2:TypeId} {sh:Sh} {r:Nat} (hf:sh.flat=true) {xss:List (List sh.T)} (h:w.ownsRow 0 e 1 (γ.hd r) xss.length (zAY γ r xss.length)) (hz:∀ g,(γ.hd r).ownBlock=some g→Z g)
 (hr:∀ i xs,xss[i]?=some xs→w.ownsRow 0 e2 sh.size (γ.rows r i) xs.length (xs.flatMap sh.cells)∧∀ g,(γ.rows r i).ownBlock=some g→Z g):pers w Z (.sl (.sl sh)) xss [γ.hd r]:=by
 obtain ⟨ad,cap,e0,h1,h2⟩:=zAO h
 rw [e0] at h hz ⊢
 refine ⟨ad,cap,rfl,h1,h2,fun i hi=>?_⟩
 obtain ⟨g,cap',e1⟩:=zD3 h (by omega)
 simp only [Value.slice.injEq] at e1
 obtain ⟨rfl,_,rfl⟩:=e1
 have hlt:g<w.heap.size:=by
  rcases h.2 with ⟨e2,_⟩|⟨g',cap',cur,e2,_,hg,_⟩
  ·simp at e2
  ·simp only [Value.slice.injEq,Option.some.injEq,Addr.mk.injEq,and_true,true_and] at e2
   obtain ⟨e2,_⟩:=e2
   subst e2
   exact (Array.getElem?_eq_some_iff.1 hg).1
 obtain ⟨k1,k2⟩:=hr i xss[i] (by simp [hi])
 refine ⟨g,0,[γ.rows r i],rfl,hz g rfl,hlt,zBk hf k1 k2,fun j c hj=>?_⟩
 cases j with
 | zero =>
  simp only [List.getElem?_cons_zero,Option.some.injEq] at hj
  subst hj
  have:=zEQ h (zLz (γ:=γ) (r:=r) hi)
  simpa [Sh.size] using this
 | succ j=>simp at hj
def zAI (γ:Gam) (s t:AS):Gam :=
 ⟨fun r=>if newR s t r then ⟨none,0,0⟩ else γ.hs r,γ.rs,γ.bx,fun b=>match γ.own b with
  | some (.hd r)=>if keepR s t r then some (.hd r) else none
  | some (.row r i)=>if keepR s t r then some (.row r i) else none
  | o=>o⟩
theorem zIh (w:World):Sub C γ w (zAI γ s t) w :=
 ⟨Nat.le_refl _,fun b _ hz=>⟨⟨hz.1,by simp only [zAI,hz.2]⟩,rfl⟩,fun b d _ ho=>⟨by simp only [zAI,ho],rfl⟩⟩
theorem zHv {b:BV} (h:∀ r∈names b,newR s t r=false):Agree γ (zAI γ s t) b:=by
 cases b<;>simp only [Agree]<;>first
  | trivial
  | rfl
  | (exact fun _ _=>rfl)
  | (simp only [Gam.hd,zAI]; rw [if_neg]; rw [h _ (List.mem_singleton.2 rfl)]; simp)
theorem zFA {r:Nat} {v:Value} {l:Loc} (hl:l=.hd r∨∃ i,l=.row r i) (ho:ownB C γ v l) (ht:t.roots r=none):∀ g,v.ownBlock=some g→C.zn (zAI γ s t) g:=by
 intro g hg
 obtain ⟨h1,h2⟩:=ho g hg
 refine ⟨.inr h2,?_⟩
 have hk:keepR s t r=false:=by simp [keepR,ht]
 simp only [zAI,h1]
 rcases hl with rfl|⟨i,rfl⟩<;>simp [hk]
theorem zH5 (h:Rel C γ s a w) {b b':BV} {v:Value} (hc:conv s t b b') (hv:bvRep C γ w b v):bvRep C (zAI γ s t) w b' v:=by
 have dflt:b=b'∧(∀ r∈names b,newR s t r=false)→bvRep C (zAI γ s t) w b' v:=by
  rintro ⟨rfl,hn⟩
  exact zCd (zIh w) (zHv hn) hv
 rcases hc with rfl|hc
 ·trivial
 unfold convS at hc
 split at hc
 ·rename_i r sh' x'
  obtain ⟨ht,hc⟩:=hc
  simp only [bvRep] at hv
  split at hc
  ·rename_i e sh xs hr
   rw [hc]
   obtain ⟨hf,h1,h2⟩:=h.roots r _ hr
   exact ⟨[v],by rw [hv]; exact zBk hf h1 (zFA (.inl rfl) h2 ht),rfl⟩
  ·rename_i e e2 sh xss hr
   rw [hc]
   obtain ⟨hf,h1,h2,h3⟩:=h.roots r _ hr
   exact ⟨[v],by rw [hv]; exact zGi hf h1 (zFA (.inl rfl) h2 ht) (fun i xs hi=>⟨(h3 i xs hi).1,zFA (.inr ⟨i,rfl⟩) (h3 i xs hi).2 ht⟩),rfl⟩
  ·exact hc.elim
 ·rename_i r i sh' x'
  obtain ⟨ht,hc⟩:=hc
  simp only [bvRep] at hv
  split at hc
  ·rename_i e e2 sh xss hr
   obtain ⟨hi,hc⟩:=hc
   rw [hc]
   obtain ⟨hf,h1,h2,h3⟩:=h.roots r _ hr
   have hgi:xss.getD i []=xss[i]:=by simp [List.getD_eq_getElem?_getD,hi]
   rw [hgi]
   obtain ⟨k1,k2⟩:=h3 i xss[i] (by simp [hi])
   exact ⟨[v],by rw [hv]; exact zBk hf k1 (zFA (.inr ⟨i,rfl⟩) k2 ht),rfl⟩
  ·exact hc.elim
 ·rename_i r k sh' x'
  obtain ⟨ht,hc⟩:=hc
  simp only [bvRep] at hv
  split at hc
  ·rename_i e sh xs hr
   obtain ⟨hk,hc⟩:=hc
   rw [hc]
   obtain ⟨hf,h1,h2⟩:=h.roots r _ hr
   obtain ⟨ad,m,cap,e1,e2,e3⟩:=hv
   obtain ⟨ad',cap',e4,e5,e6,e7⟩:=zBk hf h1 (zFA (.inl rfl) h2 ht)
   rw [e1] at e4
   simp only [List.cons.injEq,Value.slice.injEq,and_true] at e4
   obtain ⟨rfl,rfl,rfl⟩:=e4
   refine ⟨[v],⟨ad,cap,?_,?_,e6,fun i hi=>?_⟩,rfl⟩
   ·rw [List.length_take,Nat.min_eq_left hk,e3]
   ·rw [List.length_take]; omega
   ·rw [List.length_take] at hi
    obtain ⟨b,off,c,g1,g2,g3,g4,g5⟩:=e7 i (by omega)
    exact ⟨b,off,c,g1,g2,g3,by rw [List.getElem_take]; exact g4,g5⟩
  ·exact hc.elim
 ·obtain ⟨sh,hc⟩:=hc
  rw [hc]
  simp only [bvRep] at hv
  exact ⟨[v],⟨none,0,by rw [hv]; rfl,Nat.le_refl _,Nat.zero_le _,fun i hi=>by simp at hi⟩,rfl⟩
 ·obtain ⟨u,hc⟩:=hc
  rw [hc]
  simp only [bvRep] at hv
  exact ⟨_,rfl,by rw [hv]; rfl⟩
 ·rename_i r
  simp only [bvRep,Gam.hd,zAI] at hv ⊢
  rw [if_pos hc,hv]
  rfl
 ·exact dflt hc
theorem zIt (h:Rel C γ s a w):∀ (bs bs':List BV) (vs:List Value),convs s t bs bs'→zAp C γ w bs vs→zAp C (zAI γ s t) w bs' vs
 | [],[],_,_,hv=>hv
 | b::bs,b'::bs',vs,hc,hv=>by
  obtain ⟨v,vs',rfl,h1,h2⟩:=hv
  exact ⟨v,vs',rfl,zH5 h hc.1 h1,zIt h bs bs' vs' hc.2 h2⟩
 | [],_::_,_,hc,_=>hc.elim
 | _::_,[],_,hc,_=>hc.elim
theorem zR0 (h:Rel C γ s a w) {b b':SV} {v:Value} (hc:zFy s t b b') (hv:svRep C γ w b v):svRep C (zAI γ s t) w b' v:=by
 have dflt:b'=.one .any∨(b=b'∧∀ x∈b.bvs,∀ r∈names x,newR s t r=false)→svRep C (zAI γ s t) w b' v:=by
  rintro (rfl|⟨rfl,hn⟩)
  ·trivial
  ·exact zEy (zIh w) (fun x hx=>zHv (hn x hx)) hv
 unfold zFy at hc
 split at hc
 ·exact zH5 h hc hv
 ·obtain ⟨vs,e,h1,h2⟩:=hv
  exact ⟨vs,e,zIt h _ _ vs hc h1,h2⟩
 ·exact dflt hc
theorem zNf (h:Rel C γ s a w) {b b':SV} {cs:List Value} (hc:zFy s t b b') (hv:zBb C γ w b cs):zBb C (zAI γ s t) w b' cs:=by
 have dflt:b'=.one .any∨(b=b'∧∀ x∈b.bvs,∀ r∈names x,newR s t r=false)→zBb C (zAI γ s t) w b' cs:=by
  rintro (rfl|⟨rfl,hn⟩)
  ·exact ⟨.agg cs.toArray,trivial,by simp [Value.cells]⟩
  ·exact zDo (zIh w) (fun x hx=>zHv (hn x hx)) hv
 unfold zFy at hc
 split at hc
 ·obtain ⟨v,h1,h2⟩:=hv
  exact ⟨v,zH5 h hc h1,h2⟩
 ·exact zIt h _ _ cs hc hv
 ·exact dflt hc
theorem Weak.rel (hw:Weak C.nl s t) (h:Rel C γ s a w):Rel C (zAI γ s t) t a w:=by
 have hown:∀ k l,(zAI γ s t).own k=some l→γ.own k=some l:=by
  intro k l hk
  simp only [zAI] at hk
  split at hk
  ·rename_i e
   split at hk
   ·rw [e]; exact hk
   ·cases hk
  ·rename_i e
   split at hk
   ·rw [e]; exact hk
   ·cases hk
  ·exact hk
 refine ⟨h.defers,h.keep,fun k l hk=>h.ownlt k l (hown k l hk),fun r hr=>?_,fun i=>zR0 h (hw.env i) (h.env i),fun r rc hr=>?_,fun b sv hb=>?_⟩
 ·have hn:newR s t r=false:=by
   rcases hx:newR s t r with _|_
   ·rfl
   ·simp only [newR,Bool.and_eq_true,Option.isNone_iff_eq_none,Option.isSome_iff_exists] at hx
    obtain ⟨h1,rc,h2⟩:=hx
    rcases hw.roots r rc h2 with h3|h3
    ·rw [h1] at h3; cases h3
    ·omega
  simp only [Gam.hd,zAI,hn]
  exact h.lent r hr
 ·rcases hw.roots r rc hr with h1|⟨h1,h2,h3⟩
  ·have hn:newR s t r=false:=by simp [newR,h1]
   have hk:keepR s t r=true:=by simp [keepR,h1,hr]
   have hhd:(zAI γ s t).hd r=γ.hd r:=by simp [Gam.hd,zAI,hn]
   have ho1:∀ v,ownB C γ v (.hd r)→ownB C (zAI γ s t) v (.hd r):=fun v ho k hv=>⟨by simp [zAI,(ho k hv).1,hk],(ho k hv).2⟩
   have ho2:∀ v i,ownB C γ v (.row r i)→ownB C (zAI γ s t) v (.row r i):=fun v i ho k hv=>⟨by simp [zAI,(ho k hv).1,hk],(ho k hv).2⟩
   have h4:=h.roots r rc h1
   cases rc with
   | flat e sh xs=>exact ⟨h4.1,by rw [hhd]; exact h4.2.1,by rw [hhd]; exact ho1 _ h4.2.2⟩
   | deep e e2 sh xss=>exact ⟨h4.1,by rw [hhd]; exact h4.2.1,by rw [hhd]; exact ho1 _ h4.2.2.1,fun i xs hi=>⟨(h4.2.2.2 i xs hi).1,ho2 _ i (h4.2.2.2 i xs hi).2⟩⟩
   | hole e e2 sh xss k=>exact ⟨h4.1,by rw [hhd]; exact h4.2.1,by rw [hhd]; exact ho1 _ h4.2.2.1,fun i xs hne hi=>⟨(h4.2.2.2 i xs hne hi).1,ho2 _ i (h4.2.2.2 i xs hne hi).2⟩⟩
   | rags e sh xss =>
    obtain ⟨vs,k1,k2,k3⟩:=h4
    exact ⟨vs,by rw [hhd]; exact k1,by rw [hhd]; exact ho1 _ k2,zAF (zIh w) _ _ (fun b hb=>by obtain ⟨y,_,rfl⟩:=List.mem_map.1 hb; trivial) k3⟩
  ·have hn:newR s t r=true:=by simp [newR,h1,hr]
   have hhd:(zAI γ s t).hd r=.slice none 0 0:=by simp [Gam.hd,zAI,hn,Sl.v]
   cases rc with
   | flat e sh xs =>
    obtain ⟨hf,rfl⟩:=h3
    exact ⟨hf,by rw [hhd]; exact World.ownsRow_nil _ _ _ _,by rw [hhd]; exact fun k hk=>by simp [Value.ownBlock] at hk⟩
   | deep e e2 sh xss =>
    obtain ⟨hf,rfl⟩:=h3
    exact ⟨hf,by rw [hhd]; exact World.ownsRow_nil _ _ _ _,by rw [hhd]; exact fun k hk=>by simp [Value.ownBlock] at hk,fun i xs hi=>by simp at hi⟩
   | hole e e2 sh xss k=>exact h3.elim
   | rags e sh xss=>exact h3.elim
 ·obtain ⟨sv0,h1,h2⟩:=hw.boxes b sv hb
  obtain ⟨cs,tt,d1,d2,d3,d4,d5⟩:=h.boxes b sv0 h1
  exact ⟨cs,tt,d1,zNf h h2 d2,d3,by simp only [zAI]; rw [d4],d5⟩
theorem zAf {nl:Nat} {env:List (Nat×SV)} {roots:List (Nat×RC)} {boxes:List (Nat×SV)}
 (h1:∀ p∈env,zFy s (AS.of env roots boxes) (s.env p.1) p.2)
 (h2:∀ p∈roots,s.roots p.1=some p.2∨(s.roots p.1=none∧nl≤p.1∧emptyRC p.2))
 (h3:∀ p∈boxes,∃ sv0,s.boxes p.1=some sv0∧zFy s (AS.of env roots boxes) sv0 p.2):Weak nl s (AS.of env roots boxes):=by
 refine ⟨fun i=>?_,fun b sv hb=>?_,fun r rc hr=>?_⟩
 ·rcases zIO (SV.one BV.any) env i with h|h
  ·have:(AS.of env roots boxes).env i=.one .any:=h
   rw [this]
   unfold zFy
   split
   ·rename_i e
    simp only [SV.one.injEq] at e
    exact .inl e.symm
   ·rename_i e; cases e
   ·exact .inl rfl
  ·exact h1 _ h
 ·rcases zIO (none:Option SV) (boxes.map fun p=>(p.1,some p.2)) b with h|h
  ·simp only [AS.of] at hb; rw [h] at hb; cases hb
  ·have hb':=hb
   simp only [AS.of] at hb'
   rw [hb'] at h
   simp only [List.mem_map,Prod.mk.injEq,Option.some.injEq] at h
   obtain ⟨p,hp,e1,e2⟩:=h
   rw [←e1,←e2]
   exact h3 p hp
 ·rcases zIO (none:Option RC) (roots.map fun p=>(p.1,some p.2)) r with h|h
  ·simp only [AS.of] at hr; rw [h] at hr; cases hr
  ·simp only [AS.of] at hr
   rw [hr] at h
   simp only [List.mem_map,Prod.mk.injEq,Option.some.injEq] at h
   obtain ⟨p,hp,e1,e2⟩:=h
   rw [←e1,←e2]
   exact h2 p hp
end
end Go.VS
namespace Go.VS
open Go.RowKit
inductive Fd where
 | val (s:Sh)
 | raw (k:IntKind) (n:Int)
 | slk (e:TypeId)
@[reducible] def Fd.T:Fd→Type
 | .val s=>s.T
 | .raw _ _=>Unit
 | .slk _=>List ByteArray
@[reducible] def FdT:List Fd→Type
 | []=>Unit
 | f::fs=>f.T×FdT fs
def fdBV (k:Nat):(f:Fd)→f.T→BV
 | .val s,x=>.val s x
 | .raw i n,_=>.raw (.int i n)
 | .slk e,x=>.mk k e .str x
def fdBVs (k:Nat):(fs:List Fd)→FdT fs→List BV
 | [],_=>[]
 | f::fs,x=>fdBV k f x.1::fdBVs k fs x.2
structure Ob where
 fs:List Fd
 x:FdT fs
def Ob.sv (k:Nat) (o:Ob):SV:=.rcd (fdBVs k o.fs o.x)
inductive AD where
 | obj (fs:List Fd)
 | sdat (s:Sh)
 | dat (s:Sh)
 | ptr (s:Sh)
 | fnc (as_:List Sh) (r:Sh)
 | pfn (as_:List Sh) (r:Sh)
 | lend
 | nilp
@[reducible] def AD.T:AD→Type
 | .obj fs=>FdT fs
 | .sdat s=>s.T
 | .dat s=>s.T
 | .ptr s=>s.T
 | .fnc as_ r=>(TupT as_→Prop)×(TupT as_→r.T)
 | .pfn as_ r=>(TupT as_→Prop)×(TupT as_→r.T)
 | .lend=>RC
 | .nilp=>Unit
@[reducible] def TupA:List AD→Type
 | []=>Unit
 | a::as_=>a.T×TupA as_
def zAP:Nat→(as_:List AD)→TupA as_→List BV
 | _,[],_=>[]
 | k,.obj _::as_,x=>.box k::zAP (k+1) as_ x.2
 | k,.sdat s::as_,x=>.val s x.1::zAP k as_ x.2
 | k,.dat s::as_,x=>.val s x.1::zAP k as_ x.2
 | k,.ptr s::as_,x=>.padr s x.1::zAP k as_ x.2
 | k,.fnc l r::as_,x=>.fnv l r x.1.1 x.1.2::zAP k as_ x.2
 | k,.pfn l r::as_,x=>.pfn l r x.1.1 x.1.2::zAP k as_ x.2
 | k,.lend::as_,x=>.ref k::zAP (k+1) as_ x.2
 | k,.nilp::as_,x=>.raw (.pointer none)::zAP k as_ x.2
def zAC:Nat→(as_:List AD)→TupA as_→List (Nat×RC)
 | _,[],_=>[]
 | k,.obj _::as_,x=>zAC (k+1) as_ x.2
 | k,.sdat _::as_,x=>zAC k as_ x.2
 | k,.dat _::as_,x=>zAC k as_ x.2
 | k,.ptr _::as_,x=>zAC k as_ x.2
 | k,.fnc _ _::as_,x=>zAC k as_ x.2
 | k,.pfn _ _::as_,x=>zAC k as_ x.2
 | k,.lend::as_,x=>(k,x.1)::zAC (k+1) as_ x.2
 | k,.nilp::as_,x=>zAC k as_ x.2
def zAQ:Nat→(as_:List AD)→TupA as_→List (Nat×Ob)
 | _,[],_=>[]
 | k,.obj fs::as_,x=>(k,⟨fs,x.1⟩)::zAQ (k+1) as_ x.2
 | k,.lend::as_,x=>zAQ (k+1) as_ x.2
 | k,.sdat _::as_,x=>zAQ k as_ x.2
 | k,.dat _::as_,x=>zAQ k as_ x.2
 | k,.ptr _::as_,x=>zAQ k as_ x.2
 | k,.fnc _ _::as_,x=>zAQ k as_ x.2
 | k,.pfn _ _::as_,x=>zAQ k as_ x.2
 | k,.nilp::as_,x=>zAQ k as_ x.2
def lends:List AD→Nat
 | []=>0
 | .obj _::as_=>lends as_+1
 | .lend::as_=>lends as_+1
 | _::as_=>lends as_
inductive RV where
 | val (s:Sh) (x:s.T)
 | own (rc:RC)
 | nil
 | raw (v:Value)
 | ifc
 | any
 | obj (o:Ob)
structure Out where
 res:List RV
 left:List (Nat×RC):=[]
 objs:List (Nat×Ob):=[]
structure Con where
 as_:List AD
 pre:TupA as_→Prop
 post:TupA as_→Out
structure Clo where
 caps:List Sh
 as_:List Sh
 r:Sh
 q:TupT caps→TupT as_→Prop
 p:TupT caps→TupT as_→r.T
def zHi:List Value→Value
 | [v]=>v
 | vs=>.tuple vs.toArray
def zKk (C:Ctx) (γ:Gam) (w:World) (r:Nat) (rc:RC):Prop:=rcRep C γ w r rc∧whole rc=true
def zCN (C:Ctx) (γ:Gam) (w:World):List RV→List Nat→List Nat→List Value→Prop
 | [],ids,bids,vs=>ids=[]∧bids=[]∧vs=[]
 | .val s x::rs,ids,bids,vs=>∃ v vs',vs=v::vs'∧vrep w (C.zn γ) s x v∧zCN C γ w rs ids bids vs'
 | .own rc::rs,ids,bids,vs=>∃ v vs' i ids',vs=v::vs'∧ids=i::ids'∧v=γ.hd i∧zKk C γ w i rc∧zCN C γ w rs ids' bids vs'
 | .nil::rs,ids,bids,vs=>∃ vs',vs=.slice none 0 0::vs'∧zCN C γ w rs ids bids vs'
 | .raw u::rs,ids,bids,vs=>∃ vs',vs=u::vs'∧zCN C γ w rs ids bids vs'
 | .ifc::rs,ids,bids,vs=>∃ t u vs',vs=.iface t u::vs'∧zCN C γ w rs ids bids vs'
 | .any::rs,ids,bids,vs=>∃ v vs',vs=v::vs'∧zCN C γ w rs ids bids vs'
 | .obj o::rs,ids,bids,vs=>∃ vs' i bids',vs=.pointer (some ⟨γ.bx i,0,none⟩)::vs'∧bids=i::bids'∧bxRep C γ w i (o.sv i)∧zCN C γ w rs ids bids' vs'
structure OutRep (C:Ctx) (γ:Gam) (w:World) (o:Out) (v:Value):Prop where
 ok:∃ ids bids vs,v=zHi vs∧zCN C γ w o.res ids bids vs∧(ids++o.left.map (·.1)).Nodup∧(bids++o.objs.map (·.1)).Nodup
 left:∀ p∈o.left,zKk C γ w p.1 p.2∧γ.hd p.1=C.lh p.1
 objs:∀ p∈o.objs,bxRep C γ w p.1 (p.2.sv p.1)∧γ.bx p.1=C.lb p.1
 ownlt:∀ k l,γ.own k=some l→k<w.heap.size
structure Entry (C:Ctx) (γ:Gam) (P:Program) (as_:List AD) (x:TupA as_) (vs:List Value):Prop where
 P:C.P=P
 nl:C.nl=lends as_
 ds:C.ds=[]∧GdC C
 lent:∀ r,r<C.nl→γ.hd r=C.lh r∧γ.bx r=C.lb r
 ownlt:∀ k l,γ.own k=some l→k<C.w0.heap.size
 args:zAp C γ C.w0 (zAP 0 as_ x) vs
 roots:∀ p∈zAC 0 as_ x,rcRep C γ C.w0 p.1 p.2
 objs:∀ p∈zAQ 0 as_ x,bxRep C γ C.w0 p.1 (p.2.sv p.1)
structure FnSpec (P:Program) (f:FuncId) (c:Con):Prop where
 callable:zBf P f
 run:∀ (C:Ctx) (γ:Gam) (x:TupA c.as_) (vs:List Value),c.pre x→Entry C γ P c.as_ x vs →
  Calls P f vs.toArray C.w0 (fun e w'=>∃ v γ',e=.returned v∧OutRep C γ' w' (c.post x) v∧Keep C.L C.w0 w')
def zXq (w:World) (Z:Nat→Prop) (s:Sh) (x:s.T) (v:Value):Prop :=
 ∃ b off cs,v=.pointer (some ⟨b,off,none⟩)∧Z b∧b<w.heap.size∧pers w Z s x cs∧∀ j c,cs[j]?=some c→w.cell? ⟨b,off+j,none⟩=some c
def zBC (w:World) (Z:Nat→Prop):(as_:List Sh)→TupT as_→List Value→Prop
 | [],_,vs=>vs=[]
 | a::as_,x,vs=>∃ v vs',vs=v::vs'∧zXq w Z a x.1 v∧zBC w Z as_ x.2 vs'
structure Rec where
 ante:List Sh
 post:List Sh
 as_:List Sh
 r:Sh
 q:TupT ante→TupT post→TupT as_→Prop
 p:TupT ante→TupT post→TupT as_→r.T
structure RecSpec (P:Program) (f:FuncId) (c:Rec):Prop where
 callable:zBf P f
 flat:c.r.flat=true
 run:∀ (w:World) (Z:Nat→Prop) (y1:TupT c.ante) (y2:TupT c.post) (x:TupT c.as_) (ps1 ps2 vs:List Value) (b off:Nat),Gd P w→c.q y1 y2 x→zBC w (fun _=>True) c.ante y1 ps1→zBC w (fun _=>True) c.post y2 ps2→zDj w Z c.as_ x vs →
  b<w.heap.size→w.cell? ⟨b,off,none⟩=some (.func (.func f) #[] (ps1++.pointer (some ⟨b,off,none⟩)::ps2).toArray) →
  Calls P f (vs++(ps1++.pointer (some ⟨b,off,none⟩)::ps2)).toArray w (fun e w'=>∃ u,e=.returned u∧vrep w' (fun _=>True) c.r (c.p y1 y2 x) u∧Keep (fun _=>False) w w')
structure CloSpec (P:Program) (f:FuncId) (c:Clo):Prop where
 callable:zBf P f
 run:∀ (w:World) (Z:Nat→Prop) (y:TupT c.caps) (x:TupT c.as_) (ps vs:List Value),Gd P w→c.q y x→zBC w Z c.caps y ps→zDj w Z c.as_ x vs →
  Calls P f (vs++ps).toArray w (fun e w'=>∃ u,e=.returned u∧vrep w' (fun b=>Z b∨w.heap.size≤b) c.r (c.p y x) u∧Keep (fun _=>False) w w')
structure Know where
 G:Lang
 T:FuncId→Option Con
 K:FuncId→Option Clo
 R:FuncId→Option Rec
 own:List Nat
structure KnowOK (P:Program) (E:Know):Prop where
 lang:LangOK P E.G
 con:∀ f c,E.T f=some c→FnSpec P f c
 clo:∀ f c,E.K f=some c→CloSpec P f c
 self:∀ f c,E.R f=some c→RecSpec P f c
def zE1 (s:AS) (sh:Sh):BV→Option sh.T
 | .val sh' x=>zAT sh' sh x
 | .nils=>match sh with
  | .sl _=>some []
  | _=>none
 | .raw .nilIface=>match sh with
  | .err _=>some (0:Int)
  | _=>none
 | .ref r=>match s.roots r with
  | some (.flat _ a xs)=>zAT (.sl a) sh xs
  | some (.deep _ _ a xss)=>zAT (.sl (.sl a)) sh xss
  | _=>none
 | .refi r i=>match s.roots r with
  | some (.deep _ _ a xss)=>if i<xss.length then zAT (.sl a) sh (xss.getD i []) else none
  | _=>none
 | _=>none
def zDW (s:AS) (sh:Sh):SV→Option sh.T
 | .one b=>zE1 s sh b
 | _=>none
def zEV (s:AS) (sh:Sh):SV→Option sh.T
 | .one (.padr sh' x)=>zAT sh' sh x
 | .one (.box b)=>match s.boxes b with
  | some (.one bv)=>zE1 s sh bv
  | _=>none
 | _=>none
def zCK (s:AS):(as_:List Sh)→List SV→Option (TupT as_)
 | [],[]=>some ()
 | a::as_,v::vs=>match zDW s a v,zCK s as_ vs with
  | some x,some y=>some (x,y)
  | _,_=>none
 | _,_=>none
def zBj (s:AS):(as_:List Sh)→List Nat→Option (TupT as_)
 | [],[]=>some ()
 | a::as_,b::bs=>match zEV s a (.one (.box b)),zBj s as_ bs with
  | some x,some y=>some (x,y)
  | _,_=>none
 | _,_=>none
def tryFn (as_:List Sh) (r:Sh) (as':List Sh) (r':Sh) (f:(TupT as_→Prop)×(TupT as_→r.T)):Option ((TupT as'→Prop)×(TupT as'→r'.T)) :=
 if h:as_=as'∧r=r' then some (h.1 ▸ h.2 ▸ f) else none
theorem zR5 (as_:List Sh) (r:Sh) (f:(TupT as_→Prop)×(TupT as_→r.T)):tryFn as_ r as_ r f=some f:=by simp [tryFn]
def zF7 (E:Know) (s:AS) (as_:List Sh) (r:Sh):SV→Option ((TupT as_→Prop)×(TupT as_→r.T))
 | .one (.fnv as' r' q p)=>tryFn as' r' as_ r (q,p)
 | .one (.fn f caps)=>match E.K f with
  | some c=>if c.r.flat then match zBj s c.caps caps with
   | some y=>tryFn c.as_ c.r as_ r (c.q y,c.p y)
   | none=>none
   else none
  | none=>none
 | .one (.bnd f sh x)=>match E.K f with
  | some ⟨[],a::l,r',q,p⟩=>if r'.flat then match zAT sh a x with
   | some y=>tryFn l r' as_ r (fun z=>q () (y,z),fun z=>p () (y,z))
   | none=>none
   else none
  | _=>none
 | _=>none
def zUZ (as_:List Sh) (r:Sh):SV→Option ((TupT as_→Prop)×(TupT as_→r.T))
 | .one (.pfn as' r' q p)=>tryFn as' r' as_ r (q,p)
 | _=>none
def zO3:SV→Option Unit
 | .one (.raw (.pointer none))=>some ()
 | _=>none
def viewA (E:Know) (s:AS):(d:AD)→SV→Option d.T
 | .dat sh,v=>zDW s sh v
 | .ptr sh,v=>zEV s sh v
 | .fnc as_ r,v=>zF7 E s as_ r v
 | .pfn as_ r,v=>zUZ as_ r v
 | .lend,_=>none
 | .obj _,_=>none
 | .sdat _,_=>none
 | .nilp,v=>zO3 v
def zB6 (E:Know) (s:AS):(as_:List AD)→List SV→Option (TupA as_)
 | [],[]=>some ()
 | a::as_,v::vs=>match viewA E s a v,zB6 E s as_ vs with
  | some x,some y=>some (x,y)
  | _,_=>none
 | _,_=>none
def zAN:SV→Bool
 | .one (.val _ _)|.one .nils|.one (.raw _)|.one (.padr _ _)|.one (.fnv ..)|.one (.fn ..)|.one (.bnd ..)=>true
 | _=>false
def rid (d j:Nat):Nat:=d+1000*j
def zDS (d:Nat) (strict:Bool):Nat→List RV→List BV
 | _,[]=>[]
 | j,.val s x::rs=>(if strict || s.flat then .val s x else .any)::zDS d strict (j+1) rs
 | j,.own _::rs=>.ref (rid d j)::zDS d strict (j+1) rs
 | j,.nil::rs=>.nils::zDS d strict (j+1) rs
 | j,.raw v::rs=>.raw v::zDS d strict (j+1) rs
 | j,.ifc::rs=>.ifc::zDS d strict (j+1) rs
 | j,.any::rs=>.any::zDS d strict (j+1) rs
 | j,.obj _::rs=>.box (rid d j)::zDS d strict (j+1) rs
def zAS (d:Nat):Nat→List RV→List (Nat×Ob)
 | _,[]=>[]
 | j,.obj o::rs=>(rid d j,o)::zAS d (j+1) rs
 | j,_::rs=>zAS d (j+1) rs
def zAs (d:Nat):Nat→List RV→List (Nat×RC)
 | _,[]=>[]
 | j,.val _ _::rs=>zAs d (j+1) rs
 | j,.own rc::rs=>(rid d j,rc)::zAs d (j+1) rs
 | j,.nil::rs=>zAs d (j+1) rs
 | j,.raw _::rs=>zAs d (j+1) rs
 | j,.ifc::rs=>zAs d (j+1) rs
 | j,.any::rs=>zAs d (j+1) rs
 | j,.obj _::rs=>zAs d (j+1) rs
def zI1:List BV→SV
 | [b]=>.one b
 | bs=>.tup bs
def zJ2 (rs:List Nat) (b:BV):BV:=if (names b).any (fun r=>rs.elem r) then .any else b
def AS.setRoots (s:AS) (l:List (Nat×RC)):AS:={s with roots:=fun r=>match lk none (l.map fun p=>(p.1,some p.2)) r with
 | some rc=>some rc
 | none=>s.roots r}
def callE (E:Know) (nl:Nat) (s:AS) (dst:Option Tmp) (f:FuncId) (svs:List SV):Prop×AS×SV :=
 match E.T f with
 | some c=>match zB6 E s c.as_ svs with
  | some x=>match zAS (dst.getD 0) 0 (c.post x).res with
   | _::_=>badE s
   | []=>match zAs (dst.getD 0) 0 (c.post x).res with
    | []=>(c.pre x,s,zI1 (zDS (dst.getD 0) (svs.all zAN) 0 (c.post x).res))
    | l=>(c.pre x∧nl≤dst.getD 0,(s.map (zJ2 (l.map (·.1)))).setRoots l,zI1 (zDS (dst.getD 0) (svs.all zAN) 0 (c.post x).res))
  | none=>badE s
 | none=>badE s
def callV (s:AS) (svs:List SV) (as_:List Sh) (r:Sh) (q:TupT as_→Prop) (p:TupT as_→r.T):Prop×AS×SV :=
 match zCK s as_ svs with
 | some x=>(q x,s,.one (if svs.all zAN || r.flat then .val r (p x) else .any))
 | none=>badE s
end Go.VS
