import Derived.Test.YtekfodeknpnkbaaGreatDoorT5
import Derived.Test.YtekfodeknpnkbaaGreatDoorRows
import Derived.Test.YtekfodeknpnkbaaGreatDoorTie
import Derived.Test.YtekfodeknpnkbaaGreatDoorCards
import Derived.WalkKit
import Derived.ProofKit
import Derived.OpenShut
import Derived.ShutString
import Derived.ChangeOld
import Derived.Below
import Derived.Handed
import Derived.LaidMore
import Derived.LaidHandle
import Derived.Lay
import Derived.Lib.LaidTab
import Derived.Shelf.Vars
import Derived.SevenTiedAt
import Derived.Stop.Joined
set_option linter.unusedSimpArgs false
set_option linter.unusedVariables false
namespace Go.Proofs.YtekfodeknpnkbaaGreatDoor
open Go.RowKit Go.VS
theorem own:ownKnob Tryz.prog.godebug=none:=by kernel_rfl
theorem zA2:laidOutB Tryz.prog=true:=by kernel_rfl
theorem partsOK:tab.partsOK=true:=by kernel_rfl
abbrev laidL:List (String×DataW Unit):=Rows.houseOrdersRow.laid
abbrev laidD:List (String×DataW Unit) := [("math/bits.deBruijn32tab",Rows.laid_math_bits_deBruijn32tab), ("math/bits.deBruijn64tab",Rows.laid_math_bits_deBruijn64tab), ("internal/strconv.uint64pow10",Rows.laid_internal_strconv_uint64pow10), ("unicode/utf8.acceptRanges",Rows.laid_unicode_utf8_acceptRanges), ("strconv.ErrRange",Rows.laid_strconv_ErrRange), ("strconv.ErrSyntax",Rows.laid_strconv_ErrSyntax), ("unicode/utf8.first",Rows.laid_unicode_utf8_first)]
theorem zMr:(laidL.filter fun x=>x.2.handleName?.isSome) = [("errors.errorType",Rows.laid_errors_errorType)]:=by kernel_rfl
theorem zMq:(laidL.filter fun x=>x.2.handleName?.isNone)=laidD:=by kernel_rfl
theorem zLe {P:Program} {w:World}:∀ {l:List (String×DataW Unit)} {ps:List MemPlace},DataW.LaidVars P w l ps→∀ {n:String} {d:DataW Unit},(n,d)∈l →
 ∃ g t cs fuel p,P.globalNamed n=some g∧(P.globals[g]?).map (·.type)=some t∧w.var? P n=some cs∧DataW.trod (fun _=>()) P w 0 (fun _=>true) false fuel t cs.toList=some (d,p)
 | [],_,_,_,_,hm=>by cases hm
 | (n',d')::r,ps,h,n,d,hm=>by
  obtain ⟨g,t,cs,fuel,p,q,h1,h2,h3,h4,h5,_⟩:=h
  rcases List.mem_cons.1 hm with e|hm
  ·cases e
   exact ⟨g,t,cs,fuel,p,h1,h2,h3,h4⟩
  ·exact zLe h5 hm
theorem zGJ {P:Program} {w:World} {n:String} {g:Nat} {cs:Array Value} (hg:P.globalNamed n=some g) (h:w.var? P n=some cs):g<w.heap.size:=by
 simp only [World.var?,hg,Option.bind_some] at h
 split at h
 ·rename_i e
  exact (Array.getElem?_eq_some_iff.1 e).1
 ·cases h
theorem zTM:((begin Tryz.prog (fun _ _=>0) default).world.heap[1]?.bind Obj.row?).map (fun z=>(z.1.size,z.2))=some (1,3):=by kernel_rfl
theorem zPM {w:World} {n:String} {nm:String} {d:DataW Unit} {ti:TypeId} {ms:Array (String×TypeId)} (hi:Tryz.prog.underlying ti=some (.interface ms))
 (ht:((Tryz.prog.globalNamed n).bind fun g=>(Tryz.prog.globals[g]?).map (·.type))=some ti)
 (h:∃ g t cs fuel p,Tryz.prog.globalNamed n=some g∧(Tryz.prog.globals[g]?).map (·.type)=some t∧w.var? Tryz.prog n=some cs∧DataW.trod (fun _=>()) Tryz.prog w 0 (fun _=>true) false fuel t cs.toList=some (.iface nm d,p)) :
 ∃ t p,w.var? Tryz.prog n=some #[.iface t p]:=by
 obtain ⟨g,t,cs,fuel,p,h1,h2,h3,h4⟩:=h
 rw [h1,Option.bind_some,h2] at ht
 cases ht
 obtain ⟨_,u,v,e,_⟩:=iface_of_trod hi h4
 refine ⟨u,v,?_⟩
 rw [h3,Array.eq_one_of_toList e]
theorem zFk {w:World} (h:laidMetH Tryz.prog laidL w) (hsh:w.ShapedOpen Tryz.prog):Gd Tryz.prog w:=by
 unfold laidMetH at h
 rw [zMr,zMq] at h
 dsimp only at h
 obtain ⟨⟨ps,hv,_,_⟩,hh⟩:=h
 have hp:=zLe hv (n := "internal/strconv.uint64pow10") (d:=Rows.laid_internal_strconv_uint64pow10) (by simp)
 have hr:=zLe hv (n := "strconv.ErrRange") (d:=Rows.laid_strconv_ErrRange) (by simp)
 have hs:=zLe hv (n := "strconv.ErrSyntax") (d:=Rows.laid_strconv_ErrSyntax) (by simp)
 have ht:=hh _ (List.mem_singleton.2 rfl)
 have hpow:w.var? Tryz.prog "internal/strconv.uint64pow10"=some (Lib.pow10Tab.map fun z=>Value.int .u64 z).toArray:=by
  obtain ⟨g,t,cs,fuel,p,h1,h2,h3,h4⟩:=hp
  obtain rfl:=Option.some.inj ((show Tryz.prog.globalNamed "internal/strconv.uint64pow10"=some 4 by kernel_rfl).symm.trans h1)
  obtain rfl:=Option.some.inj ((show (Tryz.prog.globals[4]?).map (·.type)=some 274 by kernel_rfl).symm.trans h2)
  rw [h3,←Lib.cells_of_tab (k:=.u64) (zs:=Lib.pow10Tab) (n:=20) (e:=214) (by kernel_rfl) (by kernel_rfl) (by kernel_rfl) (by kernel_rfl) h4]
 have hms:=tabOK.lang.ifT 102 rfl
 have hrng:=zPM (w:=w) (n := "strconv.ErrRange") hms (by kernel_rfl) hr
 have hsyn:=zPM (w:=w) (n := "strconv.ErrSyntax") hms (by kernel_rfl) hs
 have hmax:∃ m,w.cell? ⟨1,0,none⟩=some (.int .i64 m):=by
  have:=zTM
  cases hz:((begin Tryz.prog (fun _ _=>0) default).world.heap[1]?).bind Obj.row? with
  | none=>rw [hz] at this; cases this
  | some z =>
   obtain ⟨zero,t⟩:=z
   rw [hz] at this
   simp only [Option.map_some,Option.some.injEq,Prod.mk.injEq] at this
   obtain ⟨hz1,rfl⟩:=this
   exact cell_of_shapedOpen_int hsh (of_decide_eq_true (by kernel_rfl)) hz hz1 (by kernel_rfl) (by kernel_rfl) (by kernel_rfl)
 have htyp:∃ u ty,(Tryz.prog.cutTypes.find? (·.1 == "internal/reflectlite.rtype")).map (·.2)=some u∧ty<Tryz.prog.types.size∧Tryz.prog.rowNamed ty [101,114,114,111,114]=true∧w.var? Tryz.prog "errors.errorType"=some #[.iface u (.agg #[typeHandle Tryz.prog ty])]:=by
  obtain ⟨name,u,ty,e1,e2,e3,e4,e5⟩:=ht
  obtain rfl:name=[101,114,114,111,114]:=(Option.some.inj e1).symm
  exact ⟨u,ty,e2,e3,e4,e5⟩
 refine ⟨fun n hn g hg=>?_,fun _ _=>hpow,fun _ _=>hsyn,fun _ _=>hrng,fun g hg=>?_,fun _ _=>htyp⟩
 ·simp only [zDN,List.mem_cons,List.mem_nil_iff,or_false] at hn
  rcases hn with rfl|rfl|rfl|rfl|rfl
  ·exact zGJ hg hpow
  ·obtain ⟨_,_,e⟩:=hsyn; exact zGJ hg e
  ·obtain ⟨_,_,e⟩:=hrng; exact zGJ hg e
  ·obtain rfl:=Option.some.inj ((show Tryz.prog.globalNamed "internal/bytealg.MaxLen"=some 1 by kernel_rfl).symm.trans hg)
   obtain ⟨m,hm⟩:=hmax
   exact World.block_lt_of_cell? w _ hm
  ·obtain ⟨_,_,_,_,_,e⟩:=htyp; exact zGJ hg e
 ·obtain rfl:=Option.some.inj ((show Tryz.prog.globalNamed "internal/bytealg.MaxLen"=some 1 by kernel_rfl).symm.trans hg)
  exact hmax
section
variable {H:Type} {enc:TypeId×Value→H}
theorem zBQ {a:Assume} {C:Checked} {os:Os} {f:FuncId} {fn:Func} {s:ChangeSpec} {conds:List PathCond} {apart fresh handsOn again:Bool} {X:World→Array Value→Prop}
 (hX:∀ (w w':World) (args:Array Value),w.heap=w'.heap→X w args→X w' args)
 (own:ownKnob C.prog.godebug=none) (started:os.Started) (noInit:C.prog.inits.idxOf? f=none) (hfn:C.prog.funcs[f]?=some fn)
 (witness:∃ (w:World) (tape:Tape) (i:Input),w.os=os∧(w.forCall tape i).Shaped C.prog∧i.vars=[]∧Input.okWide C.prog (w.forCall tape i) .any w.heap.size f i ∧
  ((s.pre enc C.prog fn conds apart (w.forCall tape i).memory i.args∧X (w.forCall tape i).memory i.args)∧sizedMet enc C.prog fn (OpenSpec.ofChange s) apart (w.forCall tape i).memory i.args)∧a.holds C.prog (lone (Frame.enter C.prog f i.args .normal) [] (w.forCall tape i)))
 (contract:∀ (W:World) (base:Nat) (args:Array Value) (ds gs:List (DataW H)) (before:List MemPlace),
  (∀ (j:Nat) t v,fn.params[j]?=some t→args[j]?=some v→Value.okWide C.prog W .any base t v) →
  DataW.Whole enc C.prog fn.params.toList s.vars apart W args.toList ds gs before→X W args→W.ShapedOpen C.prog →
  Calls C.prog f args W fun e W'=>∃ v,e=.returned v∧s.post enc C.prog fn apart fresh handsOn again W args v W') :
 ReturnsInHanded a C os f .any (fun w args=>(s.pre enc C.prog fn conds apart w args∧X w args)∧sizedMet enc C.prog fn (OpenSpec.ofChange s) apart w args) (s.post enc C.prog fn apart fresh handsOn again):=by
 refine returnsInHanded_of_calls own started noInit witness ?_
 intro w tape i _ hsh _ hok hpre hholds
 obtain ⟨_,_,_,fn',hfn',_,_,_,_,hval⟩:=hok
 have e:fn'=fn:=Option.some.inj (hfn'.symm.trans hfn)
 subst e
 obtain ⟨⟨⟨ds,gs,before,hw,hc⟩,hx⟩,hz⟩:=hpre
 have hw':=DataW.Whole.of_heap (w':=w.forCall tape i) (by rfl) hw
 refine (contract (w.forCall tape i) w.heap.size i.args ds gs before hval hw' (hX _ _ _ (by rfl) hx) hsh).mono fun e W' ⟨v,he,hp⟩=>?_
 subst he
 exact ChangeSpec.post_blind hp
end
noncomputable def handW (os:Os):World :=
 let w0:=World.holding Tryz.prog os ⟨#[],#[],[]⟩
 {w0 with heap:=w0.heap.modify 0 fun
  | .cells _ t frozen=>.cells #[.iface 230 (.agg #[typeHandle Tryz.prog 102])] t frozen
  | o=>o}
noncomputable def laidW (os:Os):World:=(handW os).layVars Tryz.prog laidD
theorem zDZ (os:Os):(laidW os).os=os:=World.layVars_os _ _ _
theorem zRc (os:Os):(handW os).layFits Tryz.prog laidD []=true:=by kernel_rfl
theorem zMp (os:Os):(handW os).layIfaces Tryz.prog laidD (laidW os)=true:=by kernel_rfl
theorem zRd (os:Os) (args:Array Value) : ([("errors.errorType",Rows.laid_errors_errorType)].all (handleAtB Tryz.prog ((laidW os).forCall (fun _ _=>0) ⟨#[],args,[]⟩).memory))=true:=by kernel_rfl
theorem zDb (os:Os) (args:Array Value):laidMetH Tryz.prog laidL ((laidW os).forCall (fun _ _=>0) ⟨#[],args,[]⟩).memory:=by
 refine laidMetH_of_parts ?_ (by rw [zMr]; exact zRd os args)
 rw [zMq]
 have e1:(laidD.filter fun x=>(laidD.map (·.1)).contains x.1)=laidD:=List.filter_eq_self.2 fun x hx=>List.contains_iff_mem.2 (List.mem_map.2 ⟨x,hx,rfl⟩)
 have e2:(laidD.filter fun x=>!(laidD.map (·.1)).contains x.1)=[]:=List.filter_eq_nil_iff.2 fun x hx=>by rw [List.contains_iff_mem.2 (List.mem_map.2 ⟨x,hx,rfl⟩)]; simp
 have h:laidMet Tryz.prog laidD (laidW os):=laidMet_layVars (w0:=handW os) (laidD.map (·.1)) [] (by rw [e1]; rfl) (by rw [e1]; exact zRc os) (by rw [e1]; exact zMp os) (by rw [e2]; exact LaidIn.none)
 exact h.of_heap (by simp [World.memory,World.forCall,Input.heap])
theorem zBN (os:Os) (args:Array Value):((laidW os).forCall (fun _ _=>0) ⟨#[],args,[]⟩).Shaped Tryz.prog:=World.shaped_of_ZipB (by kernel_rfl) (by kernel_rfl)
end Go.Proofs.YtekfodeknpnkbaaGreatDoor
