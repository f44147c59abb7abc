import Derived.Test.YtlgkplnifaoeeaaGreatDoorW6
import Derived.Tactics2
import Derived.Laws.CopyOwn
import Derived.Laws.Bits64b
import Derived.WalkKit
import Derived.Shelf.Utf8.RuneCount
import Derived.Shelf.Strconv.Atoi
import Derived.Shelf.Strconv.Itoa0
import Derived.Shelf.Strconv.Itoa1
import Derived.Shelf.LaysM
import Derived.Shelf.Strconv.Itoa2
import Derived.Shelf.Strconv.Itoa3
import Derived.Shelf.Strconv.AtoiErrFast
import Derived.Shelf.Strconv.ParseIntEmpty
import Derived.Shelf.Strconv.AtoiFail
import Derived.Shelf.Strconv.Clone
import Derived.Shelf.Strconv.SyntaxError
import Derived.Shelf.LaysC
import Derived.Shelf.Strconv.ToError
import Derived.Shelf.Strconv.Lower
import Derived.Shelf.Strconv.ParseUint10
import Derived.Shelf.Strconv.ParseUint10Empty
import Derived.Shelf.Strconv.ParseUint10Any
import Derived.Shelf.Strconv.ParseInt10
import Derived.Shelf.Strconv.AtoiLong
import Derived.Shelf.Strconv.AtoiInnerAll
import Derived.Shelf.Strconv.RangeError
import Derived.Shelf.Strconv.ToErrorRange
import Derived.Shelf.Strconv.AtoiAll
import Derived.Shelf.Strconv.ErrVarAll
import Derived.Shelf.Strconv.ParseUintEmpty
import Derived.Shelf.Strconv.ParseUint10b64
import Derived.Shelf.Strconv.ParseUint10b32
import Derived.Shelf.Strconv.ParseUint10b16
import Derived.Shelf.Strconv.ParseUint10b8
import Derived.Shelf.Strings.Search1
import Derived.Shelf.Strings.Search2
import Derived.Shelf.Strings.Search3
import Derived.Shelf.Strings.Cut
import Derived.Shelf.Strings.Count
import Derived.Shelf.Strings.Shaped
import Derived.Shelf.Strings.Prefix
import Derived.Shelf.Strings.Split
import Derived.Shelf.Strings.SplitShaped
import Derived.Shelf.Unicode.Decode
import Derived.Shelf.Strings.RuneCount
import Derived.Shelf.Strings.Explode
import Derived.Shelf.Bits.Mul64
import Derived.Shelf.Unicode.DecodeSlow
import Derived.Shelf.Unicode.DecodeAny
import Derived.Shelf.Slices.Turned
import Derived.Shelf.Slices.Equal
import Derived.Ground.Names2Prog
import Derived.Shelf.Slices.Clone
import Derived.Shelf.Slices.Empties2
import Derived.Ground.SlgnProg
import Derived.Shelf.SlicesE.Clone
import Derived.Test.YtlgkplnifaoeeaaGreatDoorProg
import Derived.Lib.AppendIntMem
import Derived.Lib.SmallJoins
import Derived.Lib.ConvBytes
import Derived.Lib.SplitLaws
import Derived.Lib.ItoaLen
set_option linter.unusedSimpArgs false
set_option linter.unusedVariables false
namespace Go.Proofs.YtlgkplnifaoeeaaGreatDoor
open Go.RowKit Go.VS
theorem zRb:FnSpec Tryz.prog 66 zXF:=by
 refine FnSpec.of_tri' (E:=know _ [] [] []) (zAl (kc zIP (kc zRN all_nil)) all_nil all_nil) Tryz.func66 rfl rfl (by kernel_rfl) ?_
 intro C x hE hnl hfit hpre
 simp only [Tryz.ntmps66,Tryz.results66,maxLen,seval,push_cast] at hnl hfit hpre ⊢
 obtain ⟨(p:List (List Int)),_⟩:=x
 dsimp only at hfit hpre ⊢
 rcases zFu p with he|he
 ·have hin:=zEd he
  replace hnl:=And.intro hnl he
  exact auB
 ·replace hnl:=And.intro hnl he
  exact auB
def okPic (l:List Int) (n:Int):Bool:=decide (1≤l.length∧l.length≤40) && l.all fun c=>decide (0≤c∧c<n∧c<5)
def cntV (c:Int) (l:List Int):Int:=(l.count c:Nat)
def palV (l:List Int) (n:Nat):List Int:=tbl n fun c=>cntV (c:Int) l
def zSR:Clo:=⟨[.int],[.int],.bool,fun _ _=>True,fun (y:Int×Unit) (x:Int×Unit)=>decide (x.1<0) || decide (min y.1 5≤x.1)⟩
attribute [push_cast] zSR
@[push_cast] def zWF:Con:=⟨[.dat .int,.ptr .int],fun _=>True,fun (x:Int×Int×Unit)=>{res:=[.val .bool (decide (x.1<0) || decide (min x.2.1 5≤x.1))]}⟩
@[push_cast] def zYf:Con:=⟨[.dat (.sl .int),.dat .int],fun _=>True,fun (x:List Int×Int×Unit)=>{res:=[.val .bool (okPic x.1 x.2.1)]}⟩
structure PalPre (l:List Int) (n:Int):Prop where
 num:0≤n∧n≤1000
 len:l.length≤1000
 at':∀ c∈l,0≤c∧c<n
@[push_cast] def zYd:Con:=⟨[.dat (.sl .int),.dat .int],fun (x:List Int×Int×Unit)=>PalPre x.1 x.2.1,fun (x:List Int×Int×Unit)=>{res:=[.own (.flat 3 .int (palV x.1 x.2.1.toNat))]}⟩
theorem zWG:FnSpec Tryz.prog 111 zWF:=by
 refine FnSpec.of_tri' (E:=know [] [] [] []) (zAl all_nil all_nil all_nil) Tryz.func111 rfl rfl (by kernel_rfl) ?_
 intro C x hE hnl hfit hpre
 simp only [Tryz.ntmps111,Tryz.results111,maxLen,seval,push_cast] at hnl hfit hpre ⊢
 obtain ⟨(c:Int),(n:Int),_⟩:=x
 dsimp only at hfit hpre ⊢
 repeat' (first|(refine goK (by assumption) ?_; iterate 4 (try clear hK K))|(refine zAc fun K hK=>?_)|((first|refine zAa hE rfl ?_|refine zAh ?_); simp +contextual only [hnl,↓kN,↓kP,↓kG,↓qN,↓qP,↓qG,push_cast,seval,reduceCtorEq,Int.cast_ofNat_Int])|(refine ⟨fun hc=>?_,fun hc=>?_⟩)|fail)
 all_goals first|omega|(simp only [decide_eq_decide]; omega)|(simp only [hc,decide_true,decide_false,Bool.true_or,Bool.false_or]; done)|(simp; done)|(simp; omega)|(simp [*]; done)|(simp [*]; omega)
theorem zSQ:CloSpec Tryz.prog 111 zSR:=CloSpec.of zWG
theorem zSA {l:List Int} {n:Int} (h:1≤l.length∧l.length≤40):(!l.any fun y=>decide (y<0) || decide (min n 5≤y))=okPic l n:=by
 unfold okPic
 rw [decide_eq_true h,Bool.true_and]
 induction l with
 | nil=>rfl
 | cons x l ih =>
  clear ih h
  generalize x::l=l
  induction l with
  | nil=>rfl
  | cons x l ih =>
   rw [List.any_cons,List.all_cons,Bool.not_or,ih]
   congr 1
   by_cases h1:x<0
   ·have h2:¬(0≤x∧x<n∧x<5):=by omega
    rw [decide_eq_true h1,decide_eq_false h2]; rfl
   ·by_cases h3:min n 5≤x
    ·have h2:¬(0≤x∧x<n∧x<5):=by omega
     rw [decide_eq_false h1,decide_eq_true h3,decide_eq_false h2]; rfl
    ·have h2:0≤x∧x<n∧x<5:=by omega
     rw [decide_eq_false h1,decide_eq_false h3,decide_eq_true h2]; rfl
theorem zSC {l:List Int} {n:Int} (h:¬(1≤l.length∧l.length≤40)):okPic l n=false:=by
 unfold okPic
 rw [decide_eq_false h]; rfl
theorem zSB {l:List Int} {n:Int}:okPic l n=true↔(1≤l.length∧l.length≤40)∧∀ c∈l,0≤c∧c<n∧c<5:=by
 simp only [okPic,Bool.and_eq_true,decide_eq_true_eq,List.all_eq_true]
theorem zUJ:FnSpec Tryz.prog 59 zYf:=by
 refine FnSpec.of_tri' (E:=know [(110,zCS)] [(111,zSR)] [] []) (zAl (all_cons zCB all_nil) (all_cons zSQ all_nil) all_nil) Tryz.func59 rfl rfl (by kernel_rfl) ?_
 intro C x hE hnl hfit hpre
 simp only [Tryz.ntmps59,Tryz.results59,maxLen,seval,push_cast] at hnl hfit hpre ⊢
 obtain ⟨(l:List Int),(n:Int),_⟩:=x
 dsimp only at hfit hpre ⊢
 repeat' (first|(refine goK (by assumption) ?_; iterate 4 (try clear hK K))|(refine zAc fun K hK=>?_)|((first|refine zAa hE rfl ?_|refine zAh ?_); simp +contextual only [hnl,↓kN,↓kP,↓kG,↓qN,↓qP,↓qG,push_cast,seval,reduceCtorEq,Int.cast_ofNat_Int])|(refine ⟨fun hc=>?_,fun hc=>?_⟩)|fail)
 all_goals first
  | exact zSA (by omega)
  | exact (zSC (by omega)).symm
theorem zIh (c:Int) {l:List Int} {k:Nat} (h:k<l.length):cntV c (l.take (k+1))=cntV c (l.take k)+if l.getD k 0=c then 1 else 0:=by
 unfold cntV
 rw [List.take_succ_eq_append_getElem h,List.count_append]
 rw [List.getD_eq_getElem?_getD,List.getElem?_eq_getElem h,Option.getD_some]
 simp only [List.count_singleton,beq_iff_eq]
 split<;>simp
theorem zNd (c:Int) (l:List Int):0≤cntV c l∧cntV c l≤l.length:=by
 unfold cntV
 have:=List.count_le_length (a:=c) (l:=l)
 omega
theorem zSK {l:List Int} {n k:Nat} (h:k<l.length) (hc:0≤l.getD k 0) :
 (palV (l.take k) n).set (l.getD k 0).toNat ((palV (l.take k) n).getD (l.getD k 0).toNat 0+1)=palV (l.take (k+1)) n:=by
 unfold palV
 rw [zFm]
 refine zAH fun i hi=>?_
 rw [zIh _ h]
 split
 ·rename_i e
  rw [←e,zBD _ _ hi,if_pos (by omega)]
 ·rename_i e
  rw [if_neg (by omega),Int.add_zero]
theorem zMf:FnSpec Tryz.prog 60 zYd:=by
 refine FnSpec.of_tri' (E:=know [] [] [] []) (zAl all_nil all_nil all_nil) Tryz.func60 rfl rfl (by kernel_rfl) ?_
 intro C x hE hnl hfit hpre
 simp only [Tryz.ntmps60,Tryz.results60,maxLen,seval,push_cast] at hnl hfit hpre ⊢
 obtain ⟨(l:List Int),(n:Int),_⟩:=x
 dsimp only at hfit hpre ⊢
 obtain ⟨⟨hn0,hn1⟩,hl,hat⟩:=hpre
 obtain ⟨m,rfl⟩:∃ m:Nat,n=m:=⟨n.toNat,by omega⟩
 repeat' (first|(refine goK (by assumption) ?_; iterate 4 (try clear hK K))|(refine zAc fun K hK=>?_)|(refine zAa hE rfl ?_; simp +contextual only [hnl,↓kN,↓kP,↓kG,↓qN,↓qP,↓qG,push_cast,seval,reduceCtorEq,Int.cast_ofNat_Int])|refine zAd ?_|refine andS ?_|fail)
 refine zAk (fun k:Nat=>AS.of [(0,.one (.val (.sl .int) l)),(5,.one (.ref 9)),(10,.one (.val (.sl .int) l)),(11,.I l.length),(12,.I k)] [(9,.flat 3 .int (palV (l.take k) m))] []) (fun k=>k≤l.length) (fun k=>l.length - k) 0 (Nat.zero_le _) ?_ ?_
 ·refine zAg ?_ ?_ ?_<;>simp only [push_cast,seval,reduceCtorEq,Int.cast_ofNat_Int]
  simp [palV,cntV,zGR]
 intro k hk K' hL
 by_cases hkl:k<l.length
 ·have h1:=hat _ (zAR 0 hkl)
  have h2:(l.getD k 0).toNat<m:=by omega
  have h3:(palV (l.take k) m).getD (l.getD k 0).toNat 0=cntV (l.getD k 0) (l.take k):=by
   unfold palV
   rw [zBD _ _ h2,Int.toNat_of_nonneg h1.1]
  have h4:=zNd (l.getD k 0) (l.take k)
  have h5:(l.take k).length≤1000:=by rw [List.length_take]; omega
  have h6:=zSK (n:=m) hkl h1.1
  have h7:(palV (l.take k) m).length=m:=zAZ _ _
  replace hnl:=And.intro hnl h7
  repeat' (first|(refine goK (by assumption) ?_; iterate 4 (try clear hK K))|(refine zAc fun K hK=>?_)|(refine zAa hE rfl ?_; simp +contextual only [hnl,↓kN,↓kP,↓kG,↓qN,↓qP,↓qG,push_cast,seval,reduceCtorEq,Int.cast_ofNat_Int])|refine zAd ?_|(refine zAf ?_; simp only [thenQ,zAi,if_true,if_false,Nat.reduceEqDiff,reduceCtorEq])|(refine zAe (by rfl) (fun hb=>?_) (fun hb=>?_)<;>(try simp only [bqa,bqb,bqc,bqd,reduceCtorEq,bqe,bqf] at hb)<;>(try omega))|refine andS ?_|fail)
  refine hL _ (k+1) (by omega) (by omega) ?_
  refine zAg ?_ ?_ ?_<;>simp only [push_cast,seval,reduceCtorEq,Int.cast_ofNat_Int]
  exact .inl (congrArg _ h6)
 ·obtain rfl:k=l.length:=by omega
  rw [List.take_length]
  exact auB
end Go.Proofs.YtlgkplnifaoeeaaGreatDoor
namespace Go.Proofs.YtlgkplnifaoeeaaGreatDoor
open Go.RowKit Go.VS
theorem yAq (n:Nat) (hn:n≤1000):bits .and .u64 (n:Int) 4294967295=n:=by
 have:=bits_and_u64_nat n 4294967295 (by omega) (by omega)
 rw [show ((4294967295:Nat):Int)=4294967295 from rfl] at this
 rw [this,show (4294967295:Nat)=2 ^ 32 - 1 from rfl,Nat.and_two_pow_sub_one_eq_mod,Nat.mod_eq_of_lt (by omega)]
theorem yAs (n:Nat) (hn:n≤1000) (w:World):Calls Tryz.prog 156 #[.int .u64 1,.int .u64 n] w fun e w'=>e=.returned (.tuple #[.int .u64 0,.int .u64 n])∧w'=w:=by
 have a1:bits .and .u64 1 4294967295=1:=yAq 1 (by omega)
 have a0:bits .and .u64 0 4294967295=0:=yAq 0 (by omega)
 have an:=yAq n hn
 have w0:IntKind.u64.wrap 0=0:=by decide
 have wn:IntKind.u64.wrap (n:Int)=n:=IntWalk.u64_in _ (by omega)
 have d1:(n:Int) / 4294967296=0:=by omega
 go_enter Tryz.func156,Tryz.ntmps156
 go_wp2
 simp [bodyPost,results,Tryz.results156,go_sem,a1,a0,an,w0,wn,d1]
theorem mul_one (n:Nat) (hn:n≤1000) (w:World):Calls Tryz.prog 114 #[.int .u64 1,.int .u64 n] w fun e w'=>e=.returned (.tuple #[.int .u64 0,.int .u64 n])∧w'=w:=by
 go_enter Tryz.func114,Tryz.ntmps114
 go_wp2_with (go_at_call 156; refine (yAs n hn _).mono ?_; rintro e w' ⟨rfl,rfl⟩)
 simp [bodyPost,results,Tryz.results114,go_sem]
set_option maxRecDepth 20000 in
theorem yAr (v:Int) (n:Nat) (hn:n≤1000) (w:World) (b off cap:Nat) (hx:w.cell? ⟨b,off,none⟩=some (.int .i64 v)) (hlt:b<w.heap.size) :
 Calls Tryz.prog 68 #[.slice (some ⟨b,off,none⟩) 1 cap,.int .i64 n] w fun e w' =>
  e=.returned (.slice (some ⟨w.heap.size,0,none⟩) n n)∧w'.heap[w.heap.size]?=some (.cells (List.replicate n (.int .i64 v)).toArray 3 (0,0))∧Below w.heap.size w w':=by
 have wn:IntKind.u64.wrap (n:Int)=n:=IntWalk.u64_in _ (by omega)
 have wi:IntKind.i64.wrap (n:Int)=n:=IntWalk.i64_in _ (by omega)
 have w1:IntKind.u64.wrap 1=1:=by decide
 have hmk:∀ w:World,(Instr.makeSlice 25 (.int .i64 n) (.int .i64 n)).run Tryz.prog w=.ok (.slice (some ⟨w.heap.size,0,none⟩) n n) (w.alloc (.cells (List.replicate n (Value.int .i64 0)).toArray 3)):=fun w=>by
  obtain ⟨i,z,hi,hs,hby,hz,hzc⟩:=tabOK.lang.info 3 .int shI
  have h1:=Nat.mul_le_mul hn hby
  have h2:((n*i.bytes:Nat):Int)≤1024000:=by omega
  rw [Int.natCast_mul] at h2
  have h3:(i.bytes:Int)*(n:Int)≤281474976710656:=by rw [Int.mul_comm]; omega
  have h4:=run_makeSlice (P:=Tryz.prog) (w:=w) 25 3 i z Tryz.underlying25 hi hz .i64 .i64 n n (by omega) (by omega) (by rw [Int.toNat_natCast,show i.size=1 from hs]; omega) h3 (by omega)
  rw [Int.toNat_natCast,show i.size=1 from hs,Nat.mul_one] at h4
  rw [h4]
  have hz':z.cells.toList=[Value.int .i64 0]:=hzc
  have h5:=zEi (sh:=.int) z.cells hz' (by decide) n
  have h6:(List.replicate n (Sh.int).zero).flatMap (Sh.int).cells=List.replicate n (Value.int .i64 0):=by rw [List.flatMap_replicate]; simp [Sh.cells,Sh.zero]
  rw [h6,show (Sh.int).size=1 from rfl,Nat.mul_one] at h5
  rw [show madeCells z.cells n=(List.replicate n (Value.int .i64 0)).toArray from by rw [←Array.toList_inj,h5]]
 go_enter Tryz.func68,Tryz.ntmps68
 have hsz:(Tryz.prog.info? 3).map (·.size)=some 1:=by
  obtain ⟨i,z,hi,hs,_⟩:=tabOK.lang.info 3 .int shI
  rw [hi]
  exact congrArg some hs
 obtain ⟨W,hW⟩:∃ W,W=w.alloc (.cells (List.replicate n (Value.int .i64 0)).toArray 3):=⟨_,rfl⟩
 have hWg:W.heap[w.heap.size]?=some (.cells (List.replicate n (Value.int .i64 0)).toArray 3 (0,0)):=by rw [hW]; simp only [World.alloc,Array.getElem?_push,if_true]
 have hWb:Below w.heap.size w W:=by rw [hW]; exact (Below.refl _ _).alloc (Nat.le_refl _) _
 have hWx:W.cell? ⟨b,off,none⟩=some (.int .i64 v):=by
  rw [←hx]
  exact World.cell?_of_block (hWb.block b hlt)
 have hWz:W.heap.size=w.heap.size+1:=by rw [hW]; simp only [World.alloc,Array.size_push]
 replace hmk:=hmk w
 rw [←hW] at hmk
 clear hW
 go_wp2_with (first|(go_at_call 114; refine (mul_one n hn _).mono ?_; rintro e w' ⟨rfl,hw'⟩; rw [hw']; clear hw')|(show wpList _ _ _ (⟨some 33,_,_,_,_,_⟩::_) _ _; go_loud (refine wpList_copy_splice rfl _ _ _ _ rfl 3 Tryz.underlying25 hsz _ _ _ _ _ _ rfl rfl w.heap.size 0 (List.replicate n (Value.int .i64 0)) 3 hWg (List.replicate (Nat.min 1 n) (.int .i64 v)) ?c1 ?c2 ?c3 ?c4 w.heap.size w hWb (Nat.le_refl _) ?_)))
 case c1=>simp
 case c2 =>
  intro _ j u hj
  have hj':=(List.getElem?_eq_some_iff.1 hj).1
  rw [List.length_replicate] at hj'
  have hm1:Nat.min 1 n≤1:=Nat.min_le_left _ _
  obtain rfl:j=0:=by omega
  have:u=.int .i64 v:=by simpa using (List.mem_replicate.1 (List.mem_of_getElem? hj)).2
  rw [this]
  exact hWx
 case c3 =>
  rw [List.length_replicate,List.length_replicate,Nat.zero_add]
  exact Nat.min_le_right _ _
 case c4 =>
  intro u hu
  rw [(List.mem_replicate.1 hu).2]
  rfl
 ·intro w1 hc1 hb1
  go_wp2
  go_loopw [8] (fun y wr=>∃ m:Nat,m≤n∧(m=0→n=0)∧y=.int .i64 m∧wr.heap[w.heap.size]?=some (.cells (List.replicate m (Value.int .i64 v)++List.replicate (n - m) (Value.int .i64 0)).toArray 3 (0,0))∧Below w.heap.size w wr) (fun y _=>n - (intOf y).toNat)
  case atStart =>
   have hc1':w1.heap[w.heap.size]?=some (.cells (splice (List.replicate n (Value.int .i64 0)) 0 (List.replicate (Nat.min 1 n) (Value.int .i64 v))).toArray 3 (0,0)):=hc1
   have hm1:Nat.min 1 n≤1:=Nat.min_le_left _ _
   have hm2:Nat.min 1 n≤n:=Nat.min_le_right _ _
   refine ⟨Nat.min 1 n,hm2,fun h=>?_,rfl,?_,hb1⟩
   ·rcases Nat.eq_zero_or_pos n with h0|h0
    ·exact h0
    ·rw [show Nat.min 1 n=1 from Nat.min_eq_left h0] at h
     omega
   ·rw [hc1']
    congr 2
    simp [splice]
  case round =>
   obtain ⟨m,hm,hm0,rfl,hcm,hbm⟩:=hrel
   rcases Nat.lt_or_ge m n with hmn|hmn
   ·have hcp:=run_copy_row (P:=Tryz.prog) wr.drew 25 25 3 3 w.heap.size m (n - m) (n - m) ⟨w.heap.size,0,none⟩ m n (List.replicate m (Value.int .i64 v)++List.replicate (n - m) (Value.int .i64 0)).toArray 3 (List.replicate (Nat.min m (n - m)) (Value.int .i64 v)) Tryz.underlying25 hsz hcm
    obtain ⟨k,hk⟩:∃ k,k=Nat.min m (n - m):=⟨_,rfl⟩
    have hk1:k≤m:=by rw [hk]; exact Nat.min_le_left _ _
    have hk2:k≤n - m:=by rw [hk]; exact Nat.min_le_right _ _
    have hk0:0<k:=by
     rw [hk]
     exact Nat.lt_min.2 ⟨by omega,by omega⟩
    rw [←hk] at hcp
    replace hcp:=hcp (by simp) (fun j u hj=>by
     have hj':=(List.getElem?_eq_some_iff.1 hj).1
     rw [List.length_replicate] at hj'
     have hu:u=.int .i64 v:=(List.mem_replicate.1 (List.mem_of_getElem? hj)).2
     rw [hu]
     rw [Addr.add_lit]
     have hcm':wr.drew.heap[w.heap.size]?=some (.cells (List.replicate m (Value.int .i64 v)++List.replicate (n - m) (Value.int .i64 0)).toArray 3 (0,0)):=hcm
     simp [World.cell?,hcm',List.getElem?_append_left,show j<m by omega,List.getElem?_replicate]) (by simp; omega) (fun u hu=>by rw [(List.mem_replicate.1 hu).2]; rfl)
    obtain ⟨W2,hW2⟩:∃ W2,W2=wr.drew.setRow w.heap.size (((List.replicate m (Value.int .i64 v)++List.replicate (n - m) (Value.int .i64 0)).toArray.toList.take m++List.replicate k (Value.int .i64 v)++(List.replicate m (Value.int .i64 v)++List.replicate (n - m) (Value.int .i64 0)).toArray.toList.drop (m+(List.replicate k (Value.int .i64 v)).length)).toArray):=⟨_,rfl⟩
    rw [←hW2] at hcp
    have hc2:W2.heap[w.heap.size]?=some (.cells (List.replicate (m+k) (Value.int .i64 v)++List.replicate (n - (m+k)) (Value.int .i64 0)).toArray 3 (0,0)):=by
     rw [hW2,setRow_heap wr.drew w.heap.size _ _ 3 _ hcm]
     congr 3
     rw [List.toList_toArray,List.length_replicate,List.take_append_of_le_length (by simp),List.take_of_length_le (by simp),List.drop_append,List.drop_eq_nil_of_le (by simp),List.length_replicate,List.drop_replicate,List.nil_append,List.replicate_append_replicate]
     congr 2
     omega
    have hb2:Below w.heap.size w W2:=by rw [hW2]; exact below_setRow hbm.drew (Nat.le_refl _) _
    have hlen:(List.replicate k (Value.int .i64 v)).length=k:=List.length_replicate
    rw [hlen] at hcp
    clear hW2 hc1 hk
    have hne:¬n=m:=by omega
    have wk:IntKind.i64.wrap ((m:Int)+(k:Int))=((m+k:Nat):Int):=by rw [show (m:Int)+(k:Int)=((m+k:Nat):Int) by omega]; exact IntWalk.i64_in _ (by omega)
    have hmn':(m:Int)<(n:Int):=by omega
    have hmn2:(m:Int)≤(n:Int):=by omega
    go_wp2
    go_region
    go_wp2
    go_roundw
    case rel=>exact ⟨m+k,by omega,by omega,rfl,hc2,hb2⟩
    case measure =>
     show n - (((m+k:Nat):Int)).toNat<n - ((m:Int)).toNat
     omega
   ·obtain rfl:m=n:=by omega
    go_wp2
    simp [bodyPost,results,Tryz.results68,go_sem]
    exact ⟨by simpa using hcm,hbm⟩
structure RepPre (l:List Int) (n:Int):Prop where
 len:l.length=1
 num:0≤n∧n≤1000
@[push_cast] def zYi:Con:=⟨[.dat (.sl .int),.dat .int],fun (x:List Int×Int×Unit)=>RepPre x.1 x.2.1,fun (x:List Int×Int×Unit)=>{res:=[.val (.sl .int) (List.replicate x.2.1.toNat (x.1.getD 0 0))]}⟩
theorem zNU:FnSpec Tryz.prog 68 zYi:=by
 refine ⟨⟨_,Tryz.func68,by kernel_rfl,rfl⟩,fun C γ x vs hpre hen=>?_⟩
 have hargs:=hen.args
 have hlt:=hen.ownlt
 obtain ⟨(l:List Int),(n:Int),_⟩:=x
 obtain ⟨hl,hn0,hn1⟩:=hpre
 dsimp only at hl hn0 hn1
 obtain ⟨v,rfl⟩:∃ v,l=[v]:=by
  match l,hl with
  | [v],_=>exact ⟨v,rfl⟩
 obtain ⟨k,rfl⟩:∃ k:Nat,n=k:=⟨n.toNat,by omega⟩
 obtain ⟨v0,_,rfl,h0,v1,_,rfl,h1,rfl⟩:=hargs
 obtain ⟨cs,⟨ad,cap,rfl,hc,hm,hall⟩,hv0⟩:=h0
 obtain ⟨b,off,c,rfl,hz,hbb,hp,hcell⟩:=hall 0 (by simp)
 have hp':c=[.int .i64 v]:=hp
 subst hp'
 have hcl:C.w0.cell? ⟨b,off,none⟩=some (.int .i64 v):=by simpa using hcell 0 _ rfl
 have e0:v0=.slice (some ⟨b,off,none⟩) 1 cap:=hv0
 have e1:v1=.int .i64 (k:Int):=zAF h1
 subst e0 e1
 show Calls _ _ #[.slice (some ⟨b,off,none⟩) 1 cap,.int .i64 (k:Int)] C.w0 _
 refine (yAr v k (by omega) C.w0 b off cap hcl hbb).mono ?_
 rintro e w2 ⟨rfl,hheap,hbel⟩
 refine ⟨_,γ,rfl,⟨⟨[],[],[_],rfl,⟨_,[],rfl,?_,rfl,rfl,rfl⟩,List.nodup_nil,List.nodup_nil⟩,fun p hp=>(by cases hp),fun p hp=>(by cases hp),fun b l hb=>Nat.lt_of_lt_of_le (hlt b l hb) hbel.size⟩,⟨hbel.os,hbel.tape,hbel.output,hbel.size,fun b hb _=>hbel.block b hb⟩⟩
 have hfm:(List.replicate k v).flatMap (Sh.int).cells=List.replicate k (Value.int .i64 v):=by rw [List.flatMap_replicate]; simp [Sh.cells]
 have hlt2:=(Array.getElem?_eq_some_iff.1 hheap).1
 have hno:γ.own C.w0.heap.size=none:=by
  cases ho:γ.own C.w0.heap.size with
  | none=>rfl
  | some l=>have:=hlt _ l ho; omega
 refine ⟨[.slice (some ⟨C.w0.heap.size,0,none⟩) k k],zBg (e:=3) (sh:=.int) rfl ?_ (fun g hg=>?_),rfl⟩
 ·show w2.ownsRow 0 _ 1 _ (List.replicate (Int.toNat (k:Int)) v).length ((List.replicate (Int.toNat (k:Int)) v).flatMap (Sh.int).cells)
  rw [Int.toNat_natCast,hfm,List.length_replicate]
  exact ⟨by simp,.inr ⟨C.w0.heap.size,k,_,rfl,Nat.zero_le _,hheap,Nat.le_refl _,by unfold maxLen; omega,by simp,by simp⟩⟩
 ·simp only [Value.ownBlock,Option.some.injEq] at hg
  subst hg
  exact ⟨.inr (.inl (Nat.le_refl _)),hno⟩
end Go.Proofs.YtlgkplnifaoeeaaGreatDoor
namespace Go.Proofs.YtlgkplnifaoeeaaGreatDoor
open Go.RowKit Go.VS
def sprK (r:List Int) (k:Nat):List Int:=(List.range k).flatMap fun j=>List.replicate (r.getD j 0).toNat (j:Int)
def spr (r:List Int):List Int:=sprK r r.length
theorem zTc (r:List Int):sprK r 0=[]:=rfl
theorem zMC (r:List Int) (k:Nat):sprK r (k+1)=sprK r k++List.replicate (r.getD k 0).toNat (k:Int):=by
 simp [sprK,List.range_succ]
theorem zLe {r:List Int} (h:∀ x∈r,0≤x):∀ {k:Nat},k≤r.length→((sprK r k).length:Int)=lsum (r.take k)
 | 0,_=>by simp [zTc,lsum]
 | k+1,hk=>by
  rw [zMC,zB6 r k (by omega),List.length_append,List.length_replicate,←zLe h (k:=k) (by omega)]
  have:=h _ (zAR 0 (show k<r.length by omega))
  omega
def pixV (l:List Int) (p:List (List Int)) (k:Nat):Int:=(spr (p.getD (l.getD k 0).toNat [])).getD (cntV (l.getD k 0) (l.take k)).toNat 0
def zSJ (l:List Int) (p:List (List Int)):List Int:=tbl l.length (pixV l p)
def restV (l:List Int) (p:List (List Int)) (k:Nat):List (List Int):=tbl p.length fun c=>(spr (p.getD c [])).drop (cntV (c:Int) (l.take k)).toNat
def colV (p:List (List Int)) (i j:Nat):List (List Int):=tbl p.length fun c=>if c<i then spr (p.getD c []) else if c=i then sprK (p.getD i []) j else []
def zCD (l:List Int) (p:List (List Int)):Int:=if zAW p=0 then if okPic l p.length=true then if rowsP p=palV l p.length then 0 else 5 else 1 else 1
@[push_cast] def zUH:Con:=⟨[.dat (.sl .int),.dat (.sl (.sl .int))],fun _=>True,fun (x:List Int×List (List Int)×Unit) =>
 {res:=[.own (.flat 3 .int (if zCD x.1 x.2.1=0 then zSJ x.1 x.2.1 else [])),.val .int (zCD x.1 x.2.1)]}⟩
section
variable {l:List Int} {p:List (List Int)} {i j k:Nat}
theorem zPP (h:zAW p=1):zCD l p=1:=by simp [zCD,h]
theorem zPQ (h:zAW p=0) (h2:okPic l p.length=false):zCD l p=1:=by simp [zCD,h,h2]
theorem zPR (h:zAW p=0) (h2:okPic l p.length=true) (h3:¬rowsP p=palV l p.length):zCD l p=5:=by simp [zCD,h,h2,h3]
theorem zPO (h:zAW p=0) (h2:okPic l p.length=true) (h3:rowsP p=palV l p.length):zCD l p=0:=by simp [zCD,h,h2,h3]
theorem zTI:(colV p i j).length=p.length:=zAZ _ _
theorem zVU (hi:i<p.length):(colV p i j).getD i []=sprK (p.getD i []) j:=by
 unfold colV
 rw [zBD _ _ hi,if_neg (Nat.lt_irrefl _),if_pos rfl]
theorem zRA:colV p 0 0=List.replicate p.length []:=by
 unfold colV
 rw [←zGR]
 refine zAH fun c hc=>?_
 rw [if_neg (Nat.not_lt_zero _)]
 split<;>rfl
theorem zTJ (hi:i<p.length):(colV p i j).set i (sprK (p.getD i []) j++List.replicate ((p.getD i []).getD j 0).toNat (j:Int))=colV p i (j+1):=by
 unfold colV
 rw [zFm]
 refine zAH fun c hc=>?_
 by_cases h:c=i
 ·subst h
  rw [if_pos rfl,if_neg (Nat.lt_irrefl _),if_pos rfl,zMC]
 ·rw [if_neg h,if_neg h,if_neg h]
theorem zRz (hi:i<p.length):colV p i (p.getD i []).length=colV p (i+1) 0:=by
 unfold colV
 refine zAH fun c hc=>?_
 by_cases h:c=i
 ·subst h
  rw [if_neg (Nat.lt_irrefl _),if_pos rfl,if_pos (Nat.lt_succ_self _)]; rfl
 ·by_cases h2:c<i
  ·rw [if_pos h2,if_pos (by omega)]
  ·rw [if_neg h2,if_neg h,if_neg (by omega)]
   split<;>rfl
theorem zQJ:colV p p.length 0=restV l p 0:=by
 unfold colV restV
 refine zAH fun c hc=>?_
 rw [if_pos hc]
 rfl
theorem zS3:(restV l p k).length=p.length:=zAZ _ _
theorem zUU (h:(l.getD k 0).toNat<p.length) (h0:0≤l.getD k 0):(restV l p k).getD (l.getD k 0).toNat []=(spr (p.getD (l.getD k 0).toNat [])).drop (cntV (l.getD k 0) (l.take k)).toNat:=by
 unfold restV
 rw [zBD _ _ h,Int.toNat_of_nonneg h0]
theorem zS4 (hk:k<l.length) (h0:0≤l.getD k 0):(restV l p k).set (l.getD k 0).toNat (((spr (p.getD (l.getD k 0).toNat [])).drop (cntV (l.getD k 0) (l.take k)).toNat).drop 1)=restV l p (k+1):=by
 unfold restV
 rw [zFm]
 refine zAH fun c hc=>?_
 rw [zIh _ hk]
 have:=zNd (l.getD k 0) (l.take k)
 split
 ·rename_i e
  rw [e,if_pos (by omega),List.drop_drop,Int.toNat_of_nonneg h0]
  congr 1
 ·rename_i e
  rw [if_neg (by omega),Int.add_zero]
end
theorem zLv (c:Int) (l:List Int) (k:Nat):cntV c (l.take k)≤cntV c l:=by
 unfold cntV
 have:(l.take k).count c≤l.count c:=List.Sublist.count_le _ (List.take_sublist k l)
 omega
theorem zWW {p:List (List Int)} (hin:InPlan p) {i:Nat} (hi:i<p.length):((spr (p.getD i [])).length:Int)=lsum (p.getD i []):=by
 have h:=zLe (r:=p.getD i []) (fun x hx=>by
  obtain ⟨k,hk,rfl⟩:=List.getElem_of_mem hx
  have:=hin.at hi (show k<wid p by rw [←hin.row hi]; exact hk)
  rw [List.getD_eq_getElem?_getD (l:=p.getD i []),List.getElem?_eq_getElem hk] at this
  exact this.1) (Nat.le_refl _)
 rw [List.take_length] at h
 exact h
theorem zWT {l:List Int} {p:List (List Int)} (h:rowsP p=palV l p.length) {i:Nat} (hi:i<p.length):lsum (p.getD i [])=cntV (i:Int) l:=by
 have h1:=congrArg (fun x=>x.getD i 0) h
 simp only [palV,zBD _ _ hi] at h1
 rw [←h1,rowsP,List.getD_eq_getElem?_getD,List.getD_eq_getElem?_getD,List.getElem?_map,List.getElem?_eq_getElem hi]
 rfl
set_option maxRecDepth 10000 in
theorem zQy:FnSpec Tryz.prog 25 zUH:=by
 refine FnSpec.of_tri' (E:=know _ [] [] []) (zAl (kc zIP (kc zUJ (kc zRb (kc zMf (kc zG0 (kc zNU all_nil)))))) all_nil all_nil) Tryz.func25 rfl rfl (by kernel_rfl) ?_
 intro C x hE hnl hfit hpre
 simp only [Tryz.ntmps25,Tryz.results25,maxLen,seval,push_cast] at hnl hfit hpre ⊢
 obtain ⟨(l:List Int),(p:List (List Int)),_⟩:=x
 dsimp only at hfit hpre ⊢
 rcases zFu p with he|he
 rotate_left
 ·replace hnl:=And.intro hnl (And.intro he (zPP (l:=l) he))
  exact auB
 have hin:=zEd he
 cases hpi:okPic l p.length with
 | false =>
  replace hnl:=And.intro hnl (And.intro he (And.intro hpi (zPQ he hpi)))
  exact auB
 | true =>
 obtain ⟨⟨g1,g2⟩,g3⟩:=zSB.1 hpi
 have hp:PalPre l p.length:=⟨by have:=hin.rows; omega,by omega,fun c hc=>by have:=g3 c hc; omega⟩
 by_cases hrw:rowsP p=palV l p.length
 rotate_left
 ·replace hnl:=And.intro hnl (And.intro he (And.intro hpi (And.intro (zPR he hpi hrw) (And.intro (eq_true hp) (eq_false hrw)))))
  exact auB
 have hz:=zPO he hpi hrw
 have hrows:=hin.rows
 have hcols:=hin.cols
 replace hnl:=And.intro hnl (And.intro he (And.intro hpi (And.intro hz (And.intro (eq_true hp) (eq_true hrw)))))
 repeat' (first|(refine goK (by assumption) ?_; iterate 4 (try clear hK K))|(refine zAc fun K hK=>?_)|(refine zAa hE rfl ?_; simp +contextual only [hnl,↓kN,↓kP,↓kG,↓qN,↓qP,↓qG,push_cast,seval,reduceCtorEq,Int.cast_ofNat_Int])|refine zAd ?_|(refine zAf ?_; simp only [thenQ,zAi,if_true,if_false,Nat.reduceEqDiff,reduceCtorEq])|(refine zAe (by rfl) (fun hb=>?_) (fun hb=>?_)<;>(try simp only [bqa,bqb,bqc,bqd,reduceCtorEq,bqe,bqf] at hb)<;>(try omega))|refine andS ?_|fail)
 refine zAk (fun i:Nat=>AS.of [(0,.one (.val (.sl .int) l)),(10,.one (.ref 43)),(44,.one (.val (.sl (.sl .int)) p)),(45,.I p.length),(46,.I i)] [(43,.deep 25 3 .int (colV p i 0))] []) (fun i=>i≤p.length) (fun i=>p.length - i) 0 (Nat.zero_le _) ?_ ?_
 ·refine zAg ?_ ?_ ?_<;>simp only [push_cast,seval,reduceCtorEq,Int.cast_ofNat_Int]
  exact .inl (by rw [zRA])
 intro i hi K' hL
 by_cases hil:i<p.length
 ·have hw:=hin.row hil
  have hat:=fun j (hj:j<(p.getD i []).length)=>hin.at hil (show j<wid p by omega)
  repeat' (first|(refine goK (by assumption) ?_; iterate 4 (try clear hK K))|(refine zAc fun K hK=>?_)|(refine zAa hE rfl ?_; simp +contextual only [hnl,↓kN,↓kP,↓kG,↓qN,↓qP,↓qG,push_cast,seval,reduceCtorEq,Int.cast_ofNat_Int])|refine zAd ?_|(refine zAf ?_; simp only [thenQ,zAi,if_true,if_false,Nat.reduceEqDiff,reduceCtorEq])|(refine zAe (by rfl) (fun hb=>?_) (fun hb=>?_)<;>(try simp only [bqa,bqb,bqc,bqd,reduceCtorEq,bqe,bqf] at hb)<;>(try omega))|refine andS ?_|fail)
  refine zAk (fun j:Nat=>AS.of [(0,.one (.val (.sl .int) l)),(10,.one (.ref 43)),(11,.I i),(44,.one (.val (.sl (.sl .int)) p)),(45,.I p.length),(46,.I i),(51,.one (.val (.sl .int) (p.getD i []))),(52,.I (p.getD i []).length),(53,.I j)] [(43,.deep 25 3 .int (colV p i j))] []) (fun j=>j≤(p.getD i []).length) (fun j=>(p.getD i []).length - j) 0 (Nat.zero_le _) ?_ ?_
  ·refine zAg ?_ ?_ ?_<;>simp only [push_cast,seval,reduceCtorEq,Int.cast_ofNat_Int]
  intro j hj K'' hL2
  by_cases hjl:j<(p.getD i []).length
  ·have h1:=hat j hjl
   have hr:RepPre [(j:Int)] ((p.getD i []).getD j 0):=⟨rfl,by omega⟩
   have h2:(colV p i j).length=p.length:=zTI
   have h3:=zVU (p:=p) (j:=j) hil
   replace hnl:=And.intro hnl (And.intro h2 (And.intro h3 (eq_true hr)))
   have h4:=hin.sumR hil j
   have h5:((sprK (p.getD i []) j).length:Int)=lsum ((p.getD i []).take j):=zLe (fun x hx=>by obtain ⟨k,hk,rfl⟩:=List.getElem_of_mem hx; have:=hat k hk; rw [List.getD_eq_getElem?_getD,List.getElem?_eq_getElem hk] at this; exact this.1) hj
   have h6:=zTJ (p:=p) (j:=j) hil
   repeat' (first|(refine zET hE 3 [0,1] rfl (by decide +kernel) ?_; simp only [List.length_cons,List.length_nil,Nat.reduceAdd,Nat.reduceSub,List.take_succ_cons,List.take_zero,List.drop_succ_cons,List.drop_zero,pickM,headM,List.filterMap_cons,List.filterMap_nil,List.getElem?_cons_zero,List.getElem?_cons_succ,List.contains_cons,List.contains_nil,Nat.reduceBEq,Bool.or_false,Bool.false_or,Bool.true_or,Bool.or_true,if_true,Bool.false_eq_true,if_false,List.cons_append,List.nil_append]; simp +contextual only [hnl,↓kN,↓kP,↓kG,↓qN,↓qP,↓qG,push_cast,seval,reduceCtorEq,Int.cast_ofNat_Int])|(first|(refine goK (by assumption) ?_; iterate 4 (try clear hK K))|(refine zAc fun K hK=>?_)|((first|refine zAa hE rfl ?_|refine zAh ?_|((first|refine zAb hE 1 rfl rfl (by kernel_rfl) ?_|refine zAb hE 2 rfl rfl (by kernel_rfl) ?_|refine zAb hE 3 rfl rfl (by kernel_rfl) ?_|refine zAb hE 4 rfl rfl (by kernel_rfl) ?_); simp only [List.length_cons,List.length_nil,Nat.reduceAdd,Nat.reduceSub,List.take_succ_cons,List.take_zero,List.drop_succ_cons,List.drop_zero])); simp +contextual only [hnl,↓kN,↓kP,↓kG,↓qN,↓qP,↓qG,push_cast,seval,reduceCtorEq,Int.cast_ofNat_Int])|refine zAd ?_|((first|refine zAf ?_|refine zAj ?_); simp only [thenQ,zAi,if_true,if_false,Nat.reduceEqDiff,reduceCtorEq])|(refine zAe (by rfl) (fun hb=>?_) (fun hb=>?_)<;>(try simp only [bqa,bqb,bqc,bqd,reduceCtorEq,bqe,bqf] at hb)<;>(try omega))|refine zAm (by rfl) ?_ ?_|refine andS ?_|(refine ⟨fun hc=>?_,fun hc=>?_⟩)|(intro hc; try omega)))
   refine ⟨⟨hil,by omega,by rw [List.length_replicate]; omega⟩,?_⟩
   repeat' (first|(refine goK (by assumption) ?_; iterate 4 (try clear hK K))|(refine zAa hE rfl ?_; simp +contextual only [hnl,↓kN,↓kP,↓kG,↓qN,↓qP,↓qG,push_cast,seval,reduceCtorEq,Int.cast_ofNat_Int])|refine andS ?_|fail)
   refine hL2 _ (j+1) (by omega) (by omega) ?_
   refine zAg ?_ ?_ ?_<;>simp only [push_cast,seval,reduceCtorEq,Int.cast_ofNat_Int]
   exact .inl (by rw [h6])
  ·obtain rfl:j=(p.getD i []).length:=by omega
   rw [zRz hil]
   repeat' (first|(refine goK (by assumption) ?_; iterate 4 (try clear hK K))|(refine zAc fun K hK=>?_)|(refine zAa hE rfl ?_; simp +contextual only [hnl,↓kN,↓kP,↓kG,↓qN,↓qP,↓qG,push_cast,seval,reduceCtorEq,Int.cast_ofNat_Int])|(refine zAj ?_; simp only [thenQ,zAi,if_true,if_false,Nat.reduceEqDiff,reduceCtorEq])|(refine zAe (by rfl) (fun hb=>?_) (fun hb=>?_)<;>(try simp only [bqa,bqb,bqc,bqd,reduceCtorEq,bqe,bqf] at hb)<;>(try omega))|refine andS ?_|fail)
   refine hL _ (i+1) (by omega) (by omega) ?_
   refine zAg ?_ ?_ ?_<;>simp only [push_cast,seval,reduceCtorEq,Int.cast_ofNat_Int]
 ·obtain rfl:i=p.length:=by omega
  rw [zQJ (l:=l)]
  repeat' (first|(refine goK (by assumption) ?_; iterate 4 (try clear hK K))|(refine zAc fun K hK=>?_)|(refine zAa hE rfl ?_; simp +contextual only [hnl,↓kN,↓kP,↓kG,↓qN,↓qP,↓qG,push_cast,seval,reduceCtorEq,Int.cast_ofNat_Int])|refine zAd ?_|(refine zAj ?_; simp only [thenQ,zAi,if_true,if_false,Nat.reduceEqDiff,reduceCtorEq])|(refine zAe (by rfl) (fun hb=>?_) (fun hb=>?_)<;>(try simp only [bqa,bqb,bqc,bqd,reduceCtorEq,bqe,bqf] at hb)<;>(try omega))|fail)
  refine zWZ (r:=43) (by simp only [push_cast,seval,reduceCtorEq,Int.cast_ofNat_Int]; rfl) ?_
  refine zAk (fun k:Nat=>AS.of [(10,.one (.ref 43)),(15,.one (.ref 86)),(72,.one (.val (.sl .int) l)),(73,.I l.length),(74,.I k)] [(43,.rags 25 .int (restV l p k)),(86,.flat 3 .int (tbl k (pixV l p)))] []) (fun k=>k≤l.length) (fun k=>l.length - k) 0 (Nat.zero_le _) ?_ ?_
  ·refine zAg ?_ ?_ ?_<;>simp only [push_cast,seval,reduceCtorEq,Int.cast_ofNat_Int]
   exact ⟨by omega,rfl⟩
  intro k hk K' hL
  by_cases hkl:k<l.length
  ·have h1:=g3 _ (zAR 0 hkl)
   have h2:(l.getD k 0).toNat<p.length:=by omega
   have h3:=zUU (l:=l) (p:=p) h2 h1.1
   have h4:=zS4 (l:=l) (p:=p) hkl h1.1
   have h5:(restV l p k).length=p.length:=zS3
   have h6:((spr (p.getD (l.getD k 0).toNat [])).length:Int)=lsum (p.getD (l.getD k 0).toNat []):=zWW hin h2
   have h7:cntV (l.getD k 0) (l.take k)+1≤lsum (p.getD (l.getD k 0).toNat []):=by
    rw [zWT hrw h2,Int.toNat_of_nonneg h1.1]
    have e1:=zIh (l.getD k 0) hkl
    rw [if_pos rfl] at e1
    have e2:=zLv (l.getD k 0) l (k+1)
    omega
   have h8:((spr (p.getD (l.getD k 0).toNat [])).drop (cntV (l.getD k 0) (l.take k)).toNat).getD 0 0=pixV l p k:=by
    unfold pixV
    rw [List.getD_eq_getElem?_getD,List.getElem?_drop,Nat.add_zero,←List.getD_eq_getElem?_getD]
   have h9:((spr (p.getD (l.getD k 0).toNat [])).drop (cntV (l.getD k 0) (l.take k)).toNat).length=(spr (p.getD (l.getD k 0).toNat [])).length - (cntV (l.getD k 0) (l.take k)).toNat:=List.length_drop
   have h10:=zNd (l.getD k 0) (l.take k)
   have h11:(tbl k (pixV l p)).length=k:=zAZ _ _
   replace hnl:=And.intro hnl (And.intro h3 (And.intro h5 (And.intro h8 (And.intro h9 h11))))
   repeat' (first|(refine goK (by assumption) ?_; iterate 4 (try clear hK K))|(refine zAc fun K hK=>?_)|(refine zAa hE rfl ?_; simp +contextual only [hnl,↓kN,↓kP,↓kG,↓qN,↓qP,↓qG,push_cast,seval,reduceCtorEq,Int.cast_ofNat_Int])|refine zAd ?_|(refine zAf ?_; simp only [thenQ,zAi,if_true,if_false,Nat.reduceEqDiff,reduceCtorEq])|(refine zAe (by rfl) (fun hb=>?_) (fun hb=>?_)<;>(try simp only [bqa,bqb,bqc,bqd,reduceCtorEq,bqe,bqf] at hb)<;>(try omega))|refine andS ?_|fail)
   refine hL _ (k+1) (by omega) (by omega) ?_
   refine zAg ?_ ?_ ?_<;>simp only [push_cast,seval,reduceCtorEq,Int.cast_ofNat_Int]
   exact ⟨.inl (by rw [h4]),.inl (by rw [zD2])⟩
  ·obtain rfl:k=l.length:=by omega
   repeat' (first|(refine goK (by assumption) ?_; iterate 4 (try clear hK K))|(refine zAc fun K hK=>?_)|((first|refine zAa hE rfl ?_|refine zAh ?_); simp +contextual only [hnl,↓kN,↓kP,↓kG,↓qN,↓qP,↓qG,push_cast,seval,reduceCtorEq,Int.cast_ofNat_Int])|(refine zAj ?_; simp only [thenQ,zAi,if_true,if_false,Nat.reduceEqDiff,reduceCtorEq])|(refine zAe (by rfl) (fun hb=>?_) (fun hb=>?_)<;>(try simp only [bqa,bqb,bqc,bqd,reduceCtorEq,bqe,bqf] at hb)<;>(try omega))|fail)
   rfl
end Go.Proofs.YtlgkplnifaoeeaaGreatDoor
namespace Go.Proofs.YtlgkplnifaoeeaaGreatDoor
open Go.RowKit Go.VS
def sumK (n:Int) (t:ByteArray):Nat→Int
 | 0=>((n.tmod 1000003)+1000003).tmod 1000003
 | k+1=>(sumK n t k*257+((t.data.toList.getD k 0).toNat:Int)+1).tmod 1000003
def sumV (n:Int) (t:ByteArray):Int:=sumK n t t.size
theorem zKj {x:Int} (h:0≤x):0≤x.tmod 1000003∧x.tmod 1000003≤1000002:=by
 rw [Int.tmod_eq_emod_of_nonneg h]
 omega
theorem zLg (x:Int) : -1000002≤x.tmod 1000003∧x.tmod 1000003≤1000002:=by
 have h1:=Int.lt_tmod_of_pos x (show (0:Int)<1000003 by omega)
 have h2:=Int.tmod_lt_of_pos x (show (0:Int)<1000003 by omega)
 omega
theorem zCf (n:Int) (t:ByteArray):∀ k,0≤sumK n t k∧sumK n t k≤1000002
 | 0=>zKj (by have:=zLg n; omega)
 | k+1=>by
  have:=zCf n t k
  exact zKj (by omega)
theorem zPH (t:ByteArray):(zGg t).length=t.size:=by
 unfold zGg
 rw [List.length_map,Array.length_toList]; rfl
theorem zPG {t:ByteArray} {k:Nat} (h:k<t.size):(zGg t).getD k 0=(t.data.toList.getD k 0).toNat:=by
 have h':k<t.data.toList.length:=by rw [Array.length_toList]; exact h
 unfold zGg
 rw [List.getD_eq_getElem?_getD,List.getElem?_map,List.getElem?_eq_getElem h',List.getD_eq_getElem?_getD,List.getElem?_eq_getElem h']
 rfl
@[push_cast] def zTe:Con:=⟨[.dat .int,.dat .str],fun (x:Int×ByteArray×Unit)=>x.2.1.size≤1000000,fun (x:Int×ByteArray×Unit)=>{res:=[.val .int (sumV x.1 x.2.1)]}⟩
theorem zG4:FnSpec Tryz.prog 19 zTe:=by
 refine FnSpec.of_tri' (E:=know [] [] [] []) (zAl all_nil all_nil all_nil) Tryz.func19 rfl rfl (by kernel_rfl) ?_
 intro C x hE hnl hfit hpre
 simp only [Tryz.ntmps19,Tryz.results19,maxLen,seval,push_cast] at hnl hfit hpre ⊢
 obtain ⟨(n:Int),(t:ByteArray),_⟩:=x
 dsimp only at hfit hpre ⊢
 have h0:=zLg n
 have hbl:=zPH t
 replace hnl:=And.intro hnl hbl
 repeat' (first|(refine goK (by assumption) ?_; iterate 4 (try clear hK K))|(refine zAc fun K hK=>?_)|(refine zAa hE rfl ?_; simp +contextual only [hnl,↓kN,↓kP,↓kG,↓qN,↓qP,↓qG,push_cast,seval,reduceCtorEq])|refine zAd ?_|refine andS ?_|fail)
 refine zAk (fun k:Nat=>AS.of [(5,.I (sumK n t k)),(13,.one (.val (.sl .byte) (zGg t))),(14,.I t.size),(15,.I k)] [] []) (fun k=>k≤t.size) (fun k=>t.size - k) 0 (Nat.zero_le _) ?_ ?_
 ·refine zAg ?_ ?_ ?_<;>simp only [push_cast,seval,reduceCtorEq]
  rfl
 intro k hk K' hL
 have hb1:=zCf n t k
 have hb2:((t.data.toList.getD k 0).toNat:Int)≤255:=by have:=(t.data.toList.getD k 0).toNat_lt; omega
 rcases Nat.lt_or_ge k t.size with hkt|hkt
 ·replace hnl:=And.intro hnl (zPG hkt)
  repeat' (first|(refine goK (by assumption) ?_; iterate 4 (try clear hK K))|(refine zAc fun K hK=>?_)|(refine zAa hE rfl ?_; simp +contextual only [hnl,↓kN,↓kP,↓kG,↓qN,↓qP,↓qG,push_cast,seval,reduceCtorEq])|refine zAd ?_|(refine zAf ?_; simp only [thenQ,zAi,if_true,if_false,Nat.reduceEqDiff,reduceCtorEq])|(refine zAe (by rfl) (fun hb=>?_) (fun hb=>?_)<;>(try simp only [bqa,bqb,bqc,bqd,reduceCtorEq,bqe,bqf] at hb)<;>(try omega))|refine andS ?_|fail)
  refine hL _ (k+1) (by omega) (by omega) ?_
  refine zAg ?_ ?_ ?_<;>simp only [push_cast,seval,reduceCtorEq]
  rfl
 ·obtain rfl:k=t.size:=by omega
  repeat' (first|(refine goK (by assumption) ?_; iterate 4 (try clear hK K))|(refine zAc fun K hK=>?_)|((first|refine zAa hE rfl ?_|refine zAh ?_); simp +contextual only [hnl,↓kN,↓kP,↓kG,↓qN,↓qP,↓qG,push_cast,seval,reduceCtorEq])|(refine zAj ?_; simp only [thenQ,zAi,if_true,if_false,Nat.reduceEqDiff,reduceCtorEq])|(refine zAe (by rfl) (fun hb=>?_) (fun hb=>?_)<;>(try simp only [bqa,bqb,bqc,bqd,reduceCtorEq,bqe,bqf] at hb)<;>(try omega))|fail)
  rfl
end Go.Proofs.YtlgkplnifaoeeaaGreatDoor
namespace Go.Proofs
open Go.Shelf
def Tryz.laysM171_ren:Go.Shelf.Ren:=⟨fun|171=>125|243=>170|246=>205|283=>225|284=>226|285=>227|286=>228|129=>238|317=>237|318=>239|319=>240|320=>241|337=>244|338=>245|n=>n,fun|3=>3|9=>9|2=>2|4=>4|171=>266|0=>0|53=>192|37=>94|5=>5|173=>269|212=>280|51=>107|20=>20|213=>281|46=>79|232=>290|233=>291|n=>n,fun|17=>4|18=>7|19=>8|n=>n⟩
theorem Tryz.laysM171:Go.Proofs.LaysM.n171 Tryz.prog Tryz.laysM171_ren:={
 mixed:=by kernel_rfl
 f129:=Tryz.func238.trans (congrArg some (by kernel_rfl))
 f171:=Tryz.func125.trans (congrArg some (by kernel_rfl))
 f243:=Tryz.func170.trans (congrArg some (by kernel_rfl))
 f246:=Tryz.func205.trans (congrArg some (by kernel_rfl))
 f283:=Tryz.func225.trans (congrArg some (by kernel_rfl))
 f284:=Tryz.func226.trans (congrArg some (by kernel_rfl))
 f285:=Tryz.func227.trans (congrArg some (by kernel_rfl))
 f286:=Tryz.func228.trans (congrArg some (by kernel_rfl))
 f317:=Tryz.func237.trans (congrArg some (by kernel_rfl))
 f318:=Tryz.func239.trans (congrArg some (by kernel_rfl))
 f319:=Tryz.func240.trans (congrArg some (by kernel_rfl))
 f320:=Tryz.func241.trans (congrArg some (by kernel_rfl))
 f337:=Tryz.func244.trans (congrArg some (by kernel_rfl))
 f338:=Tryz.func245.trans (congrArg some (by kernel_rfl))
 t0:=Tryz.underlying0
 a0:=Tryz.isAgg0
 z0:=Tryz.sizeOf0
 v0:=Tryz.zeroValue0
 t2:=Tryz.underlying2
 a2:=Tryz.isAgg2
 z2:=Tryz.sizeOf2
 v2:=Tryz.zeroValue2
 t3:=Tryz.underlying3
 a3:=Tryz.isAgg3
 z3:=Tryz.sizeOf3
 v3:=Tryz.zeroValue3
 t4:=Tryz.underlying4
 a4:=Tryz.isAgg4
 z4:=Tryz.sizeOf4
 v4:=Tryz.zeroValue4
 t5:=Tryz.underlying5
 a5:=Tryz.isAgg5
 z5:=Tryz.sizeOf5
 v5:=Tryz.zeroValue5
 t9:=Tryz.underlying9
 a9:=Tryz.isAgg9
 z9:=Tryz.sizeOf9
 v9:=Tryz.zeroValue9
 t20:=Tryz.underlying20
 a20:=Tryz.isAgg20
 z20:=Tryz.sizeOf20
 v20:=Tryz.zeroValue20
 t37:=Tryz.underlying94
 a37:=Tryz.isAgg94
 z37:=Tryz.sizeOf94
 v37:=Tryz.zeroValue94
 t46:=Tryz.underlying79
 a46:=Tryz.isAgg79
 z46:=Tryz.sizeOf79
 v46:=Tryz.zeroValue79
 t51:=Tryz.underlying107
 a51:=Tryz.isAgg107
 z51:=Tryz.sizeOf107
 v51:=Tryz.zeroValue107
 t53:=Tryz.underlying192
 a53:=Tryz.isAgg192
 z53:=Tryz.sizeOf192
 v53:=Tryz.zeroValue192
 t171:=Tryz.underlying266
 a171:=Tryz.isAgg266
 z171:=Tryz.sizeOf266
 v171:=Tryz.zeroValue266
 t173:=Tryz.underlying269
 a173:=Tryz.isAgg269
 z173:=Tryz.sizeOf269
 v173:=Tryz.zeroValue269
 t212:=Tryz.underlying280
 a212:=Tryz.isAgg280
 z212:=Tryz.sizeOf280
 v212:=Tryz.zeroValue280
 t213:=Tryz.underlying281
 a213:=Tryz.isAgg281
 z213:=Tryz.sizeOf281
 t232:=Tryz.underlying290
 a232:=Tryz.isAgg290
 z232:=Tryz.sizeOf290
 v232:=Tryz.zeroValue290
 t233:=Tryz.underlying291
 a233:=Tryz.isAgg291
 z233:=Tryz.sizeOf291
 v233:=Tryz.zeroValue291
 g17:=by kernel_rfl
 g18:=by kernel_rfl
 g19:=by kernel_rfl
 i0:=by kernel_rfl
 i2:=by kernel_rfl
 i3:=by kernel_rfl
 i4:=by kernel_rfl
 i5:=by kernel_rfl
 i9:=by kernel_rfl
 i20:=by kernel_rfl
 i37:=by kernel_rfl
 i46:=by kernel_rfl
 i51:=by kernel_rfl
 i53:=by kernel_rfl
 i171:=by kernel_rfl
 i173:=by kernel_rfl
 i212:=by kernel_rfl
 i232:=by kernel_rfl
 i233:=by kernel_rfl
 m17:=by kernel_rfl
 m18:=by kernel_rfl
 m19:=by kernel_rfl}
open Go.RowKit Go.Sort Go.Lib in
theorem Tryz.strconv_Itoa (n:Int) (h0 : -9223372036854775808≤n) (h1:n≤9223372036854775807) (w:World) (htab:Lib.TabIs Tryz.prog w "internal/strconv.uint64pow10" .u64 Lib.pow10Tab) :
 Calls Tryz.prog 125 #[.int .i64 n] w fun e w'=>e=.returned (.string ⟨(Lib.itoa n).toArray⟩)∧∃ k os,w'=grow (w.drewN k) os:=Any.strconv_Itoa Tryz.laysM171 n h0 h1 w htab
def Tryz.laysC172_ren:Go.Shelf.Ren:=⟨fun|172=>124|244=>168|245=>169|247=>200|279=>201|280=>202|281=>203|282=>204|287=>222|316=>223|171=>125|205=>224|321=>235|322=>236|243=>170|246=>205|283=>225|284=>226|285=>227|286=>228|129=>238|317=>237|318=>239|319=>240|320=>241|337=>244|338=>245|n=>n,fun|9=>9|3=>3|75=>116|76=>168|4=>4|5=>5|167=>230|37=>94|0=>0|85=>231|2=>2|168=>233|53=>192|175=>260|46=>79|210=>264|127=>275|145=>278|143=>276|21=>21|171=>266|173=>269|212=>280|51=>107|20=>20|213=>281|232=>290|233=>291|80=>47|n=>n,fun|15=>2|16=>3|17=>4|18=>7|19=>8|n=>n⟩
theorem Tryz.laysC172:Go.Proofs.LaysC.n172 Tryz.prog Tryz.laysC172_ren:={
 mixed:=by kernel_rfl
 f129:=Tryz.func238.trans (congrArg some (by kernel_rfl))
 f171:=Tryz.func125.trans (congrArg some (by kernel_rfl))
 f172:=Tryz.func124.trans (congrArg some (by kernel_rfl))
 f205:=Tryz.func224.trans (congrArg some (by kernel_rfl))
 f243:=Tryz.func170.trans (congrArg some (by kernel_rfl))
 f244:=Tryz.func168.trans (congrArg some (by kernel_rfl))
 f245:=Tryz.func169.trans (congrArg some (by kernel_rfl))
 f246:=Tryz.func205.trans (congrArg some (by kernel_rfl))
 f247:=Tryz.func200.trans (congrArg some (by kernel_rfl))
 f279:=Tryz.func201.trans (congrArg some (by kernel_rfl))
 f280:=Tryz.func202.trans (congrArg some (by kernel_rfl))
 f281:=Tryz.func203.trans (congrArg some (by kernel_rfl))
 f282:=Tryz.func204.trans (congrArg some (by kernel_rfl))
 f283:=Tryz.func225.trans (congrArg some (by kernel_rfl))
 f284:=Tryz.func226.trans (congrArg some (by kernel_rfl))
 f285:=Tryz.func227.trans (congrArg some (by kernel_rfl))
 f286:=Tryz.func228.trans (congrArg some (by kernel_rfl))
 f287:=Tryz.func222.trans (congrArg some (by kernel_rfl))
 f316:=Tryz.func223.trans (congrArg some (by kernel_rfl))
 f317:=Tryz.func237.trans (congrArg some (by kernel_rfl))
 f318:=Tryz.func239.trans (congrArg some (by kernel_rfl))
 f319:=Tryz.func240.trans (congrArg some (by kernel_rfl))
 f320:=Tryz.func241.trans (congrArg some (by kernel_rfl))
 f321:=Tryz.func235.trans (congrArg some (by kernel_rfl))
 f322:=Tryz.func236.trans (congrArg some (by kernel_rfl))
 f337:=Tryz.func244.trans (congrArg some (by kernel_rfl))
 f338:=Tryz.func245.trans (congrArg some (by kernel_rfl))
 t0:=Tryz.underlying0
 a0:=Tryz.isAgg0
 z0:=Tryz.sizeOf0
 v0:=Tryz.zeroValue0
 t2:=Tryz.underlying2
 a2:=Tryz.isAgg2
 z2:=Tryz.sizeOf2
 v2:=Tryz.zeroValue2
 t3:=Tryz.underlying3
 a3:=Tryz.isAgg3
 z3:=Tryz.sizeOf3
 v3:=Tryz.zeroValue3
 t4:=Tryz.underlying4
 a4:=Tryz.isAgg4
 z4:=Tryz.sizeOf4
 v4:=Tryz.zeroValue4
 t5:=Tryz.underlying5
 a5:=Tryz.isAgg5
 z5:=Tryz.sizeOf5
 v5:=Tryz.zeroValue5
 t9:=Tryz.underlying9
 a9:=Tryz.isAgg9
 z9:=Tryz.sizeOf9
 v9:=Tryz.zeroValue9
 t20:=Tryz.underlying20
 a20:=Tryz.isAgg20
 z20:=Tryz.sizeOf20
 v20:=Tryz.zeroValue20
 t21:=Tryz.underlying21
 a21:=Tryz.isAgg21
 z21:=Tryz.sizeOf21
 v21:=Tryz.zeroValue21
 t37:=Tryz.underlying94
 a37:=Tryz.isAgg94
 z37:=Tryz.sizeOf94
 v37:=Tryz.zeroValue94
 t46:=Tryz.underlying79
 a46:=Tryz.isAgg79
 z46:=Tryz.sizeOf79
 v46:=Tryz.zeroValue79
 t51:=Tryz.underlying107
 a51:=Tryz.isAgg107
 z51:=Tryz.sizeOf107
 v51:=Tryz.zeroValue107
 t53:=Tryz.underlying192
 a53:=Tryz.isAgg192
 z53:=Tryz.sizeOf192
 v53:=Tryz.zeroValue192
 t75:=Tryz.underlying116
 a75:=Tryz.isAgg116
 z75:=Tryz.sizeOf116
 v75:=Tryz.zeroValue116
 t76:=Tryz.underlying168
 a76:=Tryz.isAgg168
 z76:=Tryz.sizeOf168
 v76:=Tryz.zeroValue168
 t85:=Tryz.underlying231
 a85:=Tryz.isAgg231
 z85:=Tryz.sizeOf231
 v85:=Tryz.zeroValue231
 t127:=Tryz.underlying275
 a127:=Tryz.isAgg275
 z127:=Tryz.sizeOf275
 v127:=Tryz.zeroValue275
 t143:=Tryz.underlying276
 a143:=Tryz.isAgg276
 z143:=Tryz.sizeOf276
 v143:=Tryz.zeroValue276
 t145:=Tryz.underlying278
 a145:=Tryz.isAgg278
 z145:=Tryz.sizeOf278
 v145:=Tryz.zeroValue278
 t167:=Tryz.underlying230
 a167:=Tryz.isAgg230
 z167:=Tryz.sizeOf230
 v167:=Tryz.zeroValue230
 t168:=Tryz.underlying233
 a168:=Tryz.isAgg233
 z168:=Tryz.sizeOf233
 v168:=Tryz.zeroValue233
 t171:=Tryz.underlying266
 a171:=Tryz.isAgg266
 z171:=Tryz.sizeOf266
 v171:=Tryz.zeroValue266
 t173:=Tryz.underlying269
 a173:=Tryz.isAgg269
 z173:=Tryz.sizeOf269
 v173:=Tryz.zeroValue269
 t175:=Tryz.underlying260
 a175:=Tryz.isAgg260
 z175:=Tryz.sizeOf260
 v175:=Tryz.zeroValue260
 t210:=Tryz.underlying264
 a210:=Tryz.isAgg264
 z210:=Tryz.sizeOf264
 v210:=Tryz.zeroValue264
 t212:=Tryz.underlying280
 a212:=Tryz.isAgg280
 z212:=Tryz.sizeOf280
 v212:=Tryz.zeroValue280
 t213:=Tryz.underlying281
 a213:=Tryz.isAgg281
 z213:=Tryz.sizeOf281
 t232:=Tryz.underlying290
 a232:=Tryz.isAgg290
 z232:=Tryz.sizeOf290
 v232:=Tryz.zeroValue290
 t233:=Tryz.underlying291
 a233:=Tryz.isAgg291
 z233:=Tryz.sizeOf291
 v233:=Tryz.zeroValue291
 g15:=by kernel_rfl
 g16:=by kernel_rfl
 g17:=by kernel_rfl
 g18:=by kernel_rfl
 g19:=by kernel_rfl
 t80:=Tryz.underlying47
 a80:=Tryz.isAgg47
 z80:=Tryz.sizeOf47
 v80:=Tryz.zeroValue47
 i0:=by kernel_rfl
 i2:=by kernel_rfl
 i3:=by kernel_rfl
 i4:=by kernel_rfl
 i5:=by kernel_rfl
 i9:=by kernel_rfl
 i20:=by kernel_rfl
 i21:=by kernel_rfl
 i37:=by kernel_rfl
 i46:=by kernel_rfl
 i51:=by kernel_rfl
 i53:=by kernel_rfl
 i75:=by kernel_rfl
 i76:=by kernel_rfl
 i80:=by kernel_rfl
 i85:=by kernel_rfl
 i127:=by kernel_rfl
 i143:=by kernel_rfl
 i145:=by kernel_rfl
 i167:=by kernel_rfl
 i168:=by kernel_rfl
 i171:=by kernel_rfl
 i173:=by kernel_rfl
 i175:=by kernel_rfl
 i210:=by kernel_rfl
 i212:=by kernel_rfl
 i232:=by kernel_rfl
 i233:=by kernel_rfl
 m15:=by kernel_rfl
 m16:=by kernel_rfl
 m17:=by kernel_rfl
 m18:=by kernel_rfl
 m19:=by kernel_rfl
 c0:=by kernel_rfl
 c2:=by kernel_rfl
 c3:=by kernel_rfl
 c4:=by kernel_rfl
 c5:=by kernel_rfl
 c9:=by kernel_rfl
 c20:=by kernel_rfl
 c21:=by kernel_rfl
 c37:=by kernel_rfl
 c46:=by kernel_rfl
 c51:=by kernel_rfl
 c53:=by kernel_rfl
 c75:=by kernel_rfl
 c76:=by kernel_rfl
 c80:=by kernel_rfl
 c85:=by kernel_rfl
 c127:=by kernel_rfl
 c143:=by kernel_rfl
 c145:=by kernel_rfl
 c167:=by kernel_rfl
 c168:=by kernel_rfl
 c171:=by kernel_rfl
 c173:=by kernel_rfl
 c175:=by kernel_rfl
 c210:=by kernel_rfl
 c212:=by kernel_rfl
 c213:=by kernel_rfl
 c232:=by kernel_rfl
 c233:=by kernel_rfl}
open Go.RowKit in
theorem Tryz.strconv_Atoi_ok (s:ByteArray) (hmax:s.size≤9223372036854775806) (v:Int) (h:Lib.atoiAll s.data.toList=.ok v) (w:World) :
 Calls Tryz.prog 124 #[.string s] w fun e w'=>e=.returned (.tuple #[.int .i64 v,.nilIface])∧(w'=w∨∃ t,w'=Lib.bytesWorld w 5 t):=Any.strconv_Atoi_ok Tryz.laysC172 s hmax v h w
open Go.RowKit in
theorem Tryz.strconv_Atoi_syntax_var (s:ByteArray) (hlim:s.size≤281474976710656) (h:Lib.atoiAll s.data.toList=Go.Lib.NumEnd.syntax) (tp:TypeId) (p:Value) (w:World) (hvar:w.var? Tryz.prog "strconv.ErrSyntax"=some #[.iface tp p]) :
 Calls Tryz.prog 124 #[.string s] w fun e w'=>∃ N,e=.returned (.tuple #[.int .i64 0,.iface 233 (.pointer (some ⟨N,0,none⟩))])∧w.heap.size≤N∧w'.heap[N]?=some (.cells #[.string ⟨#[65,116,111,105]⟩,.string s,.iface tp p] 264 (0,0))∧Below w.heap.size w w':=Any.strconv_Atoi_syntax_var Tryz.laysC172 s hlim h tp p w hvar
open Go.RowKit in
theorem Tryz.strconv_Atoi_range_var (s:ByteArray) (hlim:s.size≤281474976710656) (h:Lib.atoiAll s.data.toList=.range) (tp:TypeId) (p:Value) (w:World) (hvar:w.var? Tryz.prog "strconv.ErrRange"=some #[.iface tp p]) :
 Calls Tryz.prog 124 #[.string s] w fun e w'=>∃ N,e=.returned (.tuple #[.int .i64 (Lib.atoiSat s.data.toList),.iface 233 (.pointer (some ⟨N,0,none⟩))])∧w.heap.size≤N∧w'.heap[N]?=some (.cells #[.string ⟨#[65,116,111,105]⟩,.string s,.iface tp p] 264 (0,0))∧Below w.heap.size w w':=Any.strconv_Atoi_range_var Tryz.laysC172 s hlim h tp p w hvar
def Tryz.lays145_ren:Go.Shelf.Ren:=⟨fun|145=>83|220=>129|219=>176|217=>210|225=>211|224=>212|267=>213|266=>230|314=>231|n=>n,fun|9=>9|4=>4|59=>124|3=>3|5=>5|46=>79|146=>190|51=>107|n=>n,fun|1=>1|n=>n⟩
theorem Tryz.lays145:Go.Proofs.Lays.n145 Tryz.prog Tryz.lays145_ren:={
 mixed:=by kernel_rfl
 f145:=Tryz.func83.trans (congrArg some (by kernel_rfl))
 f217:=Tryz.func210.trans (congrArg some (by kernel_rfl))
 f219:=Tryz.func176.trans (congrArg some (by kernel_rfl))
 f220:=Tryz.func129.trans (congrArg some (by kernel_rfl))
 f224:=Tryz.func212.trans (congrArg some (by kernel_rfl))
 f225:=Tryz.func211.trans (congrArg some (by kernel_rfl))
 f266:=Tryz.func230.trans (congrArg some (by kernel_rfl))
 f267:=Tryz.func213.trans (congrArg some (by kernel_rfl))
 f314:=Tryz.func231.trans (congrArg some (by kernel_rfl))
 t3:=Tryz.underlying3
 a3:=Tryz.isAgg3
 z3:=Tryz.sizeOf3
 v3:=Tryz.zeroValue3
 t4:=Tryz.underlying4
 a4:=Tryz.isAgg4
 z4:=Tryz.sizeOf4
 v4:=Tryz.zeroValue4
 t5:=Tryz.underlying5
 a5:=Tryz.isAgg5
 z5:=Tryz.sizeOf5
 v5:=Tryz.zeroValue5
 t9:=Tryz.underlying9
 a9:=Tryz.isAgg9
 z9:=Tryz.sizeOf9
 v9:=Tryz.zeroValue9
 t46:=Tryz.underlying79
 a46:=Tryz.isAgg79
 z46:=Tryz.sizeOf79
 v46:=Tryz.zeroValue79
 t51:=Tryz.underlying107
 a51:=Tryz.isAgg107
 z51:=Tryz.sizeOf107
 v51:=Tryz.zeroValue107
 t59:=Tryz.underlying124
 a59:=Tryz.isAgg124
 z59:=Tryz.sizeOf124
 v59:=Tryz.zeroValue124
 t146:=Tryz.underlying190
 a146:=Tryz.isAgg190
 z146:=Tryz.sizeOf190
 v146:=Tryz.zeroValue190
 g1:=by kernel_rfl}
open Go.RowKit Go.Lib in
theorem Tryz.strings_Cut (s sep:ByteArray) (m:Int) (w:World) (hs:s.size<4294967281) (hm:w.cell? ⟨1,0,none⟩=some (.int .i64 m)) :
 Calls Tryz.prog 83 #[.string s,.string sep] w fun e w'=>e=.returned (.tuple #[.string ⟨(Lib.cut s.data.toList sep.data.toList).1.toArray⟩,.string ⟨(Lib.cut s.data.toList sep.data.toList).2.1.toArray⟩,.bool (Lib.cut s.data.toList sep.data.toList).2.2])∧∃ n,w'=w.drewN n:=Any.strings_Cut Tryz.lays145 s sep m w hs hm
def Tryz.lays102_ren:Go.Shelf.Ren:=⟨fun|102=>175|209=>209|207=>229|n=>n,fun|9=>9|4=>4|3=>3|n=>n,fun|n=>n⟩
theorem Tryz.lays102:Go.Proofs.Lays.n102 Tryz.prog Tryz.lays102_ren:={
 mixed:=by kernel_rfl
 f102:=Tryz.func175.trans (congrArg some (by kernel_rfl))
 f207:=Tryz.func229.trans (congrArg some (by kernel_rfl))
 f209:=Tryz.func209.trans (congrArg some (by kernel_rfl))
 t3:=Tryz.underlying3
 a3:=Tryz.isAgg3
 z3:=Tryz.sizeOf3
 v3:=Tryz.zeroValue3
 t4:=Tryz.underlying4
 a4:=Tryz.isAgg4
 z4:=Tryz.sizeOf4
 v4:=Tryz.zeroValue4
 t9:=Tryz.underlying9
 a9:=Tryz.isAgg9
 z9:=Tryz.sizeOf9
 v9:=Tryz.zeroValue9}
open Go.RowKit Go.Lib in
theorem Tryz.strings_TrimSuffix (s p:ByteArray) (w:World) (hs:s.size≤9223372036854775807) :
 Calls Tryz.prog 175 #[.string s,.string p] w fun e w'=>e=.returned (.string ⟨(Lib.trimSuffix s.data.toList p.data.toList).toArray⟩)∧w'=w:=Any.strings_TrimSuffix Tryz.lays102 s p w hs
def Tryz.lays146_ren:Go.Shelf.Ren:=⟨fun|146=>122|221=>167|268=>197|138=>198|143=>199|195=>219|197=>220|218=>221|219=>176|260=>234|217=>210|225=>211|224=>212|267=>213|266=>230|314=>231|n=>n,fun|9=>9|31=>35|3=>3|4=>4|0=>0|105=>258|21=>21|5=>5|46=>79|119=>285|139=>288|138=>287|146=>190|51=>107|n=>n,fun|1=>1|3=>5|4=>6|n=>n⟩
theorem Tryz.lays146:Go.Proofs.Lays.n146 Tryz.prog Tryz.lays146_ren:={
 mixed:=by kernel_rfl
 f138:=Tryz.func198.trans (congrArg some (by kernel_rfl))
 f143:=Tryz.func199.trans (congrArg some (by kernel_rfl))
 f146:=Tryz.func122.trans (congrArg some (by kernel_rfl))
 f195:=Tryz.func219.trans (congrArg some (by kernel_rfl))
 f197:=Tryz.func220.trans (congrArg some (by kernel_rfl))
 f217:=Tryz.func210.trans (congrArg some (by kernel_rfl))
 f218:=Tryz.func221.trans (congrArg some (by kernel_rfl))
 f219:=Tryz.func176.trans (congrArg some (by kernel_rfl))
 f221:=Tryz.func167.trans (congrArg some (by kernel_rfl))
 f224:=Tryz.func212.trans (congrArg some (by kernel_rfl))
 f225:=Tryz.func211.trans (congrArg some (by kernel_rfl))
 f260:=Tryz.func234.trans (congrArg some (by kernel_rfl))
 f266:=Tryz.func230.trans (congrArg some (by kernel_rfl))
 f267:=Tryz.func213.trans (congrArg some (by kernel_rfl))
 f268:=Tryz.func197.trans (congrArg some (by kernel_rfl))
 f314:=Tryz.func231.trans (congrArg some (by kernel_rfl))
 t0:=Tryz.underlying0
 a0:=Tryz.isAgg0
 z0:=Tryz.sizeOf0
 v0:=Tryz.zeroValue0
 t3:=Tryz.underlying3
 a3:=Tryz.isAgg3
 z3:=Tryz.sizeOf3
 v3:=Tryz.zeroValue3
 t4:=Tryz.underlying4
 a4:=Tryz.isAgg4
 z4:=Tryz.sizeOf4
 v4:=Tryz.zeroValue4
 t5:=Tryz.underlying5
 a5:=Tryz.isAgg5
 z5:=Tryz.sizeOf5
 v5:=Tryz.zeroValue5
 t9:=Tryz.underlying9
 a9:=Tryz.isAgg9
 z9:=Tryz.sizeOf9
 v9:=Tryz.zeroValue9
 t21:=Tryz.underlying21
 a21:=Tryz.isAgg21
 z21:=Tryz.sizeOf21
 v21:=Tryz.zeroValue21
 t31:=Tryz.underlying35
 a31:=Tryz.isAgg35
 z31:=Tryz.sizeOf35
 v31:=Tryz.zeroValue35
 t46:=Tryz.underlying79
 a46:=Tryz.isAgg79
 z46:=Tryz.sizeOf79
 v46:=Tryz.zeroValue79
 t51:=Tryz.underlying107
 a51:=Tryz.isAgg107
 z51:=Tryz.sizeOf107
 v51:=Tryz.zeroValue107
 t105:=Tryz.underlying258
 a105:=Tryz.isAgg258
 z105:=Tryz.sizeOf258
 v105:=Tryz.zeroValue258
 t119:=Tryz.underlying285
 a119:=Tryz.isAgg285
 z119:=Tryz.sizeOf285
 t138:=Tryz.underlying287
 a138:=Tryz.isAgg287
 z138:=Tryz.sizeOf287
 v138:=Tryz.zeroValue287
 t139:=Tryz.underlying288
 a139:=Tryz.isAgg288
 z139:=Tryz.sizeOf288
 v139:=Tryz.zeroValue288
 t146:=Tryz.underlying190
 a146:=Tryz.isAgg190
 z146:=Tryz.sizeOf190
 v146:=Tryz.zeroValue190
 g1:=by kernel_rfl
 g3:=by kernel_rfl
 g4:=by kernel_rfl}
open Go.RowKit Go.Lib in
theorem Tryz.strings_Split (s sep:ByteArray) (m:Int) (w:World) (hs:s.size<4294967281) (hm:w.cell? ⟨1,0,none⟩=some (.int .i64 m)) (h1:1≤sep.size) :
 Calls Tryz.prog 122 #[.string s,.string sep] w fun e w' =>
  e=.returned (.slice (some ⟨w.heap.size,0,none⟩) (Lib.countB s sep+1) (Lib.countB s sep+1))∧w'=w.alloc (.cells ((Lib.splitB sep 0 (Lib.countB s sep) s).map Value.string).toArray 9):=Any.strings_Split Tryz.lays146 (by kernel_rfl) s sep m w hs hm h1
end Go.Proofs
namespace Go.Proofs.YtlgkplnifaoeeaaGreatDoor
open Go.RowKit Go.VS
theorem zFw {w w':World} (h:Below w.heap.size w w'):Keep (fun _=>False) w w':=⟨h.os,h.tape,h.output,h.size,fun k hk _=>h.block k hk⟩
theorem zBS {P:Program} {f:FuncId} {ad:List AD} {pre:TupA ad→Prop} {post:TupA ad→Out} (hc:zBc P f) (h1:∀ x,(post x).left=[]) (h2:∀ x,(post x).objs=[])
 (h:∀ (C:Ctx) (γ:Gam) (x:TupA ad) (vs:List Value),pre x→Entry C γ P ad x vs→Calls P f vs.toArray C.w0 fun e w'=>∃ us,e=.returned (zHc us)∧zCO C γ w' (post x).res [] [] us∧Keep (fun _=>False) C.w0 w'):FnSpec P f ⟨ad,pre,post⟩:=by
 refine ⟨hc,fun C γ x vs hpre hen=>(h C γ x vs hpre hen).mono fun e w' ⟨us,he,hr,hk⟩=>⟨_,γ,he,⟨⟨[],[],us,rfl,hr,?_,?_⟩,fun p hp=>?_,fun p hp=>?_,fun k l hl=>Nat.lt_of_lt_of_le (hen.ownlt k l hl) hk.size⟩,⟨hk.os,hk.tape,hk.output,hk.size,fun b hb _=>hk.block b hb (fun h=>h)⟩⟩⟩
 ·show (([]:List Nat)++List.map Prod.fst (post x).left).Nodup
  rw [h1]; exact List.nodup_nil
 ·show (([]:List Nat)++List.map Prod.fst (post x).objs).Nodup
  rw [h2]; exact List.nodup_nil
 ·have hp':p∈(post x).left:=hp
  rw [h1] at hp'; cases hp'
 ·have hp':p∈(post x).objs:=hp
  rw [h2] at hp'; cases hp'
def itoaV (n:Int):ByteArray:=⟨(Lib.itoa n).toArray⟩
def trimV (b p:ByteArray):ByteArray:=⟨(Lib.trimSuffix b.data.toList p.data.toList).toArray⟩
def cut1 (b p:ByteArray):ByteArray:=⟨(Lib.cut b.data.toList p.data.toList).1.toArray⟩
def cut2 (b p:ByteArray):ByteArray:=⟨(Lib.cut b.data.toList p.data.toList).2.1.toArray⟩
def cutB (b p:ByteArray):Bool:=(Lib.cut b.data.toList p.data.toList).2.2
def zAA (b p:ByteArray):List ByteArray:=Lib.splitB p 0 (Lib.countB b p) b
@[push_cast] def zWj:Con:=⟨[.dat .int],fun (x:Int×Unit)=>InR x.1,fun (x:Int×Unit)=>{res:=[.val .str (itoaV x.1)]}⟩
theorem zGv:FnSpec Tryz.prog 125 zWj:=by
 refine zBS ⟨_,Tryz.func125,by kernel_rfl,rfl⟩ (fun _=>rfl) (fun _=>rfl) fun C γ x vs hpre hen=>?_
 have hg:=hen.ds.2.gd
 rw [hen.P] at hg
 have hargs:=hen.args
 obtain ⟨(n:Int),_⟩:=x
 obtain ⟨v0,_,rfl,h0,rfl⟩:=hargs
 obtain rfl:v0=.int .i64 n:=zAF h0
 obtain ⟨g,hgn⟩:∃ g, Tryz.prog.globalNamed "internal/strconv.uint64pow10"=some g:=Option.isSome_iff_exists.1 (by kernel_rfl)
 have hn:InR n:=hpre
 unfold InR at hn
 refine (Tryz.strconv_Itoa n (by omega) (by omega) C.w0 (hg.pow g hgn)).mono ?_
 rintro e w' ⟨rfl,k,os,rfl⟩
 exact ⟨[_],rfl,⟨_,[],rfl,⟨[.string ⟨(Lib.itoa n).toArray⟩],rfl,rfl⟩,rfl,rfl,rfl⟩,zFw (Lib.below_grow _ _ (Nat.le_refl _) k os)⟩
def zDA (s:ByteArray):Bool:=match Lib.atoiAll s.data.toList with
 | .ok _=>true
 | _=>false
def atoiV (s:ByteArray):Int:=match Lib.atoiAll s.data.toList with
 | .ok v=>v
 | .range=>Lib.atoiSat s.data.toList
 | _=>0
@[push_cast] def zVN:Con:=⟨[.dat .str],fun (x:ByteArray×Unit)=>x.1.size≤1000000,fun (x:ByteArray×Unit)=>{res:=[.val .int (atoiV x.1),if zDA x.1=true then .raw .nilIface else .ifc]}⟩
theorem zIb:FnSpec Tryz.prog 124 zVN:=by
 refine zBS ⟨_,Tryz.func124,by kernel_rfl,rfl⟩ (fun _=>rfl) (fun _=>rfl) fun C γ x vs hpre hen=>?_
 have hg:=hen.ds.2.gd
 rw [hen.P] at hg
 have hargs:=hen.args
 obtain ⟨(t:ByteArray),_⟩:=x
 obtain ⟨v0,_,rfl,h0,rfl⟩:=hargs
 obtain rfl:v0=.string t:=zBX h0
 have hn:t.size≤1000000:=hpre
 show Calls _ _ #[.string t] C.w0 _
 cases h:Lib.atoiAll t.data.toList with
 | ok v =>
  have e1:atoiV t=v:=by simp only [atoiV,h]
  have e2:zDA t=true:=by simp only [zDA,h]
  refine (Tryz.strconv_Atoi_ok t (by omega) v h C.w0).mono ?_
  rintro e w' ⟨rfl,hw⟩
  refine ⟨[_,_],rfl,?_,?_⟩
  ·simp only [e1,e2,if_true]
   exact ⟨_,_,rfl,⟨[.int .i64 v],rfl,rfl⟩,_,rfl,rfl,rfl,rfl⟩
  ·rcases hw with rfl|⟨t',rfl⟩
   ·exact Keep.refl _ _
   ·exact zFw (Go.Joins.below_bytesWorld _ _ _ _ (Nat.le_refl _))
 | range =>
  have e1:atoiV t=Lib.atoiSat t.data.toList:=by simp only [atoiV,h]
  have e2:zDA t=false:=by simp only [zDA,h]
  obtain ⟨g,hgn⟩:∃ g, Tryz.prog.globalNamed "strconv.ErrRange"=some g:=Option.isSome_iff_exists.1 (by kernel_rfl)
  obtain ⟨tp,p,hv⟩:=hg.rng g hgn
  refine (Tryz.strconv_Atoi_range_var t (by omega) h tp p C.w0 hv).mono ?_
  rintro e w' ⟨N,rfl,_,_,hb⟩
  refine ⟨[_,_],rfl,?_,zFw hb⟩
  simp only [e1,e2,Bool.false_eq_true,if_false]
  exact ⟨_,_,rfl,⟨[.int .i64 _],rfl,rfl⟩,_,_,_,rfl,rfl,rfl,rfl⟩
 | _ =>
  have e1:atoiV t=0:=by simp only [atoiV,h]
  have e2:zDA t=false:=by simp only [zDA,h]
  obtain ⟨g,hgn⟩:∃ g, Tryz.prog.globalNamed "strconv.ErrSyntax"=some g:=Option.isSome_iff_exists.1 (by kernel_rfl)
  obtain ⟨tp,p,hv⟩:=hg.syn g hgn
  refine (Tryz.strconv_Atoi_syntax_var t (by omega) h tp p C.w0 hv).mono ?_
  rintro e w' ⟨N,rfl,_,_,hb⟩
  refine ⟨[_,_],rfl,?_,zFw hb⟩
  simp only [e1,e2,Bool.false_eq_true,if_false]
  exact ⟨_,_,rfl,⟨[.int .i64 0],rfl,rfl⟩,_,_,_,rfl,rfl,rfl,rfl⟩
@[push_cast] def zW1:Con:=⟨[.dat .str,.dat .str],fun (x:ByteArray×ByteArray×Unit)=>x.1.size≤1000000,fun (x:ByteArray×ByteArray×Unit)=>{res:=[.val .str (trimV x.1 x.2.1)]}⟩
theorem zTl:FnSpec Tryz.prog 175 zW1:=by
 refine zBS ⟨_,Tryz.func175,by kernel_rfl,rfl⟩ (fun _=>rfl) (fun _=>rfl) fun C γ x vs hpre hen=>?_
 have hargs:=hen.args
 obtain ⟨(t:ByteArray),(u:ByteArray),_⟩:=x
 obtain ⟨v0,_,rfl,h0,v1,_,rfl,h1,rfl⟩:=hargs
 obtain rfl:v0=.string t:=zBX h0
 obtain rfl:v1=.string u:=zBX h1
 have hn:t.size≤1000000:=hpre
 refine (Tryz.strings_TrimSuffix t u C.w0 (by omega)).mono ?_
 rintro e w' ⟨rfl,rfl⟩
 exact ⟨[_],rfl,⟨_,[],rfl,⟨[.string _],rfl,rfl⟩,rfl,rfl,rfl⟩,Keep.refl _ _⟩
@[push_cast] def zXt:Con:=⟨[.dat .str,.dat .str],fun (x:ByteArray×ByteArray×Unit)=>x.1.size≤1000000,fun (x:ByteArray×ByteArray×Unit) =>
 {res:=[.val .str (cut1 x.1 x.2.1),.val .str (cut2 x.1 x.2.1),.val .bool (cutB x.1 x.2.1)]}⟩
theorem zOC:FnSpec Tryz.prog 83 zXt:=by
 refine zBS ⟨_,Tryz.func83,by kernel_rfl,rfl⟩ (fun _=>rfl) (fun _=>rfl) fun C γ x vs hpre hen=>?_
 have hg:=hen.ds.2.gd
 rw [hen.P] at hg
 have hargs:=hen.args
 obtain ⟨(t:ByteArray),(u:ByteArray),_⟩:=x
 obtain ⟨v0,_,rfl,h0,v1,_,rfl,h1,rfl⟩:=hargs
 obtain rfl:v0=.string t:=zBX h0
 obtain rfl:v1=.string u:=zBX h1
 have hn:t.size≤1000000:=hpre
 obtain ⟨m,hm⟩:=hg.max 1 (by kernel_rfl)
 refine (Tryz.strings_Cut t u m C.w0 (by omega) hm).mono ?_
 rintro e w' ⟨rfl,n,rfl⟩
 exact ⟨[_,_,_],rfl,⟨_,_,rfl,⟨[.string _],rfl,rfl⟩,_,_,rfl,⟨[.string _],rfl,rfl⟩,_,_,rfl,⟨[.bool _],rfl,rfl⟩,rfl,rfl,rfl⟩,⟨rfl,rfl,rfl,Nat.le_refl _,fun _ _ _=>rfl⟩⟩
@[push_cast] def zU3:Con:=⟨[.dat .str,.dat .str],fun (x:ByteArray×ByteArray×Unit)=>x.1.size≤1000000∧1≤x.2.1.size,fun (x:ByteArray×ByteArray×Unit) =>
 {res:=[.val (.sl .str) (zAA x.1 x.2.1)]}⟩
theorem zKd:FnSpec Tryz.prog 122 zU3:=by
 refine zBS ⟨_,Tryz.func122,by kernel_rfl,rfl⟩ (fun _=>rfl) (fun _=>rfl) fun C γ x vs hpre hen=>?_
 have hg:=hen.ds.2.gd
 rw [hen.P] at hg
 have hlt:=hen.ownlt
 have hargs:=hen.args
 obtain ⟨(t:ByteArray),(u:ByteArray),_⟩:=x
 obtain ⟨v0,_,rfl,h0,v1,_,rfl,h1,rfl⟩:=hargs
 obtain rfl:v0=.string t:=zBX h0
 obtain rfl:v1=.string u:=zBX h1
 obtain ⟨hn,hu⟩:=hpre
 dsimp only at hn hu
 obtain ⟨m,hm⟩:=hg.max 1 (by kernel_rfl)
 refine (Tryz.strings_Split t u m C.w0 (by omega) hm hu).mono ?_
 rintro e w' ⟨rfl,rfl⟩
 refine ⟨[_],rfl,⟨_,[],rfl,?_,rfl,rfl,rfl⟩,⟨rfl,rfl,rfl,by simp only [World.alloc,Array.size_push]; omega,fun k hk _=>by simp only [World.alloc,Array.getElem?_push]; rw [if_neg (by omega)]⟩⟩
 have hlen:(Lib.splitB u 0 (Lib.countB t u) t).length=Lib.countB t u+1:=Lib.splitB_all u hu 0 _ t rfl
 have hcl:Lib.countB t u≤t.size:=Lib.countB_le u hu _ t (Nat.le_refl _)
 have hfm:(Lib.splitB u 0 (Lib.countB t u) t).flatMap (Sh.str).cells=(Lib.splitB u 0 (Lib.countB t u) t).map Value.string:=by
  generalize Lib.splitB u 0 (Lib.countB t u) t=m
  induction m with
  | nil=>rfl
  | cons x m ih=>simp only [List.flatMap_cons,List.map_cons,ih]; rfl
 refine ⟨[.slice (some ⟨C.w0.heap.size,0,none⟩) _ _],zBg (e:=9) (sh:=.str) rfl ?_ (fun g hg=>?_),rfl⟩
 ·show World.ownsRow _ 0 _ 1 _ (Lib.splitB u 0 (Lib.countB t u) t).length ((Lib.splitB u 0 (Lib.countB t u) t).flatMap (Sh.str).cells)
  rw [hfm,hlen]
  have hheap:(C.w0.alloc (.cells ((Lib.splitB u 0 (Lib.countB t u) t).map Value.string).toArray 9)).heap[C.w0.heap.size]?=some (.cells ((Lib.splitB u 0 (Lib.countB t u) t).map Value.string).toArray 9 (0,0)):=by simp only [World.alloc,Array.getElem?_push,if_true]
  exact ⟨by simp [hlen],.inr ⟨C.w0.heap.size,Lib.countB t u+1,((Lib.splitB u 0 (Lib.countB t u) t).map Value.string).toArray,rfl,Nat.zero_le _,hheap,Nat.le_refl _,by unfold maxLen; omega,by simp [hlen],by rw [List.toList_toArray,List.take_of_length_le (by simp [hlen])]⟩⟩
 ·simp only [Value.ownBlock,Option.some.injEq] at hg
  subst hg
  refine ⟨.inr (.inl (Nat.le_refl _)),?_⟩
  cases ho:γ.own C.w0.heap.size with
  | none=>rfl
  | some l=>have:=hlt _ l ho; omega
theorem zQW (b p:ByteArray):(trimV b p).size≤b.size:=by
 have h:=Lib.trimSuffix_le b.data.toList p.data.toList
 rw [Lib.size_eq b]
 show (Lib.trimSuffix b.data.toList p.data.toList).toArray.size≤_
 rw [List.size_toArray]
 exact h
theorem zRE (b p:ByteArray):(cut1 b p).size≤b.size:=by
 rw [Lib.size_eq b]
 show (Lib.cut b.data.toList p.data.toList).1.toArray.size≤_
 rw [List.size_toArray]
 unfold Lib.cut
 split
 ·rw [List.length_take]; omega
 ·exact Nat.le_refl _
theorem zKa (p:ByteArray):∀ (k:Nat) (b:ByteArray),∀ x∈Lib.splitB p 0 k b,x.size≤b.size
 | 0,b,x,h=>by
  rw [Lib.splitB_zero,List.mem_singleton] at h
  rw [h]; exact Nat.le_refl _
 | k+1,b,x,h=>by
  by_cases hi:Lib.indexB b p = -1
  ·rw [Lib.splitB_miss p 0 _ b hi,List.mem_singleton] at h
   rw [h]; exact Nat.le_refl _
  ·have h0 : -1≤Lib.indexB b p:=Lib.index_ge b.data.toList p.data.toList
   obtain ⟨i,hi2⟩:∃ i:Nat,Lib.indexB b p=i:=⟨(Lib.indexB b p).toNat,by omega⟩
   rw [Lib.splitB_hit p 0 k b i hi2] at h
   rcases List.mem_cons.1 h with rfl|h
   ·rw [ByteArray.size_extract]; omega
   ·have:=zKa p k _ x h
    rw [ByteArray.size_extract] at this
    omega
theorem zKc (b p:ByteArray):∀ x∈zAA b p,x.size≤b.size:=zKa p _ b
theorem zFL (b p:ByteArray) (h:1≤p.size):(zAA b p).length=Lib.countB b p+1:=Lib.splitB_all p h 0 _ b rfl
theorem zKb (b p:ByteArray) (h:1≤p.size):(zAA b p).length≤b.size+1:=by
 rw [zFL b p h]
 have:=Lib.countB_le p h _ b (Nat.le_refl _)
 omega
theorem zCs {n:Int} (h:InR n):(itoaV n).size≤21:=by
 unfold InR at h
 have:=Lib.itoa_length_le n (by omega) (by omega)
 show (Lib.itoa n).toArray.size≤_
 rw [List.size_toArray]; exact this
end Go.Proofs.YtlgkplnifaoeeaaGreatDoor
namespace Go.Proofs.YtlgkplnifaoeeaaGreatDoor
open Go.RowKit Go.VS
def chgE (l:List Int) (i n y:Int):Int:=if (l.length:Int)≤i then 4 else if n=0 then 1 else if 30<l.getD i.toNat 0+y then 3 else if l.getD i.toNat 0+y<0 then 9 else 0
def chgL (l:List Int) (i n y:Int):List Int:=if chgE l i n y=0 then l.set i.toNat (l.getD i.toNat 0+y) else l
structure ChgPre (rc:RC) (i y:Int):Prop where
 hrc:rc=.flat 3 .int (flatI rc)
 len:(flatI rc).length≤1000
 at':∀ k,k<(flatI rc).length→0≤(flatI rc).getD k 0∧(flatI rc).getD k 0≤30
 i:0≤i∧i≤99999
 y : -99999≤y∧y≤99999
@[push_cast] def zRo:Con:=⟨[.lend,.dat .int,.dat .int,.dat .int],fun (x:RC×Int×Int×Int×Unit)=>ChgPre x.1 x.2.1 x.2.2.2.1,
 fun (x:RC×Int×Int×Int×Unit)=>Out.mk [.val (.err 161) (chgE (flatI x.1) x.2.1 x.2.2.1 x.2.2.2.1)] [(0,.flat 3 .int (chgL (flatI x.1) x.2.1 x.2.2.1 x.2.2.2.1))] []⟩
theorem zTH:FnSpec Tryz.prog 127 zRo:=by
 refine FnSpec.of_tri' (E:=know [] [] [] []) (zAl all_nil all_nil all_nil) Tryz.func127 rfl rfl (by kernel_rfl) ?_
 intro C x hE hnl hfit hpre
 simp only [Tryz.ntmps127,Tryz.results127,maxLen,seval,push_cast] at hnl hfit hpre ⊢
 obtain ⟨(rc:RC),(i:Int),(n:Int),(y:Int),_⟩:=x
 dsimp only at hfit hpre ⊢
 obtain ⟨hrc,hlen,hat,hi,hy⟩:=hpre
 generalize flatI rc=l at *
 subst hrc
 by_cases h1:(l.length:Int)≤i
 ·have e1:chgE l i n y=4:=if_pos h1
  have e2:chgL l i n y=l:=by rw [chgL,e1]; rfl
  replace hnl:=And.intro hnl (And.intro e1 e2)
  exact auC
 have hk:=hat i.toNat (by omega)
 by_cases h2:n=0
 ·have e1:chgE l i n y=1:=by rw [chgE,if_neg h1,if_pos h2]
  have e2:chgL l i n y=l:=by rw [chgL,e1]; rfl
  replace hnl:=And.intro hnl (And.intro e1 e2)
  exact auC
 by_cases h3:30<l.getD i.toNat 0+y
 ·have e1:chgE l i n y=3:=by rw [chgE,if_neg h1,if_neg h2,if_pos h3]
  have e2:chgL l i n y=l:=by rw [chgL,e1]; rfl
  replace hnl:=And.intro hnl (And.intro e1 e2)
  exact auC
 by_cases h4:l.getD i.toNat 0+y<0
 ·have e1:chgE l i n y=9:=by rw [chgE,if_neg h1,if_neg h2,if_neg h3,if_pos h4]
  have e2:chgL l i n y=l:=by rw [chgL,e1]; rfl
  replace hnl:=And.intro hnl (And.intro e1 e2)
  exact auC
 have e1:chgE l i n y=0:=by rw [chgE,if_neg h1,if_neg h2,if_neg h3,if_neg h4]
 have e2:chgL l i n y=l.set i.toNat (l.getD i.toNat 0+y):=by rw [chgL,if_pos e1]
 replace hnl:=And.intro hnl (And.intro e1 e2)
 exact auC
end Go.Proofs.YtlgkplnifaoeeaaGreatDoor
