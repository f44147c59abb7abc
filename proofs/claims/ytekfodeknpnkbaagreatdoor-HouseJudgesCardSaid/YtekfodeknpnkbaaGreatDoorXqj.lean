/- The statement HouseJudges holds: for every input. No condition. -/
import Derived.Test.YtekfodeknpnkbaaGreatDoorJ17
import Derived.Test.YtekfodeknpnkbaaGreatDoorXcj
set_option linter.unusedSimpArgs false
set_option linter.unusedVariables false
namespace Go.Proofs.YtekfodeknpnkbaaGreatDoor
open Go.ChangeShapes Go.WideShapes Go.ChangeAt Go.RowKit Go.VS
set_option maxRecDepth 100000 in
theorem zO9 (os:Os) (started:os.Started) (H:Type) (enc:TypeId×Value->H) :
 ReturnsInHanded {} Tryz.checked os 8 .any (fun w args=>(Rows.houseJudgesSpec.pre enc Tryz.prog Tryz.f8 Rows.houseJudgesRow.domain false w args/\laidMetH Tryz.prog Rows.houseJudgesRow.laid w)/\sizedMet enc Tryz.prog Tryz.f8 (OpenSpec.ofChange Rows.houseJudgesSpec) false w args)
  (Rows.houseJudgesSpec.post enc Tryz.prog Tryz.f8 false true false false):=by
 refine zLs (C:=Tryz.checked) (X:=fun w _=>laidMetH Tryz.prog Rows.houseJudgesRow.laid w) (fun _ _ _ hh h=>h.of_heap hh) own started kr Tryz.func8
  (ChangeSpec.witness_shaped (enc:=enc) (C:=Tryz.checked) (os:=os) (X:=fun w _=>laidMetH Tryz.prog Rows.houseJudgesRow.laid w) false (laidW os) #[.slice none 0 0,.slice none 0 0,.agg #[.slice none 0 0,.slice none 0 0,.slice none 0 0]] 8 (zTx os)
   (zKU os _) kr kr kr (zRj os _)) ?_
 intro W base args ds gs before hval0 hW hL hsh
 have hval:∀ (j:Nat) t v,Tryz.f8.params[j]?=some t->args[j]?=some v->Value.okWide Tryz.prog W .any base t v:=hval0
 have hW':=hW
 obtain ⟨p,q,hA0,hV,rfl,hfz,hnd⟩:=hW
 have hA:DataW.TrodAll enc Tryz.prog W 0 (fun _=>true) true Tryz.f8.params.toList args.toList ds p:=hA0
 rw [Tryz.params8] at hA hval
 obtain ⟨v0,vs0,d0,ds0,p0,q0,hargs,rfl,rfl,h0,r0⟩:=trodAll_cons hA
 obtain ⟨v1,vs1,d1,ds1,p1,q1,rfl,rfl,rfl,h1,r1⟩:=trodAll_cons r0
 obtain ⟨v2,vs2,d2,ds2,p2,q2,rfl,rfl,rfl,h2,r2⟩:=trodAll_cons r1
 obtain ⟨rfl,rfl,rfl⟩:=trodAll_nil r2
 obtain rfl:args=#[v0,v1,v2]:=by cases args; simp_all
 obtain ⟨rfl,rfl⟩:=trodVars_none hV
 obtain ⟨y0,w0⟩:=zJ3 tabOK partsOK shT (hval 0 22 v0 rfl rfl) h0
 have lt0:∀ x∈p0,x.block<W.heap.size:=by obtain ⟨m,hm⟩:=h0; exact DataW.trod_lt m _ _ _ hm
 obtain ⟨y1,w1⟩:=zJ3 tabOK partsOK shLS (hval 1 23 v1 rfl rfl) h1
 have lt1:∀ x∈p1,x.block<W.heap.size:=by obtain ⟨m,hm⟩:=h1; exact DataW.trod_lt m _ _ _ hm
 obtain ⟨y2,w2⟩:=zJ3 tabOK partsOK shOf9 (hval 2 68 v2 rfl rfl) h2
 have lt2:∀ x∈p2,x.block<W.heap.size:=by obtain ⟨m,hm⟩:=h2; exact DataW.trod_lt m _ _ _ hm
 clear hA0 hval0
 refine (zJD zKR W (zVH hL hsh) (fun _=>rfl) (y0,y1,y2,()) [v0,v1,v2] rfl rfl trivial ⟨_,_,rfl,zAI (fun b _=>⟨.inl trivial,rfl⟩) w0,⟨_,_,rfl,zAI (fun b _=>⟨.inl trivial,rfl⟩) w1,⟨_,_,rfl,zAI (fun b _=>⟨.inl trivial,rfl⟩) w2,rfl⟩⟩⟩ rfl).mono fun e W' ⟨he,bel⟩=>?_
 subst he
 exact ⟨_,rfl,_,_,_,[],_,[],hW',trodAll_mk1 (shut_bool Tryz.underlying4 _),(trodAll_cons_mk (Below.trod zJV kr (bg kr) h0 bel lt0) (trodAll_cons_mk (Below.trod zJV kr (bg kr) h1 bel lt1) (trodAll_cons_mk (Below.trod zJV kr (bg kr) h2 bel lt2) trodAll_mk0))),rfl,bel.frame _,fun h=>by cases h⟩
set_option maxHeartbeats 8000000 in
theorem zO8:joinedFacts Tryz.prog 8 Tryz.f8 Rows.houseJudgesSpec Rows.houseJudgesRow=true :=
 zRd kq zJV zXk kq kq kq zVG kq zVE kq kq kq kq kq kq kq kq kq kq kq kq kq zXh kq zVD zVB zVC zXj kq kq kq kq
theorem hju_named : Tryz.prog.funcNamed "drayage/drayagelaw09.HouseJudges"=some 8:=by kernel_rfl
theorem zTr:Rows.HouseJudgesSaid :=
 OpenClaim.holds_of_wide 8 Tryz.f8 rfl rfl rfl rfl rfl rfl rfl ⟨rfl,rfl,rfl,rfl,rfl⟩ rfl rfl rfl rfl rfl hju_named Tryz.func8 zO8
  (bg kq) (by as_aux_lemma=>unfold Func.isWrapper; first|(rw [ah (by decide +kernel)]; kernel_rfl)|(rw [ae (by decide +kernel)]; exact ⟨rfl,rfl⟩))
  (fun os started H enc _=>zO9 os started H enc)
set_option maxHeartbeats 8000000 in
theorem hju_proved:Rows.HouseJudgesCardSaid :=
 Claim7.holds_tied_plain_at .later [] [.data,.data,.data,.data,.handle,.sentinel,.sentinel,.pinned] true (true, "38b002aaa0cc42011a9012a558afe0040d4330837fa69f6fc47ea4834dd62502") true
  zTr (fun _ h=>by cases h) kq (fun _ h=>by cases h) houseJudges_row_tie rfl ⟨rfl,rfl⟩ zXi rfl
  (fun f fn hf hfn=>by
   obtain rfl:f=8:=bP (hju_named.symm.trans hf) |>.symm
   obtain rfl:fn=Tryz.f8:=(bP (Tryz.func8.symm.trans hfn)).symm
   exact ⟨zVF,fun j t ht=>by
    rw [Tryz.params8] at ht
    have hm:t∈[22,23,68]:=by simpa using Array.mem_of_getElem? ht
    have hall:([22,23,68].all fun u=>!Tryz.prog.wantsStandIn u)=true:=kq
    exact (show Tryz.prog.wantsStandIn t=false by simpa using ay.1 hall t hm)⟩)
  kq
#print axioms hju_proved
end Go.Proofs.YtekfodeknpnkbaaGreatDoor
