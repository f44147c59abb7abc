/- The statement HouseNews holds: for every input. No condition. -/
import Derived.Test.YtekfodeknpnkbaaGreatDoorXct
import Derived.Test.YtekfodeknpnkbaaGreatDoorT68
set_option linter.unusedSimpArgs false
set_option linter.unusedVariables false
namespace Go.Proofs.YtekfodeknpnkbaaGreatDoor
open Go.ChangeShapes Go.WideShapes Go.ChangeAt Go.RowKit Go.VS
set_option maxRecDepth 100000 in
theorem zQZ (os:Os) (started:os.Started) (H:Type) (enc:TypeId×Value→H) :
 ReturnsInHanded {} Tryz.checked os 10 .any (fun w args=>(Rows.houseNewsSpec.pre enc Tryz.prog Tryz.f10 Rows.houseNewsRow.domain false w args∧laidMetH Tryz.prog Rows.houseNewsRow.laid w)∧sizedMet enc Tryz.prog Tryz.f10 (OpenSpec.ofChange Rows.houseNewsSpec) false w args)
  (Rows.houseNewsSpec.post enc Tryz.prog Tryz.f10 false true false false):=by
 refine zBQ (C:=Tryz.checked) (X:=fun w _=>laidMetH Tryz.prog Rows.houseNewsRow.laid w) (fun _ _ _ hh h=>h.of_heap hh) own started (by kernel_rfl) Tryz.func10
  (ChangeSpec.witness_shaped (enc:=enc) (C:=Tryz.checked) (os:=os) (X:=fun w _=>laidMetH Tryz.prog Rows.houseNewsRow.laid w) false (laidW os) #[.slice none 0 0,.string ⟨#[]⟩,.slice none 0 0] 8 (zDZ os)
   (zBN os _) (by kernel_rfl) (by kernel_rfl) (by kernel_rfl) (zDb os _)) ?_
 intro W base args ds gs before hval0 hW hL hsh
 have hval:∀ (j:Nat) t v,Tryz.f10.params[j]?=some t→args[j]?=some v→Value.okWide Tryz.prog W .any base t v:=hval0
 have hW':=hW
 obtain ⟨p,q,hA0,hV,rfl,hfz,hnd⟩:=hW
 have hA:DataW.TrodAll enc Tryz.prog W 0 (fun _=>true) true Tryz.f10.params.toList args.toList ds p:=hA0
 rw [Tryz.params10] at hA hval
 obtain ⟨v0,vs0,d0,ds0,p0,q0,hargs,rfl,rfl,h0,r0⟩:=trodAll_cons hA
 obtain ⟨v1,vs1,d1,ds1,p1,q1,rfl,rfl,rfl,h1,r1⟩:=trodAll_cons r0
 obtain ⟨v2,vs2,d2,ds2,p2,q2,rfl,rfl,rfl,h2,r2⟩:=trodAll_cons r1
 obtain ⟨rfl,rfl,rfl⟩:=trodAll_nil r2
 obtain rfl:args=#[v0,v1,v2]:=by cases args; simp_all
 obtain ⟨rfl,rfl⟩:=trodVars_none hV
 obtain ⟨y0,w0⟩:=zBg tabOK partsOK shT (hval 0 22 v0 rfl rfl) h0
 have lt0:∀ x∈p0,x.block<W.heap.size:=by obtain ⟨m,hm⟩:=h0; exact DataW.trod_lt m _ _ _ hm
 obtain ⟨y1,w1⟩:=zBg tabOK partsOK shSt (hval 1 9 v1 rfl rfl) h1
 have lt1:∀ x∈p1,x.block<W.heap.size:=by obtain ⟨m,hm⟩:=h1; exact DataW.trod_lt m _ _ _ hm
 obtain ⟨y2,w2⟩:=zBg tabOK partsOK shT (hval 2 22 v2 rfl rfl) h2
 have lt2:∀ x∈p2,x.block<W.heap.size:=by obtain ⟨m,hm⟩:=h2; exact DataW.trod_lt m _ _ _ hm
 clear hA0 hval0
 refine (zBz zRo W (zFk hL hsh) (fun _=>rfl) (y0,y1,y2,()) [v0,v1,v2] rfl rfl trivial ⟨_,_,rfl,zAq (fun b _=>⟨.inl trivial,rfl⟩) w0,⟨_,_,rfl,zAq (fun b _=>⟨.inl trivial,rfl⟩) w1,⟨_,_,rfl,zAq (fun b _=>⟨.inl trivial,rfl⟩) w2,rfl⟩⟩⟩ rfl).mono fun e W' ⟨he,bel⟩=>?_
 subst he
 exact ⟨_,rfl,_,_,_,[],_,[],hW',trodAll_mk1 (shut_bool Tryz.underlying4 _),(trodAll_cons_mk (Below.trod zA2 (by kernel_rfl) (of_decide_eq_true (by kernel_rfl)) h0 bel lt0) (trodAll_cons_mk (Below.trod zA2 (by kernel_rfl) (of_decide_eq_true (by kernel_rfl)) h1 bel lt1) (trodAll_cons_mk (Below.trod zA2 (by kernel_rfl) (of_decide_eq_true (by kernel_rfl)) h2 bel lt2) trodAll_mk0))),rfl,bel.frame _,fun h=>by cases h⟩
set_option maxHeartbeats 8000000 in
theorem zQY:joinedFacts Tryz.prog 10 Tryz.f10 Rows.houseNewsSpec Rows.houseNewsRow=true :=
 zDa (by as_aux_lemma=>kernel_rfl) zA2 zHC (by as_aux_lemma=>kernel_rfl) (by as_aux_lemma=>kernel_rfl) (by as_aux_lemma=>kernel_rfl) zFj (by as_aux_lemma=>kernel_rfl) zFh (by as_aux_lemma=>kernel_rfl) (by as_aux_lemma=>kernel_rfl) (by as_aux_lemma=>kernel_rfl) (by as_aux_lemma=>kernel_rfl) (by as_aux_lemma=>kernel_rfl) (by as_aux_lemma=>kernel_rfl) (by as_aux_lemma=>kernel_rfl) (by as_aux_lemma=>kernel_rfl) (by as_aux_lemma=>kernel_rfl) (by as_aux_lemma=>kernel_rfl) (by as_aux_lemma=>kernel_rfl) (by as_aux_lemma=>kernel_rfl) (by as_aux_lemma=>kernel_rfl) zHz (by as_aux_lemma=>kernel_rfl) zFg zFe zFf zHB (by as_aux_lemma=>kernel_rfl) (by as_aux_lemma=>kernel_rfl) (by as_aux_lemma=>kernel_rfl) (by as_aux_lemma=>kernel_rfl)
theorem hne_named : Tryz.prog.funcNamed "drayage/drayagelaw09.HouseNews"=some 10:=by kernel_rfl
theorem zVJ:Rows.HouseNewsSaid :=
 OpenClaim.holds_of_wide 10 Tryz.f10 rfl rfl rfl rfl rfl rfl rfl ⟨rfl,rfl,rfl,rfl,rfl⟩ rfl rfl rfl rfl rfl hne_named Tryz.func10 zQY
  (of_decide_eq_true (by as_aux_lemma=>kernel_rfl)) (by as_aux_lemma=>unfold Func.isWrapper; first|(rw [if_pos (by decide +kernel)]; kernel_rfl)|(rw [if_neg (by decide +kernel)]; exact ⟨rfl,rfl⟩))
  (fun os started H enc _=>zQZ os started H enc)
set_option maxHeartbeats 8000000 in
theorem hne_proved:Rows.HouseNewsCardSaid :=
 Claim7.holds_tied_plain_at .later [] [.data,.data,.data,.data,.handle,.sentinel,.sentinel,.pinned] true (true, "38b002aaa0cc42011a9012a558afe0040d4330837fa69f6fc47ea4834dd62502") true
  zVJ (fun _ h=>by cases h) (by as_aux_lemma=>kernel_rfl) (fun _ h=>by cases h) houseNews_row_tie rfl ⟨rfl,rfl⟩ zHA rfl
  (fun f fn hf hfn=>by
   obtain rfl:f=10:=Option.some.inj (hne_named.symm.trans hf) |>.symm
   obtain rfl:fn=Tryz.f10:=(Option.some.inj (Tryz.func10.symm.trans hfn)).symm
   exact ⟨zFi,fun j t ht=>by
    rw [Tryz.params10] at ht
    have hm:t∈[22,9,22]:=by simpa using Array.mem_of_getElem? ht
    have hall:([22,9,22].all fun u=>!Tryz.prog.wantsStandIn u)=true:=(by as_aux_lemma=>kernel_rfl)
    exact (show Tryz.prog.wantsStandIn t=false by simpa using List.all_eq_true.1 hall t hm)⟩)
  (by as_aux_lemma=>kernel_rfl)
#print axioms hne_proved
end Go.Proofs.YtekfodeknpnkbaaGreatDoor
