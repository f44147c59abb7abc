/- The statement HouseReplays holds: for every input. No condition. -/
import Derived.Test.YtekfodeknpnkbaaGreatDoorXct
import Derived.Test.YtekfodeknpnkbaaGreatDoorT57
set_option linter.unusedSimpArgs false
set_option linter.unusedVariables false
namespace Go.Proofs.YtekfodeknpnkbaaGreatDoor
open Go.ChangeShapes Go.WideShapes Go.ChangeAt Go.RowKit Go.VS
set_option maxRecDepth 100000 in
theorem zQ5 (os:Os) (started:os.Started) (H:Type) (enc:TypeId×Value→H) :
 ReturnsInHanded {} Tryz.checked os 5 .any (fun w args=>(Rows.houseReplaysSpec.pre enc Tryz.prog Tryz.f5 Rows.houseReplaysRow.domain false w args∧laidMetH Tryz.prog Rows.houseReplaysRow.laid w)∧sizedMet enc Tryz.prog Tryz.f5 (OpenSpec.ofChange Rows.houseReplaysSpec) false w args)
  (Rows.houseReplaysSpec.post enc Tryz.prog Tryz.f5 false true false false):=by
 refine zBQ (C:=Tryz.checked) (X:=fun w _=>laidMetH Tryz.prog Rows.houseReplaysRow.laid w) (fun _ _ _ hh h=>h.of_heap hh) own started (by kernel_rfl) Tryz.func5
  (ChangeSpec.witness_shaped (enc:=enc) (C:=Tryz.checked) (os:=os) (X:=fun w _=>laidMetH Tryz.prog Rows.houseReplaysRow.laid w) false (laidW os) #[.slice none 0 0,.string ⟨#[]⟩] 8 (zDZ os)
   (zBN os _) (by kernel_rfl) (by kernel_rfl) (by kernel_rfl) (zDb os _)) ?_
 intro W base args ds gs before hval0 hW hL hsh
 have hval:∀ (j:Nat) t v,Tryz.f5.params[j]?=some t→args[j]?=some v→Value.okWide Tryz.prog W .any base t v:=hval0
 have hW':=hW
 obtain ⟨p,q,hA0,hV,rfl,hfz,hnd⟩:=hW
 have hA:DataW.TrodAll enc Tryz.prog W 0 (fun _=>true) true Tryz.f5.params.toList args.toList ds p:=hA0
 rw [Tryz.params5] at hA hval
 obtain ⟨v0,vs0,d0,ds0,p0,q0,hargs,rfl,rfl,h0,r0⟩:=trodAll_cons hA
 obtain ⟨v1,vs1,d1,ds1,p1,q1,rfl,rfl,rfl,h1,r1⟩:=trodAll_cons r0
 obtain ⟨rfl,rfl,rfl⟩:=trodAll_nil r1
 obtain rfl:args=#[v0,v1]:=by cases args; simp_all
 obtain ⟨rfl,rfl⟩:=trodVars_none hV
 obtain ⟨y0,w0⟩:=zBg tabOK partsOK shT (hval 0 22 v0 rfl rfl) h0
 have lt0:∀ x∈p0,x.block<W.heap.size:=by obtain ⟨m,hm⟩:=h0; exact DataW.trod_lt m _ _ _ hm
 obtain ⟨y1,w1⟩:=zBg tabOK partsOK shSt (hval 1 9 v1 rfl rfl) h1
 have lt1:∀ x∈p1,x.block<W.heap.size:=by obtain ⟨m,hm⟩:=h1; exact DataW.trod_lt m _ _ _ hm
 clear hA0 hval0
 refine (zBz zLy W (zFk hL hsh) (fun _=>rfl) (y0,y1,()) [v0,v1] rfl rfl trivial ⟨_,_,rfl,zAq (fun b _=>⟨.inl trivial,rfl⟩) w0,⟨_,_,rfl,zAq (fun b _=>⟨.inl trivial,rfl⟩) w1,rfl⟩⟩ rfl).mono fun e W' ⟨he,bel⟩=>?_
 subst he
 exact ⟨_,rfl,_,_,_,[],_,[],hW',trodAll_mk1 (shut_bool Tryz.underlying4 _),(trodAll_cons_mk (Below.trod zA2 (by kernel_rfl) (of_decide_eq_true (by kernel_rfl)) h0 bel lt0) (trodAll_cons_mk (Below.trod zA2 (by kernel_rfl) (of_decide_eq_true (by kernel_rfl)) h1 bel lt1) trodAll_mk0)),rfl,bel.frame _,fun h=>by cases h⟩
set_option maxHeartbeats 8000000 in
theorem zQ4:joinedFacts Tryz.prog 5 Tryz.f5 Rows.houseReplaysSpec Rows.houseReplaysRow=true :=
 zDa (by as_aux_lemma=>kernel_rfl) zA2 zHC (by as_aux_lemma=>kernel_rfl) (by as_aux_lemma=>kernel_rfl) (by as_aux_lemma=>kernel_rfl) zFj (by as_aux_lemma=>kernel_rfl) zFh (by as_aux_lemma=>kernel_rfl) (by as_aux_lemma=>kernel_rfl) (by as_aux_lemma=>kernel_rfl) (by as_aux_lemma=>kernel_rfl) (by as_aux_lemma=>kernel_rfl) (by as_aux_lemma=>kernel_rfl) (by as_aux_lemma=>kernel_rfl) (by as_aux_lemma=>kernel_rfl) (by as_aux_lemma=>kernel_rfl) (by as_aux_lemma=>kernel_rfl) (by as_aux_lemma=>kernel_rfl) (by as_aux_lemma=>kernel_rfl) (by as_aux_lemma=>kernel_rfl) zHz (by as_aux_lemma=>kernel_rfl) zFg zFe zFf zHB (by as_aux_lemma=>kernel_rfl) (by as_aux_lemma=>kernel_rfl) (by as_aux_lemma=>kernel_rfl) (by as_aux_lemma=>kernel_rfl)
theorem hrp_named : Tryz.prog.funcNamed "drayage/drayagelaw09.HouseReplays"=some 5:=by kernel_rfl
theorem zVM:Rows.HouseReplaysSaid :=
 OpenClaim.holds_of_wide 5 Tryz.f5 rfl rfl rfl rfl rfl rfl rfl ⟨rfl,rfl,rfl,rfl,rfl⟩ rfl rfl rfl rfl rfl hrp_named Tryz.func5 zQ4
  (of_decide_eq_true (by as_aux_lemma=>kernel_rfl)) (by as_aux_lemma=>unfold Func.isWrapper; first|(rw [if_pos (by decide +kernel)]; kernel_rfl)|(rw [if_neg (by decide +kernel)]; exact ⟨rfl,rfl⟩))
  (fun os started H enc _=>zQ5 os started H enc)
set_option maxHeartbeats 8000000 in
theorem hrp_proved:Rows.HouseReplaysCardSaid :=
 Claim7.holds_tied_plain_at .later [] [.data,.data,.data,.data,.handle,.sentinel,.sentinel,.pinned] true (true, "38b002aaa0cc42011a9012a558afe0040d4330837fa69f6fc47ea4834dd62502") true
  zVM (fun _ h=>by cases h) (by as_aux_lemma=>kernel_rfl) (fun _ h=>by cases h) houseReplays_row_tie rfl ⟨rfl,rfl⟩ zHA rfl
  (fun f fn hf hfn=>by
   obtain rfl:f=5:=Option.some.inj (hrp_named.symm.trans hf) |>.symm
   obtain rfl:fn=Tryz.f5:=(Option.some.inj (Tryz.func5.symm.trans hfn)).symm
   exact ⟨zFi,fun j t ht=>by
    rw [Tryz.params5] at ht
    have hm:t∈[22,9]:=by simpa using Array.mem_of_getElem? ht
    have hall:([22,9].all fun u=>!Tryz.prog.wantsStandIn u)=true:=(by as_aux_lemma=>kernel_rfl)
    exact (show Tryz.prog.wantsStandIn t=false by simpa using List.all_eq_true.1 hall t hm)⟩)
  (by as_aux_lemma=>kernel_rfl)
#print axioms hrp_proved
end Go.Proofs.YtekfodeknpnkbaaGreatDoor
