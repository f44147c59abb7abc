/- The statement TopStream holds: for every input. No condition. -/
import Derived.Test.YtekfodeknpnkbaaGreatDoorXct
import Derived.Test.YtekfodeknpnkbaaGreatDoorQtht
set_option linter.unusedSimpArgs false
set_option linter.unusedVariables false
namespace Go.Proofs.YtekfodeknpnkbaaGreatDoor
open Go.ChangeShapes Go.WideShapes Go.ChangeAt Go.RowKit Go.VS
set_option maxRecDepth 100000 in
theorem zMl (os:Os) (started:os.Started) (H:Type) (enc:TypeId×Value→H) :
 ReturnsInHanded {} Tryz.checked os 12 .any (fun w args=>(Rows.topStreamSpec.pre enc Tryz.prog Tryz.f12 Rows.topStreamRow.domain false w args∧laidMetH Tryz.prog Rows.topStreamRow.laid w)∧sizedMet enc Tryz.prog Tryz.f12 (OpenSpec.ofChange Rows.topStreamSpec) false w args)
  (Rows.topStreamSpec.post enc Tryz.prog Tryz.f12 false true false false):=by
 refine zBQ (C:=Tryz.checked) (X:=fun w _=>laidMetH Tryz.prog Rows.topStreamRow.laid w) (fun _ _ _ hh h=>h.of_heap hh) own started (by kernel_rfl) Tryz.func12
  (ChangeSpec.witness_shaped (enc:=enc) (C:=Tryz.checked) (os:=os) (X:=fun w _=>laidMetH Tryz.prog Rows.topStreamRow.laid w) false (laidW os) #[.agg #[.slice none 0 0,.slice none 0 0,.int .i64 0]] 8 (zDZ os)
   (zBN os _) (by kernel_rfl) (by kernel_rfl) (by kernel_rfl) (zDb os _)) ?_
 intro W base args ds gs before hval0 hW hL hsh
 have hval:∀ (j:Nat) t v,Tryz.f12.params[j]?=some t→args[j]?=some v→Value.okWide Tryz.prog W .any base t v:=hval0
 have hW':=hW
 obtain ⟨p,q,hA0,hV,rfl,hfz,hnd⟩:=hW
 have hA:DataW.TrodAll enc Tryz.prog W 0 (fun _=>true) true Tryz.f12.params.toList args.toList ds p:=hA0
 rw [Tryz.params12] at hA hval
 obtain ⟨v0,vs0,d0,ds0,p0,q0,hargs,rfl,rfl,h0,r0⟩:=trodAll_cons hA
 obtain ⟨rfl,rfl,rfl⟩:=trodAll_nil r0
 obtain rfl:args=#[v0]:=by cases args; simp_all
 obtain ⟨rfl,rfl⟩:=trodVars_none hV
 obtain ⟨y0,w0⟩:=zBg tabOK partsOK shSm (hval 0 75 v0 rfl rfl) h0
 have lt0:∀ x∈p0,x.block<W.heap.size:=by obtain ⟨m,hm⟩:=h0; exact DataW.trod_lt m _ _ _ hm
 clear hA0 hval0
 refine (zBz zZe W (zFk hL hsh) (fun _=>rfl) (y0,()) [v0] rfl rfl trivial ⟨_,_,rfl,zAq (fun b _=>⟨.inl trivial,rfl⟩) w0,rfl⟩ rfl).mono fun e W' ⟨he,bel⟩=>?_
 subst he
 exact ⟨_,rfl,_,_,_,[],_,[],hW',trodAll_mk1 (shut_bool Tryz.underlying4 _),(trodAll_cons_mk (Below.trod zA2 (by kernel_rfl) (of_decide_eq_true (by kernel_rfl)) h0 bel lt0) trodAll_mk0),rfl,bel.frame _,fun h=>by cases h⟩
set_option maxHeartbeats 8000000 in
theorem zK8:joinedFacts Tryz.prog 12 Tryz.f12 Rows.topStreamSpec Rows.topStreamRow=true :=
 zDa (by as_aux_lemma=>kernel_rfl) zA2 zHC (by as_aux_lemma=>kernel_rfl) (by as_aux_lemma=>kernel_rfl) (by as_aux_lemma=>kernel_rfl) zFj (by as_aux_lemma=>kernel_rfl) zFh (by as_aux_lemma=>kernel_rfl) (by as_aux_lemma=>kernel_rfl) (by as_aux_lemma=>kernel_rfl) (by as_aux_lemma=>kernel_rfl) (by as_aux_lemma=>kernel_rfl) (by as_aux_lemma=>kernel_rfl) (by as_aux_lemma=>kernel_rfl) (by as_aux_lemma=>kernel_rfl) (by as_aux_lemma=>kernel_rfl) (by as_aux_lemma=>kernel_rfl) (by as_aux_lemma=>kernel_rfl) (by as_aux_lemma=>kernel_rfl) (by as_aux_lemma=>kernel_rfl) zHz (by as_aux_lemma=>kernel_rfl) zFg zFe zFf zHB (by as_aux_lemma=>kernel_rfl) (by as_aux_lemma=>kernel_rfl) (by as_aux_lemma=>kernel_rfl) (by as_aux_lemma=>kernel_rfl)
theorem tst_named : Tryz.prog.funcNamed "drayage/drayagetop.TopStream"=some 12:=by kernel_rfl
theorem zOA:Rows.TopStreamSaid :=
 OpenClaim.holds_of_wide 12 Tryz.f12 rfl rfl rfl rfl rfl rfl rfl ⟨rfl,rfl,rfl,rfl,rfl⟩ rfl rfl rfl rfl rfl tst_named Tryz.func12 zK8
  (of_decide_eq_true (by as_aux_lemma=>kernel_rfl)) (by as_aux_lemma=>unfold Func.isWrapper; first|(rw [if_pos (by decide +kernel)]; kernel_rfl)|(rw [if_neg (by decide +kernel)]; exact ⟨rfl,rfl⟩))
  (fun os started H enc _=>zMl os started H enc)
set_option maxHeartbeats 8000000 in
theorem tst_proved:Rows.TopStreamCardSaid :=
 Claim7.holds_tied_plain_at .later [] [.data,.data,.data,.data,.handle,.sentinel,.sentinel,.pinned] true (true, "38b002aaa0cc42011a9012a558afe0040d4330837fa69f6fc47ea4834dd62502") true
  zOA (fun _ h=>by cases h) (by as_aux_lemma=>kernel_rfl) (fun _ h=>by cases h) topStream_row_tie rfl ⟨rfl,rfl⟩ zHA rfl
  (fun f fn hf hfn=>by
   obtain rfl:f=12:=Option.some.inj (tst_named.symm.trans hf) |>.symm
   obtain rfl:fn=Tryz.f12:=(Option.some.inj (Tryz.func12.symm.trans hfn)).symm
   exact ⟨zFi,fun j t ht=>by
    rw [Tryz.params12] at ht
    have hm:t∈[75]:=by simpa using Array.mem_of_getElem? ht
    have hall:([75].all fun u=>!Tryz.prog.wantsStandIn u)=true:=(by as_aux_lemma=>kernel_rfl)
    exact (show Tryz.prog.wantsStandIn t=false by simpa using List.all_eq_true.1 hall t hm)⟩)
  (by as_aux_lemma=>kernel_rfl)
#print axioms tst_proved
end Go.Proofs.YtekfodeknpnkbaaGreatDoor
