/- Value semantics, part W: the rewriting lemmas of the reckoning, gathered; contracts put together. Over any program; no condition. -/
import Derived.Test.YtaldpinkkgdklaaVsV
namespace Go.VS
open Go.RowKit
set_option linter.unusedSimpArgs false
set_option linter.unusedVariables false

theorem bvs_length : ∀ (k : Nat) (as : List AD) (x : TupA as), (paramBVs k as x).length = as.length
  | _, [], _ => rfl
  | k, .dat _ :: as, x => congrArg (· + 1) (bvs_length k as x.2)
  | k, .ptr _ :: as, x => congrArg (· + 1) (bvs_length k as x.2)
  | k, .fnc _ _ :: as, x => congrArg (· + 1) (bvs_length k as x.2)
  | k, .pfn _ _ :: as, x => congrArg (· + 1) (bvs_length k as x.2)
  | k, .lend :: as, x => congrArg (· + 1) (bvs_length (k + 1) as x.2)

/-- The contract of a function from the law of its body. -/
theorem FnSpec.of_tri' {P : Program} {E : Know} (hE : KnowOK P E) {f : FuncId} {fn : Func} {c : Con} {code : Code} (hf : P.funcs[f]? = some fn) (hname : (fn.name == "runtime.NumGoroutine") = false) (hb : fn.body = some code)
    (hn : Nat.ble c.as.length fn.ntmps = true)
    (h : ∀ (C : Ctx) (x : TupA c.as), KnowOK C.P E → C.nl = lends c.as → argsFit c.as x → c.pre x → tri C fn.ntmps code (retQ E (lends c.as) fn.results.toList (c.post x)) (entry c.as x)) : FnSpec P f c :=
  FnSpec.of_tri hE hf hname hb (fun x => by rw [bvs_length]; exact Nat.le_of_ble_eq_true hn) h

theorem all_nil {α : Type} {p : α → Prop} : ∀ x ∈ ([] : List α), p x := by intro x hx; simp at hx
theorem all_cons {α : Type} {p : α → Prop} {a : α} {l : List α} (h : p a) (t : ∀ x ∈ l, p x) : ∀ x ∈ a :: l, p x := by
  intro x hx
  rcases List.mem_cons.1 hx with rfl | hx
  · exact h
  · exact t x hx

/-- A function that calls itself: by a number that grows smaller. -/
theorem FnSpec.zero {P : Program} {f : FuncId} {as : List AD} {pre : TupA as → Prop} {post : TupA as → Out} {m : TupA as → Nat} (hc : Callable P f) : FnSpec P f ⟨as, fun x => pre x ∧ m x < 0, post⟩ :=
  ⟨hc, fun _ _ _ _ h _ => absurd h.2 (Nat.not_lt_zero _)⟩
theorem FnSpec.all {P : Program} {f : FuncId} {as : List AD} {pre : TupA as → Prop} {post : TupA as → Out} {m : TupA as → Nat} (h : ∀ n, FnSpec P f ⟨as, fun x => pre x ∧ m x < n, post⟩) : FnSpec P f ⟨as, pre, post⟩ :=
  ⟨(h 0).callable, fun C γ x vs hp he => (h (m x + 1)).run C γ x vs ⟨hp, Nat.lt_succ_self _⟩ he⟩

/-- An operation that may stand in the head of a region in any order. -/
def headB (E : Know) (o : Oper) : Bool := (!writes o.op || mkOp E o.dst o.op) && !ownLit E o.dst o.op

/-- A region in any order: all but its last k operations write nothing. -/
theorem tri_drawP {C : Ctx} {N : Nat} {Q : Exit → AS → Prop} {s : AS} {E : Know} (hE : KnowOK C.P E) (k : Nat) {id : Nat} {l : List Oper} (hd : allDst N l = true) (_hp : ((l.take (l.length - k)).all (headB E)) = true) (hB : Region.lexTailB .any l.toArray (l.length - k) = true)
    (h : runQ E l.toArray (l.take (l.length - k)) s fun s' => runK E C.nl l.toArray (l.drop (l.length - k)) s' (Q .normal)) : tri C N (.region id l.toArray true) Q s := tri_draw hE _ hd hB h

theorem leaf_val {s : Sh} {x : s.T} {bs : List BV} : leaf s (.val s x :: bs) = some (x, bs) := by simp [leaf]
theorem leafSl_nil {a : Sh} {bs : List BV} : leafSl a (.nils :: bs) = some (([] : List a.T), bs) := rfl
theorem leafSl_val {a : Sh} {x : List a.T} {bs : List BV} : leafSl a (.val (.sl a) x :: bs) = some (x, bs) := by
  show leaf (.sl a) (.val (.sl a) x :: bs) = _
  exact leaf_val (s := .sl a) (x := x)

theorem allVals_ref {sh : Sh} {r : Nat} {l : List SV} : allVals sh (.one (.ref r) :: l) = none := rfl

attribute [push_cast] leaf_val leafSl_nil leafSl_val ofCells mkStruct setParts zeroCells fieldV tailF oneF fieldO tailO oneO List.cons_append List.set_cons_zero List.set_cons_succ allVals_ref Bool.not_not boxIds true_or or_true boxable_val svSize sized fitsT BV.single Sh.agg Bool.not_false List.any_nil List.any_cons Nat.mul_zero Nat.add_zero setRoots_env setRoots_boxes setRoots_roots pvEq lens
  allVals_cons allVals_nil Sh.size tryCast_self stepA_mk stepG_true stepG_false stepG_dec stepG_ndec guardV_bool guardV_skip guardE_some guardD act_move act_assign act_pick act_load act_nilCheck act_binOp
  act_unOp act_convert act_fieldAddr act_field act_indexAddr act_index act_slice act_extract act_build act_makeFunc act_len act_min act_max act_append act_store act_makeSlice act_alloc act_box act_callv
  act_litS litS_true litS_false mkS_true mkS_false mkP_true pure_makeSlice mkV thaw killMk stepB_mk stepH_true stepH_false stepH_dec stepH_ndec pure_move pure_assign pure_pick pure_load pure_nilCheck pure_binOp pure_unOp pure_convert pure_fieldAddr pure_field
  pure_indexAddr pure_index pure_slice pure_extract pure_build pure_makeFunc pure_len pure_min pure_max pure_callv pure_litS litP_false pureCall callOp ev_tmp ev_const ev_func constSV pv ef binI badE bad
  put_env_same put_env_ne put_none of_env of_roots of_boxes lk_same lk_ne lk_nil AS.put_roots AS.put_boxes map_env map_roots map_boxes setRoot_env setRoot_boxes setRoot_same setRoot_ne mapSV killR killRow
  killB killRs names setBox_env setBox_roots setBox_same setBox_ne true_and and_true ne_eq not_false_eq_true List.map_cons List.map_nil thenQ blockQ if_true if_false Int.toNat_natCast idxOK cutOK Sh.zero
  Bool.or_false Bool.or_true Bool.false_or Bool.true_or Bool.or_self List.elem_cons List.elem_nil forall_const false_implies implies_true bq_t bq_f beq_self_eq_true Bool.not_eq_true' Bool.not_eq_false'
  decide_eq_true_eq decide_eq_false_iff_not Bool.false_eq_true Bool.true_eq_false Option.map_some Option.map_none Option.bind_some decide_true decide_false Bool.not_true List.getElem?_toArray
  List.getElem?_cons_zero List.getElem?_cons_succ List.getD_cons_zero List.getD_cons_succ List.take_succ_cons List.take_zero List.drop_succ_cons List.drop_zero List.length_cons List.length_nil Sh.flat callE callF hasLend callL lendIds viewLs viewL offR lentRC whole killL offCaps offFn strictL dropR_env dropR_boxes dropR_roots
  viewAs viewA viewSV viewBV viewSVs viewPtr viewCaps viewFn tryFn_self resRoots resBVs packSV strictSV callC callR callV List.all_cons List.all_nil Bool.and_true Bool.true_and Option.getD_some rid newR
  Option.isNone_some Option.isNone_none Option.isSome_some Option.isSome_none Bool.false_and emptyRC List.mem_cons List.not_mem_nil or_false forall_eq_or_imp forall_eq svConv conv convS false_or bv_val
  List.nodup_cons List.mem_singleton retQ retOK retMatch resSV ownPairs freeOf List.append_nil List.nodup_nil List.nil_append Option.some.injEq
  entry Clo.con enumE paramBVs paramRoots lends argsFit Sh.fits leftA rightA rightP List.cons_append Nat.zero_le

end Go.VS
