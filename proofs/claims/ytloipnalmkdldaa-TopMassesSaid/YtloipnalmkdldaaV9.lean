/- The builtin clear on the tail of an owned list, at the end of a region. Over any program; no condition. -/
import Derived.Test.YtloipnalmkdldaaV8
namespace Go.VS
open Go.RowKit
set_option linter.unusedSimpArgs false
set_option linter.unusedVariables false

section
variable {C : Ctx} {Q : Exit → AS → Prop} {E : Know}

/-- The state behind a clear of x[k:]. -/
def clearS (sh : Sh) (s : AS) (d x k : Nat) (K : AS → Prop) : Prop :=
  match s.env x, s.env k with
  | .one (.ref r), .one (.val .int n) => match s.roots r with
    | some (.flat e a xs) => (a = sh ∧ 0 ≤ n ∧ n ≤ xs.length) ∧ K ((s.setRoot r (some (.flat e a (xs.take n.toNat ++ List.replicate (xs.length - n.toNat) a.zero)))).put (some d) (.one .any))
    | _ => False
  | _, _ => False
theorem clearS_open {sh : Sh} {s : AS} {d x k : Nat} {K : AS → Prop} (h : clearS sh s d x k K) : ∃ (r : Nat) (n : Int) (e : TypeId) (xs : List sh.T), s.env x = .one (.ref r) ∧ s.env k = .one (.val .int n) ∧ s.roots r = some (.flat e sh xs) ∧ 0 ≤ n ∧ n ≤ (xs.length : Int) ∧
    K ((s.setRoot r (some (.flat e sh (xs.take n.toNat ++ List.replicate (xs.length - n.toNat) sh.zero)))).put (some d) (.one .any)) := by
  unfold clearS at h
  split at h
  · rename_i r n h1 h2
    split at h
    · rename_i e a xs h3
      obtain ⟨⟨rfl, h4, h5⟩, h6⟩ := h
      exact ⟨r, n, e, xs, h1, h2, h3, h4, h5, h6⟩
    · exact h.elim
  · exact h.elim

theorem tri_clear {N : Nat} {s : AS} (hE : KnowOK C.P E) {id d x k : Nat} {T ty ty2 : TypeId} {pos pos2 : String} {af af2 : Array Edge} {L : List Oper} (n : Nat) {sh : Sh} (hT : E.G.sh T = some (.sl sh))
    (hL : L = L.take n ++ [⟨some d, .slice T (.tmp x) (some (.tmp k)) none none, ty, pos, af, none⟩, ⟨none, .call { callee := .builtin .clear, args := #[.tmp d], argTypes := #[T] }, ty2, pos2, af2, none⟩]) (hd : allDst N L = true)
    (h : runK E C.nl L.toArray (L.take n) s fun s' => clearS sh s' d x k (Q .normal)) : tri C N (.region id L.toArray false) Q s := by
  refine ⟨fun γ a w hr hN => ?_⟩
  have hd' : ∀ (j : Nat) (o : Oper), L.toArray[j]? = some o → dstOK N o.dst = true := fun j o ho => allDst_spec (ops := L.toArray) (by simpa using hd) j o ho
  have hb := List.all_eq_true.1 hd
  have hdd : d < N := by
    have := hb ⟨some d, .slice T (.tmp x) (some (.tmp k)) none none, ty, pos, af, none⟩ (by rw [hL]; simp)
    simpa [dstOK] using this
  refine wp_region_lit ?_
  have key := runK_then (N := N) (rest := [⟨some d, .slice T (.tmp x) (some (.tmp k)) none none, ty, pos, af, none⟩, ⟨none, .call { callee := .builtin .clear, args := #[.tmp d], argTypes := #[T] }, ty2, pos2, af2, none⟩]) hE (Q := fun e a' w' => ∃ s' γ', Rel C γ' s' a' w' ∧ a'.tmps.size = N ∧ Q e s') hd'
    (fun s' γ' a' w' h1 h2 h3 => ?_) (L.take n) s γ a w (fun o ho => hb o (List.mem_of_mem_take ho)) hN hr h
  · rw [← hL] at key
    exact key
  obtain ⟨r, i, e, xs, k1, k2, k3, k4, k5, k6⟩ := clearS_open h3
  obtain ⟨i, rfl⟩ : ∃ m : Nat, i = (m : Int) := ⟨i.toNat, (Int.toNat_of_nonneg k4).symm⟩
  have k5' : i ≤ xs.length := Int.ofNat_le.1 k5
  rw [Int.toNat_natCast] at k6
  have hx := h1.env x
  rw [k1] at hx
  have hk := h1.env k
  rw [k2] at hk
  have hk := rep_int hk
  obtain ⟨hu, hel, hpos, hsz1⟩ := hE.lang.sl T sh hT
  obtain ⟨i0, z, hi0, hsz, _, hz, hzc⟩ := hE.lang.info _ sh hel
  obtain ⟨hf, hown, hob⟩ := h1.roots r _ k3
  obtain ⟨ad, cap, hg, hc, hcm⟩ := own_slice hown
  have hv' : a'.tmps.getD x undef = .slice ad xs.length cap := hx.trans hg
  have hcl : ∀ zs : List sh.T, (zs.flatMap sh.cells).length = zs.length * sh.size := fun zs => flatMap_len sh.cells sh.size (cells_len sh) zs
  have run1 : ∃ ad', (execOp a'.eval ⟨some d, .slice T (.tmp x) (some (.tmp k)) none none, ty, pos, af, none⟩).run C.P w' = .ok (.value (.slice ad' (xs.length - i) (cap - i))) w' ∧ (i < xs.length → ad' = ad.map (·.add (i * sh.size))) := by
    refine ⟨if cap = i then ad else ad.map (·.add (i * sh.size)), ?_, fun hlt => by rw [if_neg (by omega)]⟩
    refine run_v (v := .slice (if cap = i then ad else ad.map (·.add (i * sh.size))) (xs.length - i) (cap - i)) ?_
    have e1 : a'.eval (.tmp x) = .slice ad xs.length cap := hv'
    have e2 : a'.eval (.tmp k) = .int .i64 (i : Int) := hk
    rw [e1]
    simp [Instr.sliceAt, Instr.slice, Instr.sliceBounds, Instr.sliceBound, asIntOf, run_underlying hu, run_sizeOf hi0, e2, k5', hsz]
  obtain ⟨ad', run1, hadr⟩ := run1
  refine wpList_plain rfl fun K' hK' => ?_
  unfold Oper.wp
  rw [run1]
  refine hK' _ _ ?_
  refine wpList_plain rfl fun K2 hK2 => ?_
  unfold Oper.wp
  have hget : (a'.put (some d) (Value.slice ad' (xs.length - i) (cap - i))).tmps.getD d undef = .slice ad' (xs.length - i) (cap - i) := by
    simp [Act.put, h2, hdd]
  have hrelD : Rel C γ' (s'.put (some d) (.one .any)) (a'.put (some d) (Value.slice ad' (xs.length - i) (cap - i))) w' := h1.put (d := some d) (by simp [dstOK, h2, hdd]) (sv := .one .any) trivial
  rcases Nat.lt_or_ge i xs.length with hlt | hge
  · have hadr := hadr hlt
    have hadr' : ∃ g, ad = some ⟨g, 0, none⟩ := by
      rw [hg] at hown
      rcases hown.2 with ⟨h', h0⟩ | ⟨g, cap', cur, h', _⟩
      · omega
      · simp only [Value.slice.injEq] at h'
        exact ⟨g, h'.1⟩
    obtain ⟨g, rfl⟩ := hadr'
    have hown0 := hown
    rw [hg] at hown
    have hlz : ((List.replicate (xs.length - i) sh.zero).flatMap sh.cells).length = (xs.length - i) * sh.size := by rw [hcl, List.length_replicate]
    obtain ⟨cur, tt, hgg, hcs, hown', hgr⟩ := row_store (o := i * sh.size) hown ((List.replicate (xs.length - i) sh.zero).flatMap sh.cells) (by rw [hlz, hcl, ← Nat.add_mul]; exact Nat.mul_le_mul_right _ (by omega))
    have hst := run_storeCells_at C.P g (i * sh.size) tt ((List.replicate (xs.length - i) sh.zero).flatMap sh.cells) 0 cur w' hgg (by rw [Nat.add_zero]; exact hcs) (by
      intro v hv
      simp only [List.mem_flatMap] at hv
      obtain ⟨n, _, hv⟩ := hv
      exact cells_one sh n v hv)
    rw [Nat.add_zero] at hst
    have hzz : (Builtin.zeroCells z.cells (xs.length - i)).toList = (List.replicate (xs.length - i) sh.zero).flatMap sh.cells := by
      have hzs : z.cells.size = sh.size := by have := congrArg List.length hzc; rw [cells_len] at this; simpa using this
      rw [← made_flat z.cells hzc hpos, ← hzs]
      rfl
    have hzv : ∀ w, (zeroValue (E.G.el T)).run C.P w = .ok z w := fun w => by simp [zeroValue, run_typeInfo w hi0, hz]
    have hrun : (Builtin.clear_ #[T] ty2 #[.slice ad' (xs.length - i) (cap - i)]).run C.P w' = .ok (.tuple #[]) (w'.setRow g (cur.toList.take (i * sh.size) ++ (List.replicate (xs.length - i) sh.zero).flatMap sh.cells ++ cur.toList.drop (i * sh.size + ((List.replicate (xs.length - i) sh.zero).flatMap sh.cells).length)).toArray) := by
      obtain ⟨m, hm⟩ : ∃ m, xs.length - i = m + 1 := ⟨xs.length - i - 1, by omega⟩
      rw [hadr]
      rw [hm] at hzz hst ⊢
      simp [Builtin.clear_, run_underlying hu, hzv, hzz, Addr.add_lit, hst]
    obtain ⟨W, hW⟩ : ∃ W, W = w'.setRow g (cur.toList.take (i * sh.size) ++ (List.replicate (xs.length - i) sh.zero).flatMap sh.cells ++ cur.toList.drop (i * sh.size + ((List.replicate (xs.length - i) sh.zero).flatMap sh.cells).length)).toArray := ⟨_, rfl⟩
    rw [← hW] at hrun hown' hgr
    have hexec : (execOp (a'.put (some d) (Value.slice ad' (xs.length - i) (cap - i))).eval ⟨none, .call { callee := .builtin .clear, args := #[.tmp d], argTypes := #[T] }, ty2, pos2, af2, none⟩).run C.P w' = .ok (.value (.tuple #[])) W := by
      simp [execOp, resolve, invoke, builtin, Act.eval, hget, hrun, Result.andThen]
    rw [hexec]
    refine hK2 _ _ ?_
    have hob' := hob
    rw [hg] at hob'
    have hk' := hob' g rfl
    have hw : Write C γ' w' _ g (.hd r) := ⟨hk'.1, hk'.2, hgr, fun _ => by simp⟩
    have hrel : Rel C γ' ((s'.put (some d) (.one .any)).setRoot r (some (.flat e sh (xs.take i ++ List.replicate (xs.length - i) sh.zero)))) (a'.put (some d) (Value.slice ad' (xs.length - i) (cap - i))) W := by
      refine hrelD.written hw (.inl rfl) ⟨hf, ?_, hob⟩
      rw [hg]
      have e5 : (xs.flatMap sh.cells).take (i * sh.size) ++ (List.replicate (xs.length - i) sh.zero).flatMap sh.cells ++ (xs.flatMap sh.cells).drop (i * sh.size + ((List.replicate (xs.length - i) sh.zero).flatMap sh.cells).length) = (xs.take i ++ List.replicate (xs.length - i) sh.zero).flatMap sh.cells := by
        have e6 : xs.flatMap sh.cells = (xs.take i).flatMap sh.cells ++ (xs.drop i).flatMap sh.cells := by rw [← List.flatMap_append, List.take_append_drop]
        have e7 : ((xs.take i).flatMap sh.cells).length = i * sh.size := by rw [hcl, List.length_take, Nat.min_eq_left k5']
        rw [List.drop_eq_nil_of_le (by rw [hcl, hlz, ← Nat.add_mul]; exact Nat.mul_le_mul_right _ (by omega)), List.append_nil, List.flatMap_append]
        congr 1
        rw [e6, ← e7, List.take_left']
        rfl
      rw [e5] at hown'
      have e8 : (xs.take i ++ List.replicate (xs.length - i) sh.zero).length = xs.length := by rw [List.length_append, List.length_take, List.length_replicate]; omega
      rw [e8]
      exact hown'
    exact wpList_nil ⟨_, γ', hrel, by simp [Act.put, h2], k6⟩
  · have hxi : xs.length - i = 0 := by omega
    have hrun : (Builtin.clear_ #[T] ty2 #[.slice ad' (xs.length - i) (cap - i)]).run C.P w' = .ok (.tuple #[]) w' := by
      rw [hxi]
      cases ad' <;> simp [Builtin.clear_, run_underlying hu]
    have hexec : (execOp (a'.put (some d) (Value.slice ad' (xs.length - i) (cap - i))).eval ⟨none, .call { callee := .builtin .clear, args := #[.tmp d], argTypes := #[T] }, ty2, pos2, af2, none⟩).run C.P w' = .ok (.value (.tuple #[])) w' := by
      simp [execOp, resolve, invoke, builtin, Act.eval, hget, hrun, Result.andThen]
    rw [hexec]
    refine hK2 _ _ ?_
    have e9 : xs.take i ++ List.replicate (xs.length - i) sh.zero = xs := by
      rw [hxi, List.take_of_length_le (by omega)]; simp
    rw [e9] at k6
    have e10 : (s'.setRoot r (some (.flat e sh xs))) = s' := by
      unfold AS.setRoot
      have : upd s'.roots r (some (.flat e sh xs)) = s'.roots := by
        funext q
        unfold upd
        split
        · rename_i hq; rw [hq]; exact k3.symm
        · rfl
      rw [this]
    rw [e10] at k6
    exact wpList_nil ⟨_, γ', hrelD, by simp [Act.put, h2], k6⟩
end
end Go.VS
