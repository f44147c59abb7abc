import Derived.Test.YtlgkplnifaoeeaaGreatDoorJ5
import Derived.Test.YtlgkplnifaoeeaaGreatDoorJ4
import Derived.Tactics2
import Derived.Laws.CopyOwn
import Derived.Laws.Bits64b
import Derived.WalkKit
set_option linter.unusedSimpArgs false
set_option linter.unusedVariables false
namespace Go.Proofs.YtlgkplnifaoeeaaGreatDoor
open Go.RowKit Go.VS
theorem zIv (n : Nat) (hn : n ≤ 1000) : bits .and .u64 (n : Int) 4294967295 = n := by
  have := bits_and_u64_nat n 4294967295 (by omega) (by omega)
  rw [show ((4294967295 : Nat) : Int) = 4294967295 from rfl] at this
  rw [this, show (4294967295 : Nat) = 2 ^ 32 - 1 from rfl, Nat.and_two_pow_sub_one_eq_mod, Nat.mod_eq_of_lt (by omega)]
theorem zPc (n : Nat) (hn : n ≤ 1000) (w : World) : Calls Tryz.prog 156 #[.int .u64 1, .int .u64 n] w fun e w' => e = .returned (.tuple #[.int .u64 0, .int .u64 n]) ∧ w' = w := by
  have a1 : bits .and .u64 1 4294967295 = 1 := zIv 1 (by omega)
  have a0 : bits .and .u64 0 4294967295 = 0 := zIv 0 (by omega)
  have an := zIv n hn
  have w0 : IntKind.u64.wrap 0 = 0 := by decide
  have wn : IntKind.u64.wrap (n : Int) = n := IntWalk.u64_in _ (by omega)
  have d1 : (n : Int) / 4294967296 = 0 := by omega
  go_enter Tryz.func156, Tryz.ntmps156
  go_wp2
  simp [bodyPost, results, Tryz.results156, go_sem, a1, a0, an, w0, wn, d1]
theorem mul_one (n : Nat) (hn : n ≤ 1000) (w : World) : Calls Tryz.prog 114 #[.int .u64 1, .int .u64 n] w fun e w' => e = .returned (.tuple #[.int .u64 0, .int .u64 n]) ∧ w' = w := by
  go_enter Tryz.func114, Tryz.ntmps114
  go_wp2_with (go_at_call 156; refine (zPc n hn _).mono ?_; rintro e w' ⟨rfl, rfl⟩)
  simp [bodyPost, results, Tryz.results114, go_sem]
set_option maxRecDepth 20000 in
theorem zJK (v : Int) (n : Nat) (hn : n ≤ 1000) (w : World) (b off cap : Nat) (hx : w.cell? ⟨b, off, none⟩ = some (.int .i64 v)) (hlt : b < w.heap.size) :
    Calls Tryz.prog 68 #[.slice (some ⟨b, off, none⟩) 1 cap, .int .i64 n] w fun e w' =>
      e = .returned (.slice (some ⟨w.heap.size, 0, none⟩) n n) ∧ w'.heap[w.heap.size]? = some (.cells (List.replicate n (.int .i64 v)).toArray 3 (0, 0)) ∧ Below w.heap.size w w' := by
  have wn : IntKind.u64.wrap (n : Int) = n := IntWalk.u64_in _ (by omega)
  have wi : IntKind.i64.wrap (n : Int) = n := IntWalk.i64_in _ (by omega)
  have w1 : IntKind.u64.wrap 1 = 1 := by decide
  have hmk : ∀ w : World, (Instr.makeSlice 25 (.int .i64 n) (.int .i64 n)).run Tryz.prog w = .ok (.slice (some ⟨w.heap.size, 0, none⟩) n n) (w.alloc (.cells (List.replicate n (Value.int .i64 0)).toArray 3)) := fun w => by
    obtain ⟨i, z, hi, hs, hby, hz, hzc⟩ := tabOK.lang.info 3 .int shI
    have h1 := Nat.mul_le_mul hn hby
    have h2 : ((n * i.bytes : Nat) : Int) ≤ 1024000 := by omega
    rw [Int.natCast_mul] at h2
    have h3 : (i.bytes : Int) * (n : Int) ≤ 281474976710656 := by rw [Int.mul_comm]; omega
    have h4 := run_makeSlice (P := Tryz.prog) (w := w) 25 3 i z Tryz.underlying25 hi hz .i64 .i64 n n (by omega) (by omega) (by rw [Int.toNat_natCast, show i.size = 1 from hs]; omega) h3 (by omega)
    rw [Int.toNat_natCast, show i.size = 1 from hs, Nat.mul_one] at h4
    rw [h4]
    have hz' : z.cells.toList = [Value.int .i64 0] := hzc
    have h5 := zDX (sh := .int) z.cells hz' (by decide) n
    have h6 : (List.replicate n (Sh.int).zero).flatMap (Sh.int).cells = List.replicate n (Value.int .i64 0) := by rw [List.flatMap_replicate]; simp [Sh.cells, Sh.zero]
    rw [h6, show (Sh.int).size = 1 from rfl, Nat.mul_one] at h5
    rw [show madeCells z.cells n = (List.replicate n (Value.int .i64 0)).toArray from by rw [← Array.toList_inj, h5]]
  go_enter Tryz.func68, Tryz.ntmps68
  have hsz : (Tryz.prog.info? 3).map (·.size) = some 1 := by
    obtain ⟨i, z, hi, hs, _⟩ := tabOK.lang.info 3 .int shI
    rw [hi]
    exact congrArg some hs
  obtain ⟨W, hW⟩ : ∃ W, W = w.alloc (.cells (List.replicate n (Value.int .i64 0)).toArray 3) := ⟨_, rfl⟩
  have hWg : W.heap[w.heap.size]? = some (.cells (List.replicate n (Value.int .i64 0)).toArray 3 (0, 0)) := by rw [hW]; simp only [World.alloc, Array.getElem?_push, if_true]
  have hWb : Below w.heap.size w W := by rw [hW]; exact (Below.refl _ _).alloc (Nat.le_refl _) _
  have hWx : W.cell? ⟨b, off, none⟩ = some (.int .i64 v) := by
    rw [← hx]
    exact World.cell?_of_block (hWb.block b hlt)
  have hWz : W.heap.size = w.heap.size + 1 := by rw [hW]; simp only [World.alloc, Array.size_push]
  replace hmk := hmk w
  rw [← hW] at hmk
  clear hW
  go_wp2_with (first | (go_at_call 114; refine (mul_one n hn _).mono ?_; rintro e w' ⟨rfl, hw'⟩; rw [hw']; clear hw') | (show wpList _ _ _ (⟨some 33, _, _, _, _, _⟩ :: _) _ _; go_loud (refine wpList_copy_splice rfl _ _ _ _ rfl 3 Tryz.underlying25 hsz _ _ _ _ _ _ rfl rfl w.heap.size 0 (List.replicate n (Value.int .i64 0)) 3 hWg (List.replicate (Nat.min 1 n) (.int .i64 v)) ?c1 ?c2 ?c3 ?c4 w.heap.size w hWb (Nat.le_refl _) ?_)))
  case c1 => simp
  case c2 =>
    intro _ j u hj
    have hj' := (List.getElem?_eq_some_iff.1 hj).1
    rw [List.length_replicate] at hj'
    have hm1 : Nat.min 1 n ≤ 1 := Nat.min_le_left _ _
    obtain rfl : j = 0 := by omega
    have : u = .int .i64 v := by simpa using (List.mem_replicate.1 (List.mem_of_getElem? hj)).2
    rw [this]
    exact hWx
  case c3 =>
    rw [List.length_replicate, List.length_replicate, Nat.zero_add]
    exact Nat.min_le_right _ _
  case c4 =>
    intro u hu
    rw [(List.mem_replicate.1 hu).2]
    rfl
  · intro w1 hc1 hb1
    go_wp2
    go_loopw [8] (fun y wr => ∃ m : Nat, m ≤ n ∧ (m = 0 → n = 0) ∧ y = .int .i64 m ∧ wr.heap[w.heap.size]? = some (.cells (List.replicate m (Value.int .i64 v) ++ List.replicate (n - m) (Value.int .i64 0)).toArray 3 (0, 0)) ∧ Below w.heap.size w wr) (fun y _ => n - (intOf y).toNat)
    case atStart =>
      have hc1' : w1.heap[w.heap.size]? = some (.cells (splice (List.replicate n (Value.int .i64 0)) 0 (List.replicate (Nat.min 1 n) (Value.int .i64 v))).toArray 3 (0, 0)) := hc1
      have hm1 : Nat.min 1 n ≤ 1 := Nat.min_le_left _ _
      have hm2 : Nat.min 1 n ≤ n := Nat.min_le_right _ _
      refine ⟨Nat.min 1 n, hm2, fun h => ?_, rfl, ?_, hb1⟩
      · rcases Nat.eq_zero_or_pos n with h0 | h0
        · exact h0
        · rw [show Nat.min 1 n = 1 from Nat.min_eq_left h0] at h
          omega
      · rw [hc1']
        congr 2
        simp [splice]
    case round =>
      obtain ⟨m, hm, hm0, rfl, hcm, hbm⟩ := hrel
      rcases Nat.lt_or_ge m n with hmn | hmn
      · have hcp := run_copy_row (P := Tryz.prog) wr.drew 25 25 3 3 w.heap.size m (n - m) (n - m) ⟨w.heap.size, 0, none⟩ m n (List.replicate m (Value.int .i64 v) ++ List.replicate (n - m) (Value.int .i64 0)).toArray 3 (List.replicate (Nat.min m (n - m)) (Value.int .i64 v)) Tryz.underlying25 hsz hcm
        obtain ⟨k, hk⟩ : ∃ k, k = Nat.min m (n - m) := ⟨_, rfl⟩
        have hk1 : k ≤ m := by rw [hk]; exact Nat.min_le_left _ _
        have hk2 : k ≤ n - m := by rw [hk]; exact Nat.min_le_right _ _
        have hk0 : 0 < k := by
          rw [hk]
          exact Nat.lt_min.2 ⟨by omega, by omega⟩
        rw [← hk] at hcp
        replace hcp := hcp (by simp) (fun j u hj => by
          have hj' := (List.getElem?_eq_some_iff.1 hj).1
          rw [List.length_replicate] at hj'
          have hu : u = .int .i64 v := (List.mem_replicate.1 (List.mem_of_getElem? hj)).2
          rw [hu]
          rw [Addr.add_lit]
          have hcm' : wr.drew.heap[w.heap.size]? = some (.cells (List.replicate m (Value.int .i64 v) ++ List.replicate (n - m) (Value.int .i64 0)).toArray 3 (0, 0)) := hcm
          simp [World.cell?, hcm', List.getElem?_append_left, show j < m by omega, List.getElem?_replicate]) (by simp; omega) (fun u hu => by rw [(List.mem_replicate.1 hu).2]; rfl)
        obtain ⟨W2, hW2⟩ : ∃ W2, W2 = wr.drew.setRow w.heap.size (((List.replicate m (Value.int .i64 v) ++ List.replicate (n - m) (Value.int .i64 0)).toArray.toList.take m ++ List.replicate k (Value.int .i64 v) ++ (List.replicate m (Value.int .i64 v) ++ List.replicate (n - m) (Value.int .i64 0)).toArray.toList.drop (m + (List.replicate k (Value.int .i64 v)).length)).toArray) := ⟨_, rfl⟩
        rw [← hW2] at hcp
        have hc2 : W2.heap[w.heap.size]? = some (.cells (List.replicate (m + k) (Value.int .i64 v) ++ List.replicate (n - (m + k)) (Value.int .i64 0)).toArray 3 (0, 0)) := by
          rw [hW2, setRow_heap wr.drew w.heap.size _ _ 3 _ hcm]
          congr 3
          rw [List.toList_toArray, List.length_replicate, List.take_append_of_le_length (by simp), List.take_of_length_le (by simp), List.drop_append, List.drop_eq_nil_of_le (by simp), List.length_replicate, List.drop_replicate, List.nil_append, List.replicate_append_replicate]
          congr 2
          omega
        have hb2 : Below w.heap.size w W2 := by rw [hW2]; exact below_setRow hbm.drew (Nat.le_refl _) _
        have hlen : (List.replicate k (Value.int .i64 v)).length = k := List.length_replicate
        rw [hlen] at hcp
        clear hW2 hc1 hk
        have hne : ¬ n = m := by omega
        have wk : IntKind.i64.wrap ((m : Int) + (k : Int)) = ((m + k : Nat) : Int) := by rw [show (m : Int) + (k : Int) = ((m + k : Nat) : Int) by omega]; exact IntWalk.i64_in _ (by omega)
        have hmn' : (m : Int) < (n : Int) := by omega
        have hmn2 : (m : Int) ≤ (n : Int) := by omega
        go_wp2
        go_region
        go_wp2
        go_roundw
        case rel => exact ⟨m + k, by omega, by omega, rfl, hc2, hb2⟩
        case measure =>
          show n - (((m + k : Nat) : Int)).toNat < n - ((m : Int)).toNat
          omega
      · obtain rfl : m = n := by omega
        go_wp2
        simp [bodyPost, results, Tryz.results68, go_sem]
        exact ⟨by simpa using hcm, hbm⟩
structure RepPre (l : List Int) (n : Int) : Prop where
  len : l.length = 1
  num : 0 ≤ n ∧ n ≤ 1000
@[push_cast] def zRP : Con := ⟨[.dat (.sl .int), .dat .int], fun (x : List Int × Int × Unit) => RepPre x.1 x.2.1, fun (x : List Int × Int × Unit) => { res := [.val (.sl .int) (List.replicate x.2.1.toNat (x.1.getD 0 0))] }⟩
theorem zLc : FnSpec Tryz.prog 68 zRP := by
  refine ⟨⟨_, Tryz.func68, by kernel_rfl, rfl⟩, fun C γ x vs hpre hen => ?_⟩
  have hargs := hen.args
  have hlt := hen.ownlt
  obtain ⟨(l : List Int), (n : Int), _⟩ := x
  obtain ⟨hl, hn0, hn1⟩ := hpre
  dsimp only at hl hn0 hn1
  obtain ⟨v, rfl⟩ : ∃ v, l = [v] := by
    match l, hl with
    | [v], _ => exact ⟨v, rfl⟩
  obtain ⟨k, rfl⟩ : ∃ k : Nat, n = k := ⟨n.toNat, by omega⟩
  obtain ⟨v0, _, rfl, h0, v1, _, rfl, h1, rfl⟩ := hargs
  obtain ⟨cs, ⟨ad, cap, rfl, hc, hm, hall⟩, hv0⟩ := h0
  obtain ⟨b, off, c, rfl, hz, hbb, hp, hcell⟩ := hall 0 (by simp)
  have hp' : c = [.int .i64 v] := hp
  subst hp'
  have hcl : C.w0.cell? ⟨b, off, none⟩ = some (.int .i64 v) := by simpa using hcell 0 _ rfl
  have e0 : v0 = .slice (some ⟨b, off, none⟩) 1 cap := hv0
  have e1 : v1 = .int .i64 (k : Int) := zAA h1
  subst e0 e1
  show Calls _ _ #[.slice (some ⟨b, off, none⟩) 1 cap, .int .i64 (k : Int)] C.w0 _
  refine (zJK v k (by omega) C.w0 b off cap hcl hbb).mono ?_
  rintro e w2 ⟨rfl, hheap, hbel⟩
  refine ⟨_, γ, rfl, ⟨⟨[], [], [_], rfl, ⟨_, [], rfl, ?_, rfl, rfl, rfl⟩, List.nodup_nil, List.nodup_nil⟩, fun p hp => (by cases hp), fun p hp => (by cases hp), fun b l hb => Nat.lt_of_lt_of_le (hlt b l hb) hbel.size⟩, ⟨hbel.os, hbel.tape, hbel.output, hbel.size, fun b hb _ => hbel.block b hb⟩⟩
  have hfm : (List.replicate k v).flatMap (Sh.int).cells = List.replicate k (Value.int .i64 v) := by rw [List.flatMap_replicate]; simp [Sh.cells]
  have hlt2 := (Array.getElem?_eq_some_iff.1 hheap).1
  have hno : γ.own C.w0.heap.size = none := by
    cases ho : γ.own C.w0.heap.size with
    | none => rfl
    | some l => have := hlt _ l ho; omega
  refine ⟨[.slice (some ⟨C.w0.heap.size, 0, none⟩) k k], zAZ (e := 3) (sh := .int) rfl ?_ (fun g hg => ?_), rfl⟩
  · show w2.ownsRow 0 _ 1 _ (List.replicate (Int.toNat (k : Int)) v).length ((List.replicate (Int.toNat (k : Int)) v).flatMap (Sh.int).cells)
    rw [Int.toNat_natCast, hfm, List.length_replicate]
    exact ⟨by simp, .inr ⟨C.w0.heap.size, k, _, rfl, Nat.zero_le _, hheap, Nat.le_refl _, by unfold maxLen; omega, by simp, by simp⟩⟩
  · simp only [Value.ownBlock, Option.some.injEq] at hg
    subst hg
    exact ⟨.inr (.inl (Nat.le_refl _)), hno⟩
end Go.Proofs.YtlgkplnifaoeeaaGreatDoor
namespace Go.Proofs.YtlgkplnifaoeeaaGreatDoor
open Go.RowKit Go.VS
def sprK (r : List Int) (k : Nat) : List Int := (List.range k).flatMap fun j => List.replicate (r.getD j 0).toNat (j : Int)
def spr (r : List Int) : List Int := sprK r r.length
theorem zPQ (r : List Int) : sprK r 0 = [] := rfl
theorem zJY (r : List Int) (k : Nat) : sprK r (k + 1) = sprK r k ++ List.replicate (r.getD k 0).toNat (k : Int) := by
  simp [sprK, List.range_succ]
theorem zIL {r : List Int} (h : ∀ x ∈ r, 0 ≤ x) : ∀ {k : Nat}, k ≤ r.length → ((sprK r k).length : Int) = lsum (r.take k)
  | 0, _ => by simp [zPQ, lsum]
  | k + 1, hk => by
    rw [zJY, zCS r k (by omega), List.length_append, List.length_replicate, ← zIL h (k := k) (by omega)]
    have := h _ (zBd 0 (show k < r.length by omega))
    omega
def pixV (l : List Int) (p : List (List Int)) (k : Nat) : Int := (spr (p.getD (l.getD k 0).toNat [])).getD (cntV (l.getD k 0) (l.take k)).toNat 0
def zPs (l : List Int) (p : List (List Int)) : List Int := tbl l.length (pixV l p)
def restV (l : List Int) (p : List (List Int)) (k : Nat) : List (List Int) := tbl p.length fun c => (spr (p.getD c [])).drop (cntV (c : Int) (l.take k)).toNat
def colV (p : List (List Int)) (i j : Nat) : List (List Int) := tbl p.length fun c => if c < i then spr (p.getD c []) else if c = i then sprK (p.getD i []) j else []
def zB5 (l : List Int) (p : List (List Int)) : Int := if zBo p = 0 then if okPic l p.length = true then if rowsP p = palV l p.length then 0 else 5 else 1 else 1
@[push_cast] def zMc : Con := ⟨[.dat (.sl .int), .dat (.sl (.sl .int))], fun _ => True, fun (x : List Int × List (List Int) × Unit) =>
  { res := [.own (.flat 3 .int (if zB5 x.1 x.2.1 = 0 then zPs x.1 x.2.1 else [])), .val .int (zB5 x.1 x.2.1)] }⟩
section
variable {l : List Int} {p : List (List Int)} {i j k : Nat}
theorem zMO (h : zBo p = 1) : zB5 l p = 1 := by simp [zB5, h]
theorem zMP (h : zBo p = 0) (h2 : okPic l p.length = false) : zB5 l p = 1 := by simp [zB5, h, h2]
theorem zMQ (h : zBo p = 0) (h2 : okPic l p.length = true) (h3 : ¬ rowsP p = palV l p.length) : zB5 l p = 5 := by simp [zB5, h, h2, h3]
theorem zMN (h : zBo p = 0) (h2 : okPic l p.length = true) (h3 : rowsP p = palV l p.length) : zB5 l p = 0 := by simp [zB5, h, h2, h3]
theorem zQh : (colV p i j).length = p.length := zD9 _ _
theorem zR0 (hi : i < p.length) : (colV p i j).getD i [] = sprK (p.getD i []) j := by
  unfold colV
  rw [zD8 _ _ hi, if_neg (Nat.lt_irrefl _), if_pos rfl]
theorem zOh : colV p 0 0 = List.replicate p.length [] := by
  unfold colV
  rw [← zFo]
  refine zA5 fun c hc => ?_
  rw [if_neg (Nat.not_lt_zero _)]
  split <;> rfl
theorem zQi (hi : i < p.length) : (colV p i j).set i (sprK (p.getD i []) j ++ List.replicate ((p.getD i []).getD j 0).toNat (j : Int)) = colV p i (j + 1) := by
  unfold colV
  rw [zG7]
  refine zA5 fun c hc => ?_
  by_cases h : c = i
  · subst h
    rw [if_pos rfl, if_neg (Nat.lt_irrefl _), if_pos rfl, zJY]
  · rw [if_neg h, if_neg h, if_neg h]
theorem zOg (hi : i < p.length) : colV p i (p.getD i []).length = colV p (i + 1) 0 := by
  unfold colV
  refine zA5 fun c hc => ?_
  by_cases h : c = i
  · subst h
    rw [if_neg (Nat.lt_irrefl _), if_pos rfl, if_pos (Nat.lt_succ_self _)]; rfl
  · by_cases h2 : c < i
    · rw [if_pos h2, if_pos (by omega)]
    · rw [if_neg h2, if_neg h, if_neg (by omega)]
      split <;> rfl
theorem zNq : colV p p.length 0 = restV l p 0 := by
  unfold colV restV
  refine zA5 fun c hc => ?_
  rw [if_pos hc]
  rfl
theorem zPI : (restV l p k).length = p.length := zD9 _ _
theorem zQ7 (h : (l.getD k 0).toNat < p.length) (h0 : 0 ≤ l.getD k 0) : (restV l p k).getD (l.getD k 0).toNat [] = (spr (p.getD (l.getD k 0).toNat [])).drop (cntV (l.getD k 0) (l.take k)).toNat := by
  unfold restV
  rw [zD8 _ _ h, Int.toNat_of_nonneg h0]
theorem zPJ (hk : k < l.length) (h0 : 0 ≤ l.getD k 0) : (restV l p k).set (l.getD k 0).toNat (((spr (p.getD (l.getD k 0).toNat [])).drop (cntV (l.getD k 0) (l.take k)).toNat).drop 1) = restV l p (k + 1) := by
  unfold restV
  rw [zG7]
  refine zA5 fun c hc => ?_
  rw [zGx _ hk]
  have := zKD (l.getD k 0) (l.take k)
  split
  · rename_i e
    rw [e, if_pos (by omega), List.drop_drop, Int.toNat_of_nonneg h0]
    congr 1
  · rename_i e
    rw [if_neg (by omega), Int.add_zero]
end
theorem zI0 (c : Int) (l : List Int) (k : Nat) : cntV c (l.take k) ≤ cntV c l := by
  unfold cntV
  have : (l.take k).count c ≤ l.count c := List.Sublist.count_le _ (List.take_sublist k l)
  omega
theorem zSr {p : List (List Int)} (hin : InPlan p) {i : Nat} (hi : i < p.length) : ((spr (p.getD i [])).length : Int) = lsum (p.getD i []) := by
  have h := zIL (r := p.getD i []) (fun x hx => by
    obtain ⟨k, hk, rfl⟩ := List.getElem_of_mem hx
    have := hin.at hi (show k < wid p by rw [← hin.row hi]; exact hk)
    rw [List.getD_eq_getElem?_getD (l := p.getD i []), List.getElem?_eq_getElem hk] at this
    exact this.1) (Nat.le_refl _)
  rw [List.take_length] at h
  exact h
theorem zSp {l : List Int} {p : List (List Int)} (h : rowsP p = palV l p.length) {i : Nat} (hi : i < p.length) : lsum (p.getD i []) = cntV (i : Int) l := by
  have h1 := congrArg (fun x => x.getD i 0) h
  simp only [palV, zD8 _ _ hi] at h1
  rw [← h1, rowsP, List.getD_eq_getElem?_getD, List.getD_eq_getElem?_getD, List.getElem?_map, List.getElem?_eq_getElem hi]
  rfl
set_option maxRecDepth 10000 in
theorem zNf : FnSpec Tryz.prog 25 zMc := by
  refine FnSpec.of_tri' (E := know [(65, zK7), (59, zRN), (66, zRt), (60, zRM), (67, zLP), (68, zRP)] [] [] []) (zAn (all_cons zJD (all_cons zQW (all_cons zNR (all_cons zJA (all_cons zML (all_cons zLc all_nil)))))) all_nil all_nil) Tryz.func25 rfl rfl (by kernel_rfl) ?_
  intro C x hE hnl hfit hpre
  simp only [Tryz.ntmps25, Tryz.results25, maxLen, Nat.reduceSub, Nat.reducePow, Nat.reduceAdd, Int.cast_ofNat_Int, push_cast] at hnl hfit hpre ⊢
  obtain ⟨(l : List Int), (p : List (List Int)), _⟩ := x
  dsimp only at hfit hpre ⊢
  rcases zHt p with he | he
  rotate_left
  · replace hnl := And.intro hnl (And.intro he (zMO (l := l) he))
    exact auB
  have hin := zHu he
  cases hpi : okPic l p.length with
  | false =>
    replace hnl := And.intro hnl (And.intro he (And.intro hpi (zMP he hpi)))
    repeat' (first|(refine goK (by assumption) ?_; iterate 4 (try clear hK K))|(refine zAd fun K hK => ?_)|((first|refine zAb hE rfl ?_|refine zAh ?_|((first|refine zAa hE 1 rfl rfl (by kernel_rfl) ?_|refine zAa hE 2 rfl rfl (by kernel_rfl) ?_|refine zAa hE 3 rfl rfl (by kernel_rfl) ?_|refine zAa hE 4 rfl rfl (by kernel_rfl) ?_); simp only [List.length_cons, List.length_nil, Nat.reduceAdd, Nat.reduceSub, List.take_succ_cons, List.take_zero, List.drop_succ_cons, List.drop_zero])); simp +contextual only [hnl, ↓kN, ↓kP, ↓kG, ↓qN, ↓qP, ↓qG, push_cast, seval, reduceCtorEq, Int.cast_ofNat_Int])|refine zAc ?_|((first|refine zAg ?_|refine zAf ?_); simp only [thenQ, zAk, if_true, if_false, Nat.reduceEqDiff, reduceCtorEq])|(refine zAe (by rfl) (fun hb => ?_) (fun hb => ?_) <;> (try simp only [b1, b2, b3, b4, reduceCtorEq, b5, b6] at hb) <;> (try omega))|refine zAi (by rfl) ?_ ?_|refine andS ?_|(refine ⟨fun hc => ?_, fun hc => ?_⟩)|(intro hc; try omega))
  | true =>
  obtain ⟨⟨g1, g2⟩, g3⟩ := zPl.1 hpi
  have hp : PalPre l p.length := ⟨by have := hin.rows; omega, by omega, fun c hc => by have := g3 c hc; omega⟩
  by_cases hrw : rowsP p = palV l p.length
  rotate_left
  · replace hnl := And.intro hnl (And.intro he (And.intro hpi (And.intro (zMQ he hpi hrw) (And.intro (eq_true hp) (eq_false hrw)))))
    exact auB
  have hz := zMN he hpi hrw
  have hrows := hin.rows
  have hcols := hin.cols
  replace hnl := And.intro hnl (And.intro he (And.intro hpi (And.intro hz (And.intro (eq_true hp) (eq_true hrw)))))
  repeat' (first|(refine goK (by assumption) ?_; iterate 4 (try clear hK K))|(refine zAd fun K hK => ?_)|((first|refine zAb hE rfl ?_|refine zAh ?_|((first|refine zAa hE 1 rfl rfl (by kernel_rfl) ?_|refine zAa hE 2 rfl rfl (by kernel_rfl) ?_|refine zAa hE 3 rfl rfl (by kernel_rfl) ?_|refine zAa hE 4 rfl rfl (by kernel_rfl) ?_); simp only [List.length_cons, List.length_nil, Nat.reduceAdd, Nat.reduceSub, List.take_succ_cons, List.take_zero, List.drop_succ_cons, List.drop_zero])); simp +contextual only [hnl, ↓kN, ↓kP, ↓kG, ↓qN, ↓qP, ↓qG, push_cast, seval, reduceCtorEq, Int.cast_ofNat_Int])|refine zAc ?_|((first|refine zAg ?_|refine zAf ?_); simp only [thenQ, zAk, if_true, if_false, Nat.reduceEqDiff, reduceCtorEq])|(refine zAe (by rfl) (fun hb => ?_) (fun hb => ?_) <;> (try simp only [b1, b2, b3, b4, reduceCtorEq, b5, b6] at hb) <;> (try omega))|refine zAi (by rfl) ?_ ?_|refine andS ?_|(refine ⟨fun hc => ?_, fun hc => ?_⟩)|(intro hc; try omega))
  refine zAp (fun i : Nat => AS.of [(0, .one (.val (.sl .int) l)), (10, .one (.ref 43)), (44, .one (.val (.sl (.sl .int)) p)), (45, .I p.length), (46, .I i)] [(43, .deep 25 3 .int (colV p i 0))] []) (fun i => i ≤ p.length) (fun i => p.length - i) 0 (Nat.zero_le _) ?_ ?_
  · refine zAj ?_ ?_ ?_ <;> simp only [push_cast, seval, reduceCtorEq, Int.cast_ofNat_Int]
    exact .inl (by rw [zOh])
  intro i hi K' hL
  by_cases hil : i < p.length
  · have hw := hin.row hil
    have hat := fun j (hj : j < (p.getD i []).length) => hin.at hil (show j < wid p by omega)
    repeat' (first|(refine goK (by assumption) ?_; iterate 4 (try clear hK K))|(refine zAd fun K hK => ?_)|((first|refine zAb hE rfl ?_|refine zAh ?_|((first|refine zAa hE 1 rfl rfl (by kernel_rfl) ?_|refine zAa hE 2 rfl rfl (by kernel_rfl) ?_|refine zAa hE 3 rfl rfl (by kernel_rfl) ?_|refine zAa hE 4 rfl rfl (by kernel_rfl) ?_); simp only [List.length_cons, List.length_nil, Nat.reduceAdd, Nat.reduceSub, List.take_succ_cons, List.take_zero, List.drop_succ_cons, List.drop_zero])); simp +contextual only [hnl, ↓kN, ↓kP, ↓kG, ↓qN, ↓qP, ↓qG, push_cast, seval, reduceCtorEq, Int.cast_ofNat_Int])|refine zAc ?_|((first|refine zAg ?_|refine zAf ?_); simp only [thenQ, zAk, if_true, if_false, Nat.reduceEqDiff, reduceCtorEq])|(refine zAe (by rfl) (fun hb => ?_) (fun hb => ?_) <;> (try simp only [b1, b2, b3, b4, reduceCtorEq, b5, b6] at hb) <;> (try omega))|refine zAi (by rfl) ?_ ?_|refine andS ?_|(refine ⟨fun hc => ?_, fun hc => ?_⟩)|(intro hc; try omega))
    refine zAp (fun j : Nat => AS.of [(0, .one (.val (.sl .int) l)), (10, .one (.ref 43)), (11, .I i), (44, .one (.val (.sl (.sl .int)) p)), (45, .I p.length), (46, .I i), (51, .one (.val (.sl .int) (p.getD i []))), (52, .I (p.getD i []).length), (53, .I j)] [(43, .deep 25 3 .int (colV p i j))] []) (fun j => j ≤ (p.getD i []).length) (fun j => (p.getD i []).length - j) 0 (Nat.zero_le _) ?_ ?_
    · refine zAj ?_ ?_ ?_ <;> simp only [push_cast, seval, reduceCtorEq, Int.cast_ofNat_Int]
    intro j hj K'' hL2
    by_cases hjl : j < (p.getD i []).length
    · have h1 := hat j hjl
      have hr : RepPre [(j : Int)] ((p.getD i []).getD j 0) := ⟨rfl, by omega⟩
      have h2 : (colV p i j).length = p.length := zQh
      have h3 := zR0 (p := p) (j := j) hil
      replace hnl := And.intro hnl (And.intro h2 (And.intro h3 (eq_true hr)))
      have h4 := hin.sumR hil j
      have h5 : ((sprK (p.getD i []) j).length : Int) = lsum ((p.getD i []).take j) := zIL (fun x hx => by obtain ⟨k, hk, rfl⟩ := List.getElem_of_mem hx; have := hat k hk; rw [List.getD_eq_getElem?_getD, List.getElem?_eq_getElem hk] at this; exact this.1) hj
      have h6 := zQi (p := p) (j := j) hil
      repeat' (first|(refine zDA hE 3 [0, 1] rfl (by decide +kernel) ?_; simp only [List.length_cons, List.length_nil, Nat.reduceAdd, Nat.reduceSub, List.take_succ_cons, List.take_zero, List.drop_succ_cons, List.drop_zero, pickM, headM, List.filterMap_cons, List.filterMap_nil, List.getElem?_cons_zero, List.getElem?_cons_succ, List.contains_cons, List.contains_nil, Nat.reduceBEq, Bool.or_false, Bool.false_or, Bool.true_or, Bool.or_true, if_true, Bool.false_eq_true, if_false, List.cons_append, List.nil_append]; simp +contextual only [hnl, ↓kN, ↓kP, ↓kG, ↓qN, ↓qP, ↓qG, push_cast, seval, reduceCtorEq, Int.cast_ofNat_Int])|(first|(refine goK (by assumption) ?_; iterate 4 (try clear hK K))|(refine zAd fun K hK => ?_)|((first|refine zAb hE rfl ?_|refine zAh ?_|((first|refine zAa hE 1 rfl rfl (by kernel_rfl) ?_|refine zAa hE 2 rfl rfl (by kernel_rfl) ?_|refine zAa hE 3 rfl rfl (by kernel_rfl) ?_|refine zAa hE 4 rfl rfl (by kernel_rfl) ?_); simp only [List.length_cons, List.length_nil, Nat.reduceAdd, Nat.reduceSub, List.take_succ_cons, List.take_zero, List.drop_succ_cons, List.drop_zero])); simp +contextual only [hnl, ↓kN, ↓kP, ↓kG, ↓qN, ↓qP, ↓qG, push_cast, seval, reduceCtorEq, Int.cast_ofNat_Int])|refine zAc ?_|((first|refine zAg ?_|refine zAf ?_); simp only [thenQ, zAk, if_true, if_false, Nat.reduceEqDiff, reduceCtorEq])|(refine zAe (by rfl) (fun hb => ?_) (fun hb => ?_) <;> (try simp only [b1, b2, b3, b4, reduceCtorEq, b5, b6] at hb) <;> (try omega))|refine zAi (by rfl) ?_ ?_|refine andS ?_|(refine ⟨fun hc => ?_, fun hc => ?_⟩)|(intro hc; try omega)))
      refine ⟨⟨hil, by omega, by rw [List.length_replicate]; omega⟩, ?_⟩
      repeat' (first|(refine goK (by assumption) ?_; iterate 4 (try clear hK K))|(refine zAd fun K hK => ?_)|((first|refine zAb hE rfl ?_|refine zAh ?_|((first|refine zAa hE 1 rfl rfl (by kernel_rfl) ?_|refine zAa hE 2 rfl rfl (by kernel_rfl) ?_|refine zAa hE 3 rfl rfl (by kernel_rfl) ?_|refine zAa hE 4 rfl rfl (by kernel_rfl) ?_); simp only [List.length_cons, List.length_nil, Nat.reduceAdd, Nat.reduceSub, List.take_succ_cons, List.take_zero, List.drop_succ_cons, List.drop_zero])); simp +contextual only [hnl, ↓kN, ↓kP, ↓kG, ↓qN, ↓qP, ↓qG, push_cast, seval, reduceCtorEq, Int.cast_ofNat_Int])|refine zAc ?_|((first|refine zAg ?_|refine zAf ?_); simp only [thenQ, zAk, if_true, if_false, Nat.reduceEqDiff, reduceCtorEq])|(refine zAe (by rfl) (fun hb => ?_) (fun hb => ?_) <;> (try simp only [b1, b2, b3, b4, reduceCtorEq, b5, b6] at hb) <;> (try omega))|refine zAi (by rfl) ?_ ?_|refine andS ?_|(refine ⟨fun hc => ?_, fun hc => ?_⟩)|(intro hc; try omega))
      refine hL2 _ (j + 1) (by omega) (by omega) ?_
      refine zAj ?_ ?_ ?_ <;> simp only [push_cast, seval, reduceCtorEq, Int.cast_ofNat_Int]
      exact .inl (by rw [h6])
    · obtain rfl : j = (p.getD i []).length := by omega
      rw [zOg hil]
      repeat' (first|(refine goK (by assumption) ?_; iterate 4 (try clear hK K))|(refine zAd fun K hK => ?_)|((first|refine zAb hE rfl ?_|refine zAh ?_|((first|refine zAa hE 1 rfl rfl (by kernel_rfl) ?_|refine zAa hE 2 rfl rfl (by kernel_rfl) ?_|refine zAa hE 3 rfl rfl (by kernel_rfl) ?_|refine zAa hE 4 rfl rfl (by kernel_rfl) ?_); simp only [List.length_cons, List.length_nil, Nat.reduceAdd, Nat.reduceSub, List.take_succ_cons, List.take_zero, List.drop_succ_cons, List.drop_zero])); simp +contextual only [hnl, ↓kN, ↓kP, ↓kG, ↓qN, ↓qP, ↓qG, push_cast, seval, reduceCtorEq, Int.cast_ofNat_Int])|refine zAc ?_|((first|refine zAg ?_|refine zAf ?_); simp only [thenQ, zAk, if_true, if_false, Nat.reduceEqDiff, reduceCtorEq])|(refine zAe (by rfl) (fun hb => ?_) (fun hb => ?_) <;> (try simp only [b1, b2, b3, b4, reduceCtorEq, b5, b6] at hb) <;> (try omega))|refine zAi (by rfl) ?_ ?_|refine andS ?_|(refine ⟨fun hc => ?_, fun hc => ?_⟩)|(intro hc; try omega))
      refine hL _ (i + 1) (by omega) (by omega) ?_
      refine zAj ?_ ?_ ?_ <;> simp only [push_cast, seval, reduceCtorEq, Int.cast_ofNat_Int]
  · obtain rfl : i = p.length := by omega
    rw [zNq (l := l)]
    repeat' (first|(refine goK (by assumption) ?_; iterate 4 (try clear hK K))|(refine zAd fun K hK => ?_)|((first|refine zAb hE rfl ?_|refine zAh ?_|((first|refine zAa hE 1 rfl rfl (by kernel_rfl) ?_|refine zAa hE 2 rfl rfl (by kernel_rfl) ?_|refine zAa hE 3 rfl rfl (by kernel_rfl) ?_|refine zAa hE 4 rfl rfl (by kernel_rfl) ?_); simp only [List.length_cons, List.length_nil, Nat.reduceAdd, Nat.reduceSub, List.take_succ_cons, List.take_zero, List.drop_succ_cons, List.drop_zero])); simp +contextual only [hnl, ↓kN, ↓kP, ↓kG, ↓qN, ↓qP, ↓qG, push_cast, seval, reduceCtorEq, Int.cast_ofNat_Int])|refine zAc ?_|((first|refine zAg ?_|refine zAf ?_); simp only [thenQ, zAk, if_true, if_false, Nat.reduceEqDiff, reduceCtorEq])|(refine zAe (by rfl) (fun hb => ?_) (fun hb => ?_) <;> (try simp only [b1, b2, b3, b4, reduceCtorEq, b5, b6] at hb) <;> (try omega))|refine zAi (by rfl) ?_ ?_|refine andS ?_|(refine ⟨fun hc => ?_, fun hc => ?_⟩)|(intro hc; try omega))
    refine zSt (r := 43) (by simp only [push_cast, seval, reduceCtorEq, Int.cast_ofNat_Int]; rfl) ?_
    refine zAp (fun k : Nat => AS.of [(10, .one (.ref 43)), (15, .one (.ref 86)), (72, .one (.val (.sl .int) l)), (73, .I l.length), (74, .I k)] [(43, .rags 25 .int (restV l p k)), (86, .flat 3 .int (tbl k (pixV l p)))] []) (fun k => k ≤ l.length) (fun k => l.length - k) 0 (Nat.zero_le _) ?_ ?_
    · refine zAj ?_ ?_ ?_ <;> simp only [push_cast, seval, reduceCtorEq, Int.cast_ofNat_Int]
      exact ⟨by omega, rfl⟩
    intro k hk K' hL
    by_cases hkl : k < l.length
    · have h1 := g3 _ (zBd 0 hkl)
      have h2 : (l.getD k 0).toNat < p.length := by omega
      have h3 := zQ7 (l := l) (p := p) h2 h1.1
      have h4 := zPJ (l := l) (p := p) hkl h1.1
      have h5 : (restV l p k).length = p.length := zPI
      have h6 : ((spr (p.getD (l.getD k 0).toNat [])).length : Int) = lsum (p.getD (l.getD k 0).toNat []) := zSr hin h2
      have h7 : cntV (l.getD k 0) (l.take k) + 1 ≤ lsum (p.getD (l.getD k 0).toNat []) := by
        rw [zSp hrw h2, Int.toNat_of_nonneg h1.1]
        have e1 := zGx (l.getD k 0) hkl
        rw [if_pos rfl] at e1
        have e2 := zI0 (l.getD k 0) l (k + 1)
        omega
      have h8 : ((spr (p.getD (l.getD k 0).toNat [])).drop (cntV (l.getD k 0) (l.take k)).toNat).getD 0 0 = pixV l p k := by
        unfold pixV
        rw [List.getD_eq_getElem?_getD, List.getElem?_drop, Nat.add_zero, ← List.getD_eq_getElem?_getD]
      have h9 : ((spr (p.getD (l.getD k 0).toNat [])).drop (cntV (l.getD k 0) (l.take k)).toNat).length = (spr (p.getD (l.getD k 0).toNat [])).length - (cntV (l.getD k 0) (l.take k)).toNat := List.length_drop
      have h10 := zKD (l.getD k 0) (l.take k)
      have h11 : (tbl k (pixV l p)).length = k := zD9 _ _
      replace hnl := And.intro hnl (And.intro h3 (And.intro h5 (And.intro h8 (And.intro h9 h11))))
      repeat' (first|(refine goK (by assumption) ?_; iterate 4 (try clear hK K))|(refine zAd fun K hK => ?_)|((first|refine zAb hE rfl ?_|refine zAh ?_|((first|refine zAa hE 1 rfl rfl (by kernel_rfl) ?_|refine zAa hE 2 rfl rfl (by kernel_rfl) ?_|refine zAa hE 3 rfl rfl (by kernel_rfl) ?_|refine zAa hE 4 rfl rfl (by kernel_rfl) ?_); simp only [List.length_cons, List.length_nil, Nat.reduceAdd, Nat.reduceSub, List.take_succ_cons, List.take_zero, List.drop_succ_cons, List.drop_zero])); simp +contextual only [hnl, ↓kN, ↓kP, ↓kG, ↓qN, ↓qP, ↓qG, push_cast, seval, reduceCtorEq, Int.cast_ofNat_Int])|refine zAc ?_|((first|refine zAg ?_|refine zAf ?_); simp only [thenQ, zAk, if_true, if_false, Nat.reduceEqDiff, reduceCtorEq])|(refine zAe (by rfl) (fun hb => ?_) (fun hb => ?_) <;> (try simp only [b1, b2, b3, b4, reduceCtorEq, b5, b6] at hb) <;> (try omega))|refine zAi (by rfl) ?_ ?_|refine andS ?_|(refine ⟨fun hc => ?_, fun hc => ?_⟩)|(intro hc; try omega))
      refine hL _ (k + 1) (by omega) (by omega) ?_
      refine zAj ?_ ?_ ?_ <;> simp only [push_cast, seval, reduceCtorEq, Int.cast_ofNat_Int]
      exact ⟨.inl (by rw [h4]), .inl (by rw [zMr])⟩
    · obtain rfl : k = l.length := by omega
      repeat' (first|(refine goK (by assumption) ?_; iterate 4 (try clear hK K))|(refine zAd fun K hK => ?_)|((first|refine zAb hE rfl ?_|refine zAh ?_|((first|refine zAa hE 1 rfl rfl (by kernel_rfl) ?_|refine zAa hE 2 rfl rfl (by kernel_rfl) ?_|refine zAa hE 3 rfl rfl (by kernel_rfl) ?_|refine zAa hE 4 rfl rfl (by kernel_rfl) ?_); simp only [List.length_cons, List.length_nil, Nat.reduceAdd, Nat.reduceSub, List.take_succ_cons, List.take_zero, List.drop_succ_cons, List.drop_zero])); simp +contextual only [hnl, ↓kN, ↓kP, ↓kG, ↓qN, ↓qP, ↓qG, push_cast, seval, reduceCtorEq, Int.cast_ofNat_Int])|refine zAc ?_|((first|refine zAg ?_|refine zAf ?_); simp only [thenQ, zAk, if_true, if_false, Nat.reduceEqDiff, reduceCtorEq])|(refine zAe (by rfl) (fun hb => ?_) (fun hb => ?_) <;> (try simp only [b1, b2, b3, b4, reduceCtorEq, b5, b6] at hb) <;> (try omega))|refine zAi (by rfl) ?_ ?_|refine andS ?_|(refine ⟨fun hc => ?_, fun hc => ?_⟩)|(intro hc; try omega))
      rfl
end Go.Proofs.YtlgkplnifaoeeaaGreatDoor
namespace Go.Proofs.YtlgkplnifaoeeaaGreatDoor
open Go.RowKit Go.VS
def sumK (n : Int) (t : ByteArray) : Nat → Int
  | 0 => ((n.tmod 1000003) + 1000003).tmod 1000003
  | k + 1 => (sumK n t k * 257 + ((t.data.toList.getD k 0).toNat : Int) + 1).tmod 1000003
def sumV (n : Int) (t : ByteArray) : Int := sumK n t t.size
theorem zH2 {x : Int} (h : 0 ≤ x) : 0 ≤ x.tmod 1000003 ∧ x.tmod 1000003 ≤ 1000002 := by
  rw [Int.tmod_eq_emod_of_nonneg h]
  omega
theorem zIN (x : Int) : -1000002 ≤ x.tmod 1000003 ∧ x.tmod 1000003 ≤ 1000002 := by
  have h1 := Int.lt_tmod_of_pos x (show (0 : Int) < 1000003 by omega)
  have h2 := Int.tmod_lt_of_pos x (show (0 : Int) < 1000003 by omega)
  omega
theorem zCi (n : Int) (t : ByteArray) : ∀ k, 0 ≤ sumK n t k ∧ sumK n t k ≤ 1000002
  | 0 => zH2 (by have := zIN n; omega)
  | k + 1 => by
    have := zCi n t k
    exact zH2 (by omega)
theorem zMG (t : ByteArray) : (zEZ t).length = t.size := by
  unfold zEZ
  rw [List.length_map, Array.length_toList]; rfl
theorem zMF {t : ByteArray} {k : Nat} (h : k < t.size) : (zEZ t).getD k 0 = (t.data.toList.getD k 0).toNat := by
  have h' : k < t.data.toList.length := by rw [Array.length_toList]; exact h
  unfold zEZ
  rw [List.getD_eq_getElem?_getD, List.getElem?_map, List.getElem?_eq_getElem h', List.getD_eq_getElem?_getD, List.getElem?_eq_getElem h']
  rfl
@[push_cast] def zFM : Con := ⟨[.dat .int, .dat .str], fun (x : Int × ByteArray × Unit) => x.2.1.size ≤ 1000000, fun (x : Int × ByteArray × Unit) => { res := [.val .int (sumV x.1 x.2.1)] }⟩
theorem zNs : FnSpec Tryz.prog 20 zFM := by
  refine FnSpec.of_tri' (E := know [] [] [] []) (zAn all_nil all_nil all_nil) Tryz.func20 rfl rfl (by kernel_rfl) ?_
  intro C x hE hnl hfit hpre
  simp only [Tryz.ntmps20, Tryz.results20, maxLen, Nat.reduceSub, Nat.reducePow, Nat.reduceAdd, Int.cast_ofNat_Int, push_cast] at hnl hfit hpre ⊢
  obtain ⟨(n : Int), (t : ByteArray), _⟩ := x
  dsimp only at hfit hpre ⊢
  have h0 := zIN n
  repeat' (first|(refine goK (by assumption) ?_; iterate 4 (try clear hK K))|(refine zAd fun K hK => ?_)|((first|refine zAb hE rfl ?_|refine zAh ?_|((first|refine zAa hE 1 rfl rfl (by kernel_rfl) ?_|refine zAa hE 2 rfl rfl (by kernel_rfl) ?_|refine zAa hE 3 rfl rfl (by kernel_rfl) ?_|refine zAa hE 4 rfl rfl (by kernel_rfl) ?_); simp only [List.length_cons, List.length_nil, Nat.reduceAdd, Nat.reduceSub, List.take_succ_cons, List.take_zero, List.drop_succ_cons, List.drop_zero])); simp +contextual only [hnl, ↓kN, ↓kP, ↓kG, ↓qN, ↓qP, ↓qG, push_cast, seval, reduceCtorEq, Int.cast_ofNat_Int])|refine zAc ?_|((first|refine zAg ?_|refine zAf ?_); simp only [thenQ, zAk, if_true, if_false, Nat.reduceEqDiff, reduceCtorEq])|(refine zAe (by rfl) (fun hb => ?_) (fun hb => ?_) <;> (try simp only [b1, b2, b3, b4, reduceCtorEq, b5, b6] at hb) <;> (try omega))|refine zAi (by rfl) ?_ ?_|refine andS ?_|(refine ⟨fun hc => ?_, fun hc => ?_⟩)|(intro hc; try omega))
  refine zAp (fun k : Nat => AS.of [(1, .one (.val .str t)), (5, .I (sumK n t k)), (6, .I k)] [] []) (fun k => k ≤ t.size) (fun k => t.size - k) 0 (Nat.zero_le _) ?_ ?_
  · refine zAj ?_ ?_ ?_ <;> simp only [push_cast, seval, reduceCtorEq, Int.cast_ofNat_Int]
    rfl
  intro k hk K' hL
  have hb1 := zCi n t k
  have hb2 : ((t.data.toList.getD k 0).toNat : Int) ≤ 255 := by have := (t.data.toList.getD k 0).toNat_lt; omega
  repeat' (first|(refine goK (by assumption) ?_; iterate 4 (try clear hK K))|(refine zAd fun K hK => ?_)|((first|refine zAb hE rfl ?_|refine zAh ?_|((first|refine zAa hE 1 rfl rfl (by kernel_rfl) ?_|refine zAa hE 2 rfl rfl (by kernel_rfl) ?_|refine zAa hE 3 rfl rfl (by kernel_rfl) ?_|refine zAa hE 4 rfl rfl (by kernel_rfl) ?_); simp only [List.length_cons, List.length_nil, Nat.reduceAdd, Nat.reduceSub, List.take_succ_cons, List.take_zero, List.drop_succ_cons, List.drop_zero])); simp +contextual only [hnl, ↓kN, ↓kP, ↓kG, ↓qN, ↓qP, ↓qG, push_cast, seval, reduceCtorEq, Int.cast_ofNat_Int])|refine zAc ?_|((first|refine zAg ?_|refine zAf ?_); simp only [thenQ, zAk, if_true, if_false, Nat.reduceEqDiff, reduceCtorEq])|(refine zAe (by rfl) (fun hb => ?_) (fun hb => ?_) <;> (try simp only [b1, b2, b3, b4, reduceCtorEq, b5, b6] at hb) <;> (try omega))|refine zAi (by rfl) ?_ ?_|refine andS ?_|(refine ⟨fun hc => ?_, fun hc => ?_⟩)|(intro hc; try omega))
  · refine hL _ (k + 1) (by omega) (by omega) ?_
    refine zAj ?_ ?_ ?_ <;> simp only [push_cast, seval, reduceCtorEq, Int.cast_ofNat_Int]
    rfl
  · obtain rfl : k = t.size := by omega
    rfl
theorem zFz : FnSpec Tryz.prog 19 zFM := by
  refine FnSpec.of_tri' (E := know [] [] [] []) (zAn all_nil all_nil all_nil) Tryz.func19 rfl rfl (by kernel_rfl) ?_
  intro C x hE hnl hfit hpre
  simp only [Tryz.ntmps19, Tryz.results19, maxLen, Nat.reduceSub, Nat.reducePow, Nat.reduceAdd, Int.cast_ofNat_Int, push_cast] at hnl hfit hpre ⊢
  obtain ⟨(n : Int), (t : ByteArray), _⟩ := x
  dsimp only at hfit hpre ⊢
  have h0 := zIN n
  have hbl := zMG t
  replace hnl := And.intro hnl hbl
  repeat' (first|(refine goK (by assumption) ?_; iterate 4 (try clear hK K))|(refine zAd fun K hK => ?_)|((first|refine zAb hE rfl ?_|refine zAh ?_|((first|refine zAa hE 1 rfl rfl (by kernel_rfl) ?_|refine zAa hE 2 rfl rfl (by kernel_rfl) ?_|refine zAa hE 3 rfl rfl (by kernel_rfl) ?_|refine zAa hE 4 rfl rfl (by kernel_rfl) ?_); simp only [List.length_cons, List.length_nil, Nat.reduceAdd, Nat.reduceSub, List.take_succ_cons, List.take_zero, List.drop_succ_cons, List.drop_zero])); simp +contextual only [hnl, ↓kN, ↓kP, ↓kG, ↓qN, ↓qP, ↓qG, push_cast, seval, reduceCtorEq, Int.cast_ofNat_Int])|refine zAc ?_|((first|refine zAg ?_|refine zAf ?_); simp only [thenQ, zAk, if_true, if_false, Nat.reduceEqDiff, reduceCtorEq])|(refine zAe (by rfl) (fun hb => ?_) (fun hb => ?_) <;> (try simp only [b1, b2, b3, b4, reduceCtorEq, b5, b6] at hb) <;> (try omega))|refine zAi (by rfl) ?_ ?_|refine andS ?_|(refine ⟨fun hc => ?_, fun hc => ?_⟩)|(intro hc; try omega))
  refine zAp (fun k : Nat => AS.of [(5, .I (sumK n t k)), (13, .one (.val (.sl .byte) (zEZ t))), (14, .I t.size), (15, .I k)] [] []) (fun k => k ≤ t.size) (fun k => t.size - k) 0 (Nat.zero_le _) ?_ ?_
  · refine zAj ?_ ?_ ?_ <;> simp only [push_cast, seval, reduceCtorEq, Int.cast_ofNat_Int]
    rfl
  intro k hk K' hL
  have hb1 := zCi n t k
  have hb2 : ((t.data.toList.getD k 0).toNat : Int) ≤ 255 := by have := (t.data.toList.getD k 0).toNat_lt; omega
  rcases Nat.lt_or_ge k t.size with hkt | hkt
  · replace hnl := And.intro hnl (zMF hkt)
    repeat' (first|(refine goK (by assumption) ?_; iterate 4 (try clear hK K))|(refine zAd fun K hK => ?_)|((first|refine zAb hE rfl ?_|refine zAh ?_|((first|refine zAa hE 1 rfl rfl (by kernel_rfl) ?_|refine zAa hE 2 rfl rfl (by kernel_rfl) ?_|refine zAa hE 3 rfl rfl (by kernel_rfl) ?_|refine zAa hE 4 rfl rfl (by kernel_rfl) ?_); simp only [List.length_cons, List.length_nil, Nat.reduceAdd, Nat.reduceSub, List.take_succ_cons, List.take_zero, List.drop_succ_cons, List.drop_zero])); simp +contextual only [hnl, ↓kN, ↓kP, ↓kG, ↓qN, ↓qP, ↓qG, push_cast, seval, reduceCtorEq, Int.cast_ofNat_Int])|refine zAc ?_|((first|refine zAg ?_|refine zAf ?_); simp only [thenQ, zAk, if_true, if_false, Nat.reduceEqDiff, reduceCtorEq])|(refine zAe (by rfl) (fun hb => ?_) (fun hb => ?_) <;> (try simp only [b1, b2, b3, b4, reduceCtorEq, b5, b6] at hb) <;> (try omega))|refine zAi (by rfl) ?_ ?_|refine andS ?_|(refine ⟨fun hc => ?_, fun hc => ?_⟩)|(intro hc; try omega))
    refine hL _ (k + 1) (by omega) (by omega) ?_
    refine zAj ?_ ?_ ?_ <;> simp only [push_cast, seval, reduceCtorEq, Int.cast_ofNat_Int]
    rfl
  · obtain rfl : k = t.size := by omega
    repeat' (first|(refine goK (by assumption) ?_; iterate 4 (try clear hK K))|(refine zAd fun K hK => ?_)|((first|refine zAb hE rfl ?_|refine zAh ?_|((first|refine zAa hE 1 rfl rfl (by kernel_rfl) ?_|refine zAa hE 2 rfl rfl (by kernel_rfl) ?_|refine zAa hE 3 rfl rfl (by kernel_rfl) ?_|refine zAa hE 4 rfl rfl (by kernel_rfl) ?_); simp only [List.length_cons, List.length_nil, Nat.reduceAdd, Nat.reduceSub, List.take_succ_cons, List.take_zero, List.drop_succ_cons, List.drop_zero])); simp +contextual only [hnl, ↓kN, ↓kP, ↓kG, ↓qN, ↓qP, ↓qG, push_cast, seval, reduceCtorEq, Int.cast_ofNat_Int])|refine zAc ?_|((first|refine zAg ?_|refine zAf ?_); simp only [thenQ, zAk, if_true, if_false, Nat.reduceEqDiff, reduceCtorEq])|(refine zAe (by rfl) (fun hb => ?_) (fun hb => ?_) <;> (try simp only [b1, b2, b3, b4, reduceCtorEq, b5, b6] at hb) <;> (try omega))|refine zAi (by rfl) ?_ ?_|refine andS ?_|(refine ⟨fun hc => ?_, fun hc => ?_⟩)|(intro hc; try omega))
    rfl
end Go.Proofs.YtlgkplnifaoeeaaGreatDoor
