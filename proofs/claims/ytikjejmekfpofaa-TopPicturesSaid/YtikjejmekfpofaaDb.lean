/- slices.Repeat of one number, as a contract; house.Paint. Conditions: in each contract. -/
import Derived.Test.YtikjejmekfpofaaDa
import Derived.Test.YtikjejmekfpofaaVr
import Derived.Test.YtikjejmekfpofaaV7
import Derived.Tactics2
import Derived.Laws.CopyOwn
import Derived.Laws.Bits64b
import Derived.WalkKit
namespace Go.Proofs.Ytikjejmekfpofaa
open Go.RowKit Go.VS
set_option linter.unusedSimpArgs false
set_option linter.unusedVariables false

theorem mask_low (n : Nat) (hn : n ≤ 1000) : bits .and .u64 (n : Int) 4294967295 = n := by
  have := bits_and_u64_nat n 4294967295 (by omega) (by omega)
  rw [show ((4294967295 : Nat) : Int) = 4294967295 from rfl] at this
  rw [this, show (4294967295 : Nat) = 2 ^ 32 - 1 from rfl, Nat.and_two_pow_sub_one_eq_mod, Nat.mod_eq_of_lt (by omega)]
theorem mul64_one (n : Nat) (hn : n ≤ 1000) (w : World) : Calls Try.prog 43 #[.int .u64 1, .int .u64 n] w fun e w' => e = .returned (.tuple #[.int .u64 0, .int .u64 n]) ∧ w' = w := by
  have a1 : bits .and .u64 1 4294967295 = 1 := mask_low 1 (by omega)
  have a0 : bits .and .u64 0 4294967295 = 0 := mask_low 0 (by omega)
  have an := mask_low n hn
  have w0 : IntKind.u64.wrap 0 = 0 := by decide
  have wn : IntKind.u64.wrap (n : Int) = n := IntWalk.u64_in _ (by omega)
  have d1 : (n : Int) / 4294967296 = 0 := by omega
  go_enter Try.func43, Try.ntmps43
  go_wp2
  simp [bodyPost, results, Try.results43, go_sem, a1, a0, an, w0, wn, d1]
theorem mul_one (n : Nat) (hn : n ≤ 1000) (w : World) : Calls Try.prog 37 #[.int .u64 1, .int .u64 n] w fun e w' => e = .returned (.tuple #[.int .u64 0, .int .u64 n]) ∧ w' = w := by
  go_enter Try.func37, Try.ntmps37
  go_wp2_with (go_at_call 43; refine (mul64_one n hn _).mono ?_; rintro e w' ⟨rfl, rfl⟩)
  simp [bodyPost, results, Try.results37, go_sem]
set_option maxRecDepth 20000 in
theorem repeat_calls (v : Int) (n : Nat) (hn : n ≤ 1000) (w : World) (b off cap : Nat) (hx : w.cell? ⟨b, off, none⟩ = some (.int .i64 v)) (hlt : b < w.heap.size) :
    Calls Try.prog 25 #[.slice (some ⟨b, off, none⟩) 1 cap, .int .i64 n] w fun e w' =>
      e = .returned (.slice (some ⟨w.heap.size, 0, none⟩) n n) ∧ w'.heap[w.heap.size]? = some (.cells (List.replicate n (.int .i64 v)).toArray 3 (0, 0)) ∧ Below w.heap.size w w' := by
  have wn : IntKind.u64.wrap (n : Int) = n := IntWalk.u64_in _ (by omega)
  have wi : IntKind.i64.wrap (n : Int) = n := IntWalk.i64_in _ (by omega)
  have w1 : IntKind.u64.wrap 1 = 1 := by decide
  have hmk : ∀ w : World, (Instr.makeSlice 22 (.int .i64 n) (.int .i64 n)).run Try.prog w = .ok (.slice (some ⟨w.heap.size, 0, none⟩) n n) (w.alloc (.cells (List.replicate n (Value.int .i64 0)).toArray 3)) := fun w => by
    obtain ⟨i, z, hi, hs, hby, hz, hzc⟩ := tabOK.lang.info 3 .int shI
    have h1 := Nat.mul_le_mul hn hby
    have h2 : ((n * i.bytes : Nat) : Int) ≤ 1024000 := by omega
    rw [Int.natCast_mul] at h2
    have h3 : (i.bytes : Int) * (n : Int) ≤ 281474976710656 := by rw [Int.mul_comm]; omega
    have h4 := run_makeSlice (P := Try.prog) (w := w) 22 3 i z Try.underlying22 hi hz .i64 .i64 n n (by omega) (by omega) (by rw [Int.toNat_natCast, show i.size = 1 from hs]; omega) h3 (by omega)
    rw [Int.toNat_natCast, show i.size = 1 from hs, Nat.mul_one] at h4
    rw [h4]
    have hz' : z.cells.toList = [Value.int .i64 0] := hzc
    have h5 := made_flat (sh := .int) z.cells hz' (by decide) n
    have h6 : (List.replicate n (Sh.int).zero).flatMap (Sh.int).cells = List.replicate n (Value.int .i64 0) := by rw [List.flatMap_replicate]; simp [Sh.cells, Sh.zero]
    rw [h6, show (Sh.int).size = 1 from rfl, Nat.mul_one] at h5
    rw [show madeCells z.cells n = (List.replicate n (Value.int .i64 0)).toArray from by rw [← Array.toList_inj, h5]]
  go_enter Try.func25, Try.ntmps25
  have hsz : (Try.prog.info? 3).map (·.size) = some 1 := by
    obtain ⟨i, z, hi, hs, _⟩ := tabOK.lang.info 3 .int shI
    rw [hi]
    exact congrArg some hs
  obtain ⟨W, hW⟩ : ∃ W, W = w.alloc (.cells (List.replicate n (Value.int .i64 0)).toArray 3) := ⟨_, rfl⟩
  have hWg : W.heap[w.heap.size]? = some (.cells (List.replicate n (Value.int .i64 0)).toArray 3 (0, 0)) := by rw [hW]; simp only [World.alloc, Array.getElem?_push, if_true]
  have hWb : Below w.heap.size w W := by rw [hW]; exact (Below.refl _ _).alloc (Nat.le_refl _) _
  have hWx : W.cell? ⟨b, off, none⟩ = some (.int .i64 v) := by
    rw [← hx]
    exact World.cell?_of_block (hWb.block b hlt)
  have hWz : W.heap.size = w.heap.size + 1 := by rw [hW]; simp only [World.alloc, Array.size_push]
  replace hmk := hmk w
  rw [← hW] at hmk
  clear hW
  go_wp2_with (first | (go_at_call 37; refine (mul_one n hn _).mono ?_; rintro e w' ⟨rfl, hw'⟩; rw [hw']; clear hw') | (show wpList _ _ _ (⟨some 33, _, _, _, _, _⟩ :: _) _ _; go_loud (refine wpList_copy_splice rfl _ _ _ _ rfl 3 Try.underlying22 hsz _ _ _ _ _ _ rfl rfl w.heap.size 0 (List.replicate n (Value.int .i64 0)) 3 hWg (List.replicate (Nat.min 1 n) (.int .i64 v)) ?c1 ?c2 ?c3 ?c4 w.heap.size w hWb (Nat.le_refl _) ?_)))
  case c1 => simp
  case c2 => 
    intro _ j u hj
    have hj' := (List.getElem?_eq_some_iff.1 hj).1
    rw [List.length_replicate] at hj'
    have hm1 : Nat.min 1 n ≤ 1 := Nat.min_le_left _ _
    obtain rfl : j = 0 := by omega
    have : u = .int .i64 v := by simpa using (List.mem_replicate.1 (List.mem_of_getElem? hj)).2
    rw [this]
    exact hWx
  case c3 => 
    rw [List.length_replicate, List.length_replicate, Nat.zero_add]
    exact Nat.min_le_right _ _
  case c4 => 
    intro u hu
    rw [(List.mem_replicate.1 hu).2]
    rfl
  · intro w1 hc1 hb1
    go_wp2
    go_loopw [8] (fun y wr => ∃ m : Nat, m ≤ n ∧ (m = 0 → n = 0) ∧ y = .int .i64 m ∧ wr.heap[w.heap.size]? = some (.cells (List.replicate m (Value.int .i64 v) ++ List.replicate (n - m) (Value.int .i64 0)).toArray 3 (0, 0)) ∧ Below w.heap.size w wr) (fun y _ => n - (intOf y).toNat)
    case atStart => 
      have hc1' : w1.heap[w.heap.size]? = some (.cells (splice (List.replicate n (Value.int .i64 0)) 0 (List.replicate (Nat.min 1 n) (Value.int .i64 v))).toArray 3 (0, 0)) := hc1
      have hm1 : Nat.min 1 n ≤ 1 := Nat.min_le_left _ _
      have hm2 : Nat.min 1 n ≤ n := Nat.min_le_right _ _
      refine ⟨Nat.min 1 n, hm2, fun h => ?_, rfl, ?_, hb1⟩
      · rcases Nat.eq_zero_or_pos n with h0 | h0
        · exact h0
        · rw [show Nat.min 1 n = 1 from Nat.min_eq_left h0] at h
          omega
      · rw [hc1']
        congr 2
        simp [splice]
    case round => 
      obtain ⟨m, hm, hm0, rfl, hcm, hbm⟩ := hrel
      rcases Nat.lt_or_ge m n with hmn | hmn
      · have hcp := run_copy_row (P := Try.prog) wr.drew 22 22 3 3 w.heap.size m (n - m) (n - m) ⟨w.heap.size, 0, none⟩ m n (List.replicate m (Value.int .i64 v) ++ List.replicate (n - m) (Value.int .i64 0)).toArray 3 (List.replicate (Nat.min m (n - m)) (Value.int .i64 v)) Try.underlying22 hsz hcm
        obtain ⟨k, hk⟩ : ∃ k, k = Nat.min m (n - m) := ⟨_, rfl⟩
        have hk1 : k ≤ m := by rw [hk]; exact Nat.min_le_left _ _
        have hk2 : k ≤ n - m := by rw [hk]; exact Nat.min_le_right _ _
        have hk0 : 0 < k := by
          rw [hk]
          exact Nat.lt_min.2 ⟨by omega, by omega⟩
        rw [← hk] at hcp
        replace hcp := hcp (by simp) (fun j u hj => by
          have hj' := (List.getElem?_eq_some_iff.1 hj).1
          rw [List.length_replicate] at hj'
          have hu : u = .int .i64 v := (List.mem_replicate.1 (List.mem_of_getElem? hj)).2
          rw [hu]
          rw [Addr.add_lit]
          have hcm' : wr.drew.heap[w.heap.size]? = some (.cells (List.replicate m (Value.int .i64 v) ++ List.replicate (n - m) (Value.int .i64 0)).toArray 3 (0, 0)) := hcm
          simp [World.cell?, hcm', List.getElem?_append_left, show j < m by omega, List.getElem?_replicate]) (by simp; omega) (fun u hu => by rw [(List.mem_replicate.1 hu).2]; rfl)
        obtain ⟨W2, hW2⟩ : ∃ W2, W2 = wr.drew.setRow w.heap.size (((List.replicate m (Value.int .i64 v) ++ List.replicate (n - m) (Value.int .i64 0)).toArray.toList.take m ++ List.replicate k (Value.int .i64 v) ++ (List.replicate m (Value.int .i64 v) ++ List.replicate (n - m) (Value.int .i64 0)).toArray.toList.drop (m + (List.replicate k (Value.int .i64 v)).length)).toArray) := ⟨_, rfl⟩
        rw [← hW2] at hcp
        have hc2 : W2.heap[w.heap.size]? = some (.cells (List.replicate (m + k) (Value.int .i64 v) ++ List.replicate (n - (m + k)) (Value.int .i64 0)).toArray 3 (0, 0)) := by
          rw [hW2, setRow_heap wr.drew w.heap.size _ _ 3 _ hcm]
          congr 3
          rw [List.toList_toArray, List.length_replicate, List.take_append_of_le_length (by simp), List.take_of_length_le (by simp), List.drop_append, List.drop_eq_nil_of_le (by simp), List.length_replicate, List.drop_replicate, List.nil_append, List.replicate_append_replicate]
          congr 2
          omega
        have hb2 : Below w.heap.size w W2 := by rw [hW2]; exact below_setRow hbm.drew (Nat.le_refl _) _
        have hlen : (List.replicate k (Value.int .i64 v)).length = k := List.length_replicate
        rw [hlen] at hcp
        clear hW2 hc1 hk
        have hne : ¬ n = m := by omega
        have wk : IntKind.i64.wrap ((m : Int) + (k : Int)) = ((m + k : Nat) : Int) := by rw [show (m : Int) + (k : Int) = ((m + k : Nat) : Int) by omega]; exact IntWalk.i64_in _ (by omega)
        have hmn' : (m : Int) < (n : Int) := by omega
        have hmn2 : (m : Int) ≤ (n : Int) := by omega
        go_wp2
        go_region
        go_wp2
        go_roundw
        case rel => exact ⟨m + k, by omega, by omega, rfl, hc2, hb2⟩
        case measure =>
          show n - (((m + k : Nat) : Int)).toNat < n - ((m : Int)).toNat
          omega
      · obtain rfl : m = n := by omega
        go_wp2
        simp [bodyPost, results, Try.results25, go_sem]
        exact ⟨by simpa using hcm, hbm⟩


structure RepPre (l : List Int) (n : Int) : Prop where
  len : l.length = 1
  num : 0 ≤ n ∧ n ≤ 1000
@[push_cast] def repCon : Con := ⟨[.dat (.sl .int), .dat .int], fun (x : List Int × Int × Unit) => RepPre x.1 x.2.1, fun (x : List Int × Int × Unit) => { res := [.val (.sl .int) (List.replicate x.2.1.toNat (x.1.getD 0 0))] }⟩

theorem repeat_spec : FnSpec Try.prog 25 repCon := by
  refine ⟨⟨_, Try.func25, by kernel_rfl, rfl⟩, fun C γ x vs hpre hen => ?_⟩
  have hargs := hen.args
  have hlt := hen.ownlt
  obtain ⟨(l : List Int), (n : Int), _⟩ := x
  obtain ⟨hl, hn0, hn1⟩ := hpre
  dsimp only at hl hn0 hn1
  obtain ⟨v, rfl⟩ : ∃ v, l = [v] := by
    match l, hl with
    | [v], _ => exact ⟨v, rfl⟩
  obtain ⟨k, rfl⟩ : ∃ k : Nat, n = k := ⟨n.toNat, by omega⟩
  obtain ⟨v0, _, rfl, h0, v1, _, rfl, h1, rfl⟩ := hargs
  obtain ⟨cs, ⟨ad, cap, rfl, hc, hm, hall⟩, hv0⟩ := h0
  obtain ⟨b, off, c, rfl, hz, hbb, hp, hcell⟩ := hall 0 (by simp)
  have hp' : c = [.int .i64 v] := hp
  subst hp'
  have hcl : C.w0.cell? ⟨b, off, none⟩ = some (.int .i64 v) := by simpa using hcell 0 _ rfl
  have e0 : v0 = .slice (some ⟨b, off, none⟩) 1 cap := hv0
  have e1 : v1 = .int .i64 (k : Int) := rep_int h1
  subst e0 e1
  show Calls _ _ #[.slice (some ⟨b, off, none⟩) 1 cap, .int .i64 (k : Int)] C.w0 _
  refine (repeat_calls v k (by omega) C.w0 b off cap hcl hbb).mono ?_
  rintro e w2 ⟨rfl, hheap, hbel⟩
  refine ⟨_, γ, rfl, ⟨⟨[], [], [_], rfl, ⟨_, [], rfl, ?_, rfl, rfl, rfl⟩, List.nodup_nil, List.nodup_nil⟩, fun p hp => (by cases hp), fun p hp => (by cases hp), fun b l hb => Nat.lt_of_lt_of_le (hlt b l hb) hbel.size⟩, ⟨hbel.os, hbel.tape, hbel.output, hbel.size, fun b hb _ => hbel.block b hb⟩⟩
  have hfm : (List.replicate k v).flatMap (Sh.int).cells = List.replicate k (Value.int .i64 v) := by rw [List.flatMap_replicate]; simp [Sh.cells]
  have hlt2 := (Array.getElem?_eq_some_iff.1 hheap).1
  have hno : γ.own C.w0.heap.size = none := by
    cases ho : γ.own C.w0.heap.size with
    | none => rfl
    | some l => have := hlt _ l ho; omega
  refine ⟨[.slice (some ⟨C.w0.heap.size, 0, none⟩) k k], frozen_flat (e := 3) (sh := .int) rfl ?_ (fun g hg => ?_), rfl⟩
  · show w2.ownsRow 0 _ 1 _ (List.replicate (Int.toNat (k : Int)) v).length ((List.replicate (Int.toNat (k : Int)) v).flatMap (Sh.int).cells)
    rw [Int.toNat_natCast, hfm, List.length_replicate]
    exact ⟨by simp, .inr ⟨C.w0.heap.size, k, _, rfl, Nat.zero_le _, hheap, Nat.le_refl _, by unfold maxLen; omega, by simp, by simp⟩⟩
  · simp only [Value.ownBlock, Option.some.injEq] at hg
    subst hg
    exact ⟨.inr (.inl (Nat.le_refl _)), hno⟩
end Go.Proofs.Ytikjejmekfpofaa
