import Derived.Test.YtlgkplnifaoeeaaGreatDoorJ8
import Derived.Test.YtlgkplnifaoeeaaGreatDoorJ11
import Derived.Test.YtlgkplnifaoeeaaGreatDoorJ12
import Derived.Test.YtlgkplnifaoeeaaGreatDoorJ17
set_option linter.unusedSimpArgs false
set_option linter.unusedVariables false
namespace Go.Proofs.YtlgkplnifaoeeaaGreatDoor
open Go.RowKit Go.VS
theorem zGU : ∀ (l : List UInt8) (a v : Nat) (c : UInt8), Lib.parseUint10 a l = .ok v → 48 ≤ c.toNat → c.toNat ≤ 57 → v < 1000000000000000000 → Lib.parseUint10 a (l ++ [c]) = .ok (v * 10 + (c.toNat - 48))
  | [], a, v, c, h, h1, h2, hv => by
    simp only [Lib.parseUint10] at h
    injection h with h
    subst h
    simp only [List.nil_append, Lib.parseUint10]
    rw [if_pos ⟨h1, h2⟩, if_neg (by omega), if_neg (by omega)]
  | x :: l, a, v, c, h, h1, h2, hv => by
    simp only [List.cons_append, Lib.parseUint10] at h ⊢
    split at h
    · rename_i hx
      rw [if_pos hx]
      split at h
      · cases h
      · rename_i h3
        rw [if_neg h3]
        split at h
        · cases h
        · rename_i h4
          rw [if_neg h4]
          exact zGU l _ v c h h1 h2 hv
    · cases h
theorem zBr {d : Nat} (h : d < 10) : (UInt8.ofNat (48 + d)).toNat = 48 + d := by
  rw [UInt8.toNat_ofNat']; omega
theorem zPu (u : Nat) : u < 1000000000000000000 → Lib.parseUint10 0 (Lib.decDigits u) = .ok u := by
  induction u using Nat.strongRecOn with
  | _ u ih =>
    intro hu
    by_cases h : u < 10
    · rw [Lib.decDigits_one h]
      have := zGU [] 0 0 (UInt8.ofNat (48 + u)) rfl (by rw [zBr h]; omega) (by rw [zBr h]; omega) (by omega)
      rw [List.nil_append, zBr h] at this
      rw [this]
      congr 1
      omega
    · rw [Lib.decDigits, dif_neg h]
      have hm : u % 10 < 10 := Nat.mod_lt _ (by omega)
      rw [zGU _ _ _ _ (ih (u / 10) (by omega) (by omega)) (by rw [zBr hm]; omega) (by rw [zBr hm]; omega) (by omega), zBr hm]
      congr 1
      omega
theorem zI3 (u : Nat) : ∀ c ∈ Lib.decDigits u, 48 ≤ c.toNat ∧ c.toNat ≤ 57 := by
  induction u using Nat.strongRecOn with
  | _ u ih =>
    intro c hc
    by_cases h : u < 10
    · rw [Lib.decDigits_one h, List.mem_singleton] at hc
      rw [hc, zBr h]
      omega
    · rw [Lib.decDigits, dif_neg h] at hc
      rcases List.mem_append.1 hc with hc | hc
      · exact ih (u / 10) (by omega) c hc
      · rw [List.mem_singleton] at hc
        have hm : u % 10 < 10 := Nat.mod_lt _ (by omega)
        rw [hc, zBr hm]
        omega
theorem zOl (u : Nat) : Lib.decDigits u ≠ [] := by
  intro h
  have := Lib.decDigits_length u
  rw [h] at this
  have h2 : 1 ≤ Lib.nDigits u := by rw [Lib.nDigits]; split <;> omega
  simp at this
  omega
theorem zQk (u : Nat) : 1 ≤ u → ((Lib.decDigits u).getD 0 0).toNat ≠ 48 := by
  induction u using Nat.strongRecOn with
  | _ u ih =>
    intro hu
    by_cases h : u < 10
    · rw [Lib.decDigits_one h]
      show (UInt8.ofNat (48 + u)).toNat ≠ 48
      rw [zBr h]
      omega
    · rw [Lib.decDigits, dif_neg h]
      have hl : 0 < (Lib.decDigits (u / 10)).length := List.length_pos_iff.2 (zOl _)
      rw [List.getD_eq_getElem?_getD, List.getElem?_append_left hl, ← List.getD_eq_getElem?_getD]
      exact ih (u / 10) (by omega) (by omega)
theorem zN4 {n : Nat} (h : n < 1000000000000000000) : Lib.atoiAll (Lib.itoa (n : Int)) = .ok (n : Int) := by
  rw [Lib.itoa_nonneg]
  cases hd : Lib.decDigits n with
  | nil => exact absurd hd (zOl n)
  | cons c r =>
    have hc := zI3 n c (by rw [hd]; simp)
    have hp := zPu n h
    unfold Lib.atoiAll
    dsimp only
    rw [if_neg (by omega : ¬ (c.toNat = 43 ∨ c.toNat = 45)), Lib.parseMag, if_neg (by simp), ← hd, hp]
    dsimp only
    rw [if_neg (by omega), if_neg (by omega), if_neg (by omega)]
theorem zHC (n : Int) : (itoaV n).data.toList = Lib.itoa n := rfl
theorem zFr {v : Int} (h0 : 0 ≤ v) (h1 : v ≤ 1000000000) : zCK (itoaV v) = true ∧ atoiV (itoaV v) = v := by
  have e : Lib.atoiAll (itoaV v).data.toList = .ok v := by
    rw [zHC]
    have := zN4 (n := v.toNat) (by omega)
    rwa [Int.toNat_of_nonneg h0] at this
  unfold zCK atoiV
  rw [e]
  exact ⟨rfl, rfl⟩
theorem zLM {s : ByteArray} (h0 : byteV s 0 ≠ 48) : ∀ {k : Nat}, (∀ i, i < k + 1 → 48 ≤ byteV s i ∧ byteV s i ≤ 57) → 1 ≤ decK s (k + 1)
  | 0, h => by
    have := h 0 (by omega)
    show 1 ≤ 10 * decK s 0 + ((byteV s 0 : Int) - 48)
    have e : decK s 0 = 0 := rfl
    omega
  | k + 1, h => by
    have h1 := zLM h0 (k := k) (fun i hi => h i (by omega))
    have h2 := h (k + 1) (by omega)
    show 1 ≤ 10 * decK s (k + 1) + ((byteV s (k + 1) : Int) - 48)
    omega
theorem zLN {s : ByteArray} (hd : ∀ k, k < s.size → 48 ≤ byteV s k ∧ byteV s k ≤ 57) (hz : ¬ (1 < s.size ∧ byteV s 0 = 48)) (h6 : s.size ≤ 6) :
    ∀ k, k + 1 ≤ s.size → Lib.decDigits (decK s (k + 1)).toNat = s.data.toList.take (k + 1)
  | 0, hk => by
    have h := hd 0 (by omega)
    have e : decK s 1 = (byteV s 0 : Int) - 48 := by show 10 * decK s 0 + ((byteV s 0 : Int) - 48) = _; have e : decK s 0 = 0 := rfl; omega
    have hl : 0 < s.data.toList.length := by rw [Array.length_toList]; show 0 < s.size; omega
    rw [e, Lib.decDigits_one (by omega)]
    cases hL : s.data.toList with
    | nil => rw [hL] at hl; simp at hl
    | cons c r =>
      have hb : byteV s 0 = c.toNat := by unfold byteV; rw [hL]; rfl
      have e2 : 48 + ((byteV s 0 : Int) - 48).toNat = c.toNat := by omega
      rw [e2, UInt8.ofNat_toNat]
      rfl
  | k + 1, hk => by
    have ih := zLN hd hz h6 k (by omega)
    have h := hd (k + 1) (by omega)
    have hp := zLM (s := s) (fun e => hz ⟨by omega, e⟩) (k := k) (fun i hi => hd i (by omega))
    have e : decK s (k + 1 + 1) = 10 * decK s (k + 1) + ((byteV s (k + 1) : Int) - 48) := rfl
    have hl : k + 1 < s.data.toList.length := by rw [Array.length_toList]; show k + 1 < s.size; omega
    rw [Lib.decDigits, dif_neg (by omega), show (decK s (k + 1 + 1)).toNat / 10 = (decK s (k + 1)).toNat by omega, ih, show (decK s (k + 1 + 1)).toNat % 10 = byteV s (k + 1) - 48 by omega, List.take_succ_eq_append_getElem hl]
    congr 2
    have hb : byteV s (k + 1) = (s.data.toList[k + 1]).toNat := by unfold byteV; rw [List.getD_eq_getElem?_getD, List.getElem?_eq_getElem hl]; rfl
    exact UInt8.toNat_inj.1 (by rw [UInt8.toNat_ofNat']; have := (s.data.toList[k + 1]).toNat_lt; omega)
theorem zGQ {s : ByteArray} (h : zBG s = true) : itoaV (numRV s) = s ∧ 0 ≤ numRV s ∧ numRV s ≤ 999999 := by
  have h' := h
  rw [zBG, Bool.and_eq_true, decide_eq_true_eq] at h'
  obtain ⟨⟨h1, h2, h3⟩, h4⟩ := h'
  have hd := zCO.1 h4
  have hb := zFt h2 (k := s.size) hd
  have hp : (10 : Int) ^ s.size ≤ 10 ^ 6 := by
    have := Nat.pow_le_pow_right (show 0 < 10 by omega) h2
    exact_mod_cast this
  have e : numRV s = decK s s.size := if_pos h
  obtain ⟨k, hk⟩ : ∃ k, s.size = k + 1 := ⟨s.size - 1, by omega⟩
  have ht := zLN hd h3 h2 k (by omega)
  rw [← hk, List.take_of_length_le (by rw [Array.length_toList]; exact Nat.le_refl _)] at ht
  refine ⟨?_, by omega, by rw [e]; omega⟩
  rw [e]
  have hi : Lib.itoa (decK s s.size) = s.data.toList := by
    have := Lib.itoa_nonneg (decK s s.size).toNat
    rw [Int.toNat_of_nonneg hb.1] at this
    rw [this, ht]
  unfold itoaV
  rw [hi]
theorem zON {v : Int} (h0 : 0 ≤ v) (h1 : v ≤ 999999) : zBG (itoaV v) = true := by
  have hL : (itoaV v).data.toList = Lib.decDigits v.toNat := by
    rw [zHC]
    have := Lib.itoa_nonneg v.toNat
    rwa [Int.toNat_of_nonneg h0] at this
  have hs : (itoaV v).size = (Lib.decDigits v.toNat).length := by rw [← hL, Array.length_toList]; rfl
  have hn : (Lib.decDigits v.toNat).length = Lib.nDigits v.toNat := Lib.decDigits_length _
  have hpos : 0 < (Lib.decDigits v.toNat).length := List.length_pos_iff.2 (zOl _)
  have hn6 : Lib.nDigits v.toNat ≤ 6 := by
    have step : ∀ u, Lib.nDigits u = if u < 10 then 1 else Lib.nDigits (u / 10) + 1 := fun u => by rw [Lib.nDigits]; split <;> rfl
    rw [step, step, step, step, step, step]
    repeat' split
    all_goals omega
  have hn1 : 1 < (Lib.decDigits v.toNat).length → 1 ≤ v.toNat := fun h => by
    by_cases h9 : v.toNat < 10
    · rw [hn, Lib.nDigits_small h9] at h; omega
    · omega
  rw [zBG, Bool.and_eq_true, decide_eq_true_eq]
  refine ⟨⟨by omega, by omega, fun ⟨h, hb⟩ => ?_⟩, zCO.2 fun k hk => ?_⟩
  · unfold byteV at hb
    rw [hL] at hb
    exact zQk _ (hn1 (by omega)) hb
  · unfold byteV
    rw [hL, List.getD_eq_getElem?_getD, List.getElem?_eq_getElem (by omega)]
    exact zI3 _ _ (List.getElem_mem _)
theorem zTs {s : ByteArray} {m : Int} (hm : m ≤ 999999) : numV s m = (zBG s && decide (numRV s ≤ m)) := by
  cases h : zBG s with
  | true =>
    obtain ⟨h1, h2, h3⟩ := zGQ h
    obtain ⟨a1, a2⟩ := zFr h2 (by omega)
    rw [h1] at a1 a2
    unfold numV
    rw [a1, a2, h1, decide_eq_true h2, decide_eq_true (rfl : s = s)]
    simp
  | false =>
    rw [Bool.false_and]
    cases hv : numV s m with
    | false => rfl
    | true =>
      unfold numV at hv
      simp only [Bool.and_eq_true, decide_eq_true_eq] at hv
      obtain ⟨_, h2, h3, h4⟩ := hv
      have := zON h2 (by omega)
      rw [h4, h] at this
      cases this
theorem zPg {s : ByteArray} (h : zBG s = true) : atoiV s = numRV s := by
  obtain ⟨h1, h2, h3⟩ := zGQ h
  have := (zFr h2 (by omega)).2
  rwa [h1] at this
end Go.Proofs.YtlgkplnifaoeeaaGreatDoor
namespace Go.Proofs.YtlgkplnifaoeeaaGreatDoor
open Go.RowKit Go.VS
theorem zHo {a b : ByteArray} (h : a.data.toList = b.data.toList) : a = b := ByteArray.ext (Array.toList_inj.1 h)
theorem zDP (s : ByteArray) (y : Nat) : ∀ (n k : Nat), k + n = s.size → (∀ j, k ≤ j → j < zB4 s y n k → byteV s j ≠ y) ∧ (zB4 s y n k < s.size → byteV s (zB4 s y n k) = y) ∧ k ≤ zB4 s y n k ∧ zB4 s y n k ≤ s.size
  | 0, k, h => by
    have e : zB4 s y 0 k = s.size := rfl
    rw [e]
    exact ⟨fun j h1 h2 => by omega, fun h2 => by omega, by omega, by omega⟩
  | n + 1, k, h => by
    by_cases hb : byteV s k = y
    · have e : zB4 s y (n + 1) k = k := if_pos hb
      rw [e]
      exact ⟨fun j h1 h2 => by omega, fun _ => hb, by omega, by omega⟩
    · have e : zB4 s y (n + 1) k = zB4 s y n (k + 1) := if_neg hb
      rw [e]
      obtain ⟨h1, h2, h3, h4⟩ := zDP s y n (k + 1) (by omega)
      refine ⟨fun j h5 h6 => ?_, h2, by omega, h4⟩
      by_cases hj : j = k
      · rw [hj]; exact hb
      · exact h1 j (by omega) h6
theorem zK2 {l : List UInt8} {c : UInt8} {i : Nat} : Lib.occAt l [c] i = true ↔ l[i]? = some c := by
  unfold Lib.occAt
  rw [← List.head?_drop]
  cases l.drop i with
  | nil => simp
  | cons x r =>
    show (c == x && ([] : List UInt8).isPrefixOf r) = true ↔ some x = some c
    rw [Bool.and_eq_true, beq_iff_eq, Option.some.injEq]
    exact ⟨fun h => h.1.symm, fun h => ⟨h.symm, by cases r <;> rfl⟩⟩
theorem zIh {s : ByteArray} {c : UInt8} {i : Nat} (h : i < s.size) : s.data.toList[i]? = some c ↔ byteV s i = c.toNat := by
  have hl : i < s.data.toList.length := by rw [Array.length_toList]; exact h
  unfold byteV
  rw [List.getD_eq_getElem?_getD, List.getElem?_eq_getElem hl]
  show some s.data.toList[i] = some c ↔ s.data.toList[i].toNat = c.toNat
  rw [Option.some.injEq]
  exact UInt8.toNat_inj.symm
theorem zOM (s : ByteArray) (c : UInt8) : Lib.index s.data.toList [c] = if zA7 s c.toNat = true then (cutI s c.toNat : Int) else -1 := by
  obtain ⟨h1, h2, _, h4⟩ := zDP s c.toNat s.size 0 (by omega)
  have hl : s.data.toList.length = s.size := by rw [Array.length_toList]; rfl
  have occ : ∀ j, j < cutI s c.toNat → Lib.occAt s.data.toList [c] j = false := fun j hj => by
    cases ho : Lib.occAt s.data.toList [c] j with
    | false => rfl
    | true =>
      have := (zIh (show j < s.size by unfold cutI at hj; omega)).1 (zK2.1 ho)
      exact absurd this (h1 j (Nat.zero_le _) hj)
  by_cases hh : cutI s c.toNat < s.size
  · have hh' : zA7 s c.toNat = true := decide_eq_true hh
    rw [if_pos hh']
    exact Lib.index_first (by omega) (zK2.2 ((zIh hh).2 (h2 hh))) occ
  · have hh' : ¬ zA7 s c.toNat = true := fun h => hh (of_decide_eq_true h)
    rw [if_neg hh']
    refine Lib.index_none fun j hj => ?_
    by_cases hj2 : j < s.size
    · exact occ j (by unfold cutI at hh ⊢; omega)
    · cases ho : Lib.occAt s.data.toList [c] j with
      | false => rfl
      | true =>
        have := zK2.1 ho
        rw [List.getElem?_eq_none (by omega)] at this
        cases this
theorem zGe (s : ByteArray) (i j : Nat) : (s.extract i j).data.toList = (s.data.toList.drop i).take (j - i) := by
  rw [ByteArray.data_extract, Array.toList_extract, List.extract_eq_take_drop]
theorem zOk (s : ByteArray) (c : UInt8) : cutB s ⟨#[c]⟩ = zA7 s c.toNat ∧ cut1 s ⟨#[c]⟩ = rcut1 s c.toNat ∧ cut2 s ⟨#[c]⟩ = rcut2 s c.toNat := by
  have hi := zOM s c
  have hl : s.data.toList.length = s.size := by rw [Array.length_toList]; rfl
  have hc : Lib.cut s.data.toList [c] = if zA7 s c.toNat = true then (s.data.toList.take (cutI s c.toNat), s.data.toList.drop (cutI s c.toNat + 1), true) else (s.data.toList, [], false) := by
    unfold Lib.cut
    rw [hi]
    by_cases h : zA7 s c.toNat = true
    · rw [if_pos h, if_pos h, if_pos (by omega)]
      rfl
    · rw [if_neg h, if_neg h, if_neg (by omega)]
  have e : (⟨#[c]⟩ : ByteArray).data.toList = [c] := rfl
  unfold cutB cut1 cut2 rcut1 rcut2
  rw [e, hc]
  by_cases h : zA7 s c.toNat = true
  · rw [if_pos h, if_pos h, if_pos h, h]
    refine ⟨rfl, zHo ?_, zHo ?_⟩
    · rw [zGe]; simp
    · rw [zGe]
      show s.data.toList.drop _ = _
      rw [List.take_of_length_le (by rw [List.length_drop]; omega)]
  · rw [if_neg h, if_neg h, if_neg h]
    refine ⟨(by simpa using h : zA7 s c.toNat = false).symm, zHo rfl, zHo rfl⟩
theorem zLK {s : ByteArray} {c : UInt8} (h : zA7 s c.toNat = true) : rcut1 s c.toNat ++ ⟨#[c]⟩ ++ rcut2 s c.toNat = s := by
  obtain ⟨h1, h2, _, h4⟩ := zDP s c.toNat s.size 0 (by omega)
  have hh : cutI s c.toNat < s.size := of_decide_eq_true h
  have hl : s.data.toList.length = s.size := by rw [Array.length_toList]; rfl
  refine zHo ?_
  rw [ByteArray.data_append, Array.toList_append, ByteArray.data_append, Array.toList_append]
  unfold rcut1 rcut2
  rw [if_pos h, if_pos h, zGe, zGe]
  have hg := (zIh hh).2 (h2 hh)
  rw [List.getElem?_eq_getElem (by omega)] at hg
  have hg' := Option.some.inj hg
  show ((s.data.toList.drop 0).take (cutI s c.toNat - 0) ++ [c]) ++ (s.data.toList.drop (cutI s c.toNat + 1)).take (s.size - (cutI s c.toNat + 1)) = _
  rw [List.take_of_length_le (l := s.data.toList.drop (cutI s c.toNat + 1)) (by rw [List.length_drop]; omega), List.drop_zero, Nat.sub_zero, List.append_assoc, List.singleton_append]
  conv => rhs; rw [← List.take_append_drop (cutI s c.toNat) s.data.toList, List.drop_eq_getElem_cons (by omega : cutI s c.toNat < s.data.toList.length)]
  congr 2
  exact hg'.symm
end Go.Proofs.YtlgkplnifaoeeaaGreatDoor
namespace Go.Proofs.YtlgkplnifaoeeaaGreatDoor
open Go.RowKit Go.VS
def zC3 (b : ByteArray) : ByteArray := rcut1 (zBf b) 32
theorem zH1 {b : ByteArray} (h3 : zA7 (zAO b) 32 = true) (hw : zBG (zBv b) = true) : textV (numRV (zBv b)) (zA3 b) = zAO b := by
  have e := zLK (s := zAO b) (c := 32) h3
  unfold textV
  rw [(zGQ hw).1]
  exact e
theorem zSn {b : ByteArray} {s : Int} (h1 : zA7 b 10 = true) (h2 : zA7 (zBf b) 32 = true) (h3 : zA7 (zAO b) 32 = true) (h4 : zBG (zBv b) = true) (h5 : numRV (zBv b) ≤ 999999)
    (h6 : 1 ≤ ((zA3 b).size : Int) ∧ ((zA3 b).size : Int) ≤ 30) : nxOK b s = (numV (zC3 b) 1000002 && decide (atoiV (zC3 b) = sumV s (zAO b))) := by
  have hg : zB9 b = true := by
    unfold zB9 nxIs
    rw [h1, h2, h3, h4, decide_eq_true h5, decide_eq_true h6]
    rfl
  have ht := zH1 h3 h4
  have hj := zLK (s := zBf b) (c := 32) h2
  have hl : lineV s (zCT b) = itoaV (sumV s (zAO b)) ++ spS ++ zAO b := by
    unfold lineV zCT
    dsimp only
    rw [ht]
  have hb := zCi s (zAO b) (zAO b).size
  have hb' : 0 ≤ sumV s (zAO b) ∧ sumV s (zAO b) ≤ 1000002 := hb
  obtain ⟨a1, a2⟩ := zFr hb'.1 (by omega)
  have hjoin : zC3 b ++ spS ++ zAO b = zBf b := hj
  unfold nxOK
  rw [hg, Bool.true_and, hl]
  by_cases he : itoaV (sumV s (zAO b)) = zC3 b
  · have e1 : decide (itoaV (sumV s (zAO b)) ++ spS ++ zAO b = zBf b) = true := decide_eq_true (by rw [he]; exact hjoin)
    have e2 : numV (zC3 b) 1000002 = true := by
      rw [← he]
      unfold numV
      rw [a1, a2, decide_eq_true hb'.1, decide_eq_true hb'.2, decide_eq_true rfl]
      rfl
    have e3 : decide (atoiV (zC3 b) = sumV s (zAO b)) = true := decide_eq_true (by rw [← he]; exact a2)
    rw [e1, e2, e3]
    rfl
  · have e1 : decide (itoaV (sumV s (zAO b)) ++ spS ++ zAO b = zBf b) = false := by
      refine decide_eq_false fun e => he ?_
      rw [← hjoin] at e
      have e' := congrArg (fun x : ByteArray => x.data.toList) e
      simp only [ByteArray.data_append, Array.toList_append, List.append_assoc] at e'
      exact zHo (List.append_cancel_right e')
    rw [e1]
    cases hn : numV (zC3 b) 1000002 with
    | false => rfl
    | true =>
      rw [Bool.true_and]
      refine (decide_eq_false fun e => he ?_).symm
      unfold numV at hn
      simp only [Bool.and_eq_true, decide_eq_true_eq] at hn
      rw [← e]
      exact hn.2.2.2
end Go.Proofs.YtlgkplnifaoeeaaGreatDoor
namespace Go.Proofs.YtlgkplnifaoeeaaGreatDoor
open Go.RowKit Go.VS
@[push_cast] def zGW : Con := ⟨[.dat .str], fun (x : ByteArray × Unit) => x.1.size ≤ 1000000, fun (x : ByteArray × Unit) =>
  { res := [.own (.flat 9 .str ((zAU 60 x.1 0).1.map Prod.fst)), .own (.flat 3 .int ((zAU 60 x.1 0).1.map Prod.snd)), .val .str (zAU 60 x.1 0).2] }⟩
set_option maxHeartbeats 8000000 in
theorem zJI : FnSpec Tryz.prog 33 zGW := by
  refine FnSpec.of_tri' (E := know [(83, zOj), (84, zRK), (19, zFM)] [] [] []) (zAn (all_cons zLL (all_cons zQR (all_cons zFz all_nil))) all_nil all_nil) Tryz.func33 rfl rfl (by kernel_rfl) ?_
  intro C x hE hnl hfit hpre
  simp only [Tryz.ntmps33, Tryz.results33, maxLen, Nat.reduceSub, Nat.reducePow, Nat.reduceAdd, Int.cast_ofNat_Int, push_cast] at hnl hfit hpre ⊢
  obtain ⟨(book : ByteArray), _⟩ := x
  dsimp only at hfit hpre ⊢
  repeat' (first|(refine goK (by assumption) ?_; iterate 4 (try clear hK K))|(refine zAd fun K hK => ?_)|((first|refine zAb hE rfl ?_|refine zAh ?_); simp +contextual only [hnl, ↓kN, ↓kP, ↓kG, ↓qN, ↓qP, ↓qG, push_cast, seval, reduceCtorEq, Int.cast_ofNat_Int])|refine zAc ?_|((first|refine zAg ?_|refine zAf ?_); simp only [thenQ, zAk, if_true, if_false, Nat.reduceEqDiff, reduceCtorEq])|(refine zAe (by rfl) (fun hb => ?_) (fun hb => ?_) <;> (try simp only [b1, b2, b3, b4, reduceCtorEq, b5, b6] at hb) <;> (try omega))|refine zAi (by rfl) ?_ ?_|refine andS ?_|(refine ⟨fun hc => ?_, fun hc => ?_⟩)|(intro hc; try omega))
  refine zAp (fun y : List Line × ByteArray × Int => AS.of [(0, .one (.val .str y.2.1)), (5, .one (.ref 90)), (6, .one (.ref 94)), (7, .I y.2.2)] [(90, .flat 9 .str (y.1.map Prod.fst)), (94, .flat 3 .int (y.1.map Prod.snd))] []) (fun y => y.1.length ≤ 60 ∧ y.2.1.size ≤ 1000000 ∧ zAU 60 book 0 = (y.1 ++ (zAU (60 - y.1.length) y.2.1 y.2.2).1, (zAU (60 - y.1.length) y.2.1 y.2.2).2)) (fun y => 60 - y.1.length) ([], book, 0) ⟨Nat.zero_le _, hpre, rfl⟩ ?_ ?_
  · refine zAj ?_ ?_ ?_ <;> simp only [push_cast, seval, reduceCtorEq, Int.cast_ofNat_Int]
    all_goals first | rfl | omega | exact ⟨by omega, rfl⟩ | skip
  rintro ⟨out, b, s⟩ ⟨h1, h2, h3⟩ K' hL
  dsimp only at h1 h2 h3 ⊢
  have hln : (out.map Prod.fst).length = out.length ∧ (out.map Prod.snd).length = out.length := ⟨List.length_map .., List.length_map ..⟩
  rcases Nat.lt_or_ge out.length 60 with h4 | h4
  rotate_left
  · rw [show 60 - out.length = 0 by omega] at h3
    have h3' : zAU 60 book 0 = (out, b) := by rw [h3]; show (out ++ [], b) = _; rw [List.append_nil]
    replace hnl := And.intro hnl (And.intro hln h3')
    exact auA
  have e0 := zOk b 10
  have e1 : cut1 b { data := #[10] } = zBf b := e0.2.1
  have e2 : cut2 b { data := #[10] } = rcut2 b 10 := e0.2.2
  have e3 : cutB b { data := #[10] } = zA7 b 10 := e0.1
  have g0 := zOk (zBf b) 32
  have e4 : cut1 (zBf b) { data := #[32] } = zC3 b := g0.2.1
  have e5 : cut2 (zBf b) { data := #[32] } = zAO b := g0.2.2
  have e6 : cutB (zBf b) { data := #[32] } = zA7 (zBf b) 32 := g0.1
  have k0 := zOk (zAO b) 32
  have e7 : cut1 (zAO b) { data := #[32] } = zBv b := k0.2.1
  have e8 : cut2 (zAO b) { data := #[32] } = zA3 b := k0.2.2
  have e9 : cutB (zAO b) { data := #[32] } = zA7 (zAO b) 32 := k0.1
  have z1 : (zBf b).size ≤ b.size := zEo b 10
  have z2 : (zAO b).size ≤ (zBf b).size := zDj (zBf b) 32
  have z3 : (zBv b).size ≤ (zAO b).size := zEo (zAO b) 32
  have z4 : (zA3 b).size ≤ (zAO b).size := zDj (zAO b) 32
  have z5 : (zC3 b).size ≤ (zBf b).size := zEo (zBf b) 32
  have z6 := zDj b 10
  replace hnl := And.intro hnl (And.intro hln (And.intro e1 (And.intro e2 (And.intro e3 (And.intro e4 (And.intro e5 (And.intro e6 (And.intro e7 (And.intro e8 e9)))))))))
  cases c1 : zA7 b 10 with
  | false =>
    have hk : ¬ nxOK b s = true := by unfold nxOK zB9; rw [c1]; simp
    rw [zBq hk, List.append_nil] at h3
    replace hnl := And.intro hnl (And.intro c1 h3)
    repeat' (first|(refine goK (by assumption) ?_; iterate 4 (try clear hK K))|(refine zAd fun K hK => ?_)|((first|refine zAb hE rfl ?_|refine zAh ?_); simp +contextual only [hnl, ↓kN, ↓kP, ↓kG, ↓qN, ↓qP, ↓qG, push_cast, seval, reduceCtorEq, Int.cast_ofNat_Int])|refine zAc ?_|((first|refine zAg ?_|refine zAf ?_); simp only [thenQ, zAk, if_true, if_false, Nat.reduceEqDiff, reduceCtorEq])|(refine zAe (by rfl) (fun hb => ?_) (fun hb => ?_) <;> (try simp only [b1, b2, b3, b4, reduceCtorEq, b5, b6] at hb) <;> (try omega))|refine zAi (by rfl) ?_ ?_|refine andS ?_|(refine ⟨fun hc => ?_, fun hc => ?_⟩)|(intro hc; try omega))
  | true =>
  cases c2 : zA7 (zBf b) 32 with
  | false =>
    have hk : ¬ nxOK b s = true := by unfold nxOK zB9; rw [c1, c2]; simp
    rw [zBq hk, List.append_nil] at h3
    replace hnl := And.intro hnl (And.intro c1 (And.intro c2 h3))
    repeat' (first|(refine goK (by assumption) ?_; iterate 4 (try clear hK K))|(refine zAd fun K hK => ?_)|((first|refine zAb hE rfl ?_|refine zAh ?_); simp +contextual only [hnl, ↓kN, ↓kP, ↓kG, ↓qN, ↓qP, ↓qG, push_cast, seval, reduceCtorEq, Int.cast_ofNat_Int])|refine zAc ?_|((first|refine zAg ?_|refine zAf ?_); simp only [thenQ, zAk, if_true, if_false, Nat.reduceEqDiff, reduceCtorEq])|(refine zAe (by rfl) (fun hb => ?_) (fun hb => ?_) <;> (try simp only [b1, b2, b3, b4, reduceCtorEq, b5, b6] at hb) <;> (try omega))|refine zAi (by rfl) ?_ ?_|refine andS ?_|(refine ⟨fun hc => ?_, fun hc => ?_⟩)|(intro hc; try omega))
  | true =>
  cases c3 : zA7 (zAO b) 32 with
  | false =>
    have hk : ¬ nxOK b s = true := by unfold nxOK zB9; rw [c1, c2, c3]; simp
    rw [zBq hk, List.append_nil] at h3
    replace hnl := And.intro hnl (And.intro c1 (And.intro c2 (And.intro c3 h3)))
    repeat' (first|(refine goK (by assumption) ?_; iterate 4 (try clear hK K))|(refine zAd fun K hK => ?_)|((first|refine zAb hE rfl ?_|refine zAh ?_); simp +contextual only [hnl, ↓kN, ↓kP, ↓kG, ↓qN, ↓qP, ↓qG, push_cast, seval, reduceCtorEq, Int.cast_ofNat_Int])|refine zAc ?_|((first|refine zAg ?_|refine zAf ?_); simp only [thenQ, zAk, if_true, if_false, Nat.reduceEqDiff, reduceCtorEq])|(refine zAe (by rfl) (fun hb => ?_) (fun hb => ?_) <;> (try simp only [b1, b2, b3, b4, reduceCtorEq, b5, b6] at hb) <;> (try omega))|refine zAi (by rfl) ?_ ?_|refine andS ?_|(refine ⟨fun hc => ?_, fun hc => ?_⟩)|(intro hc; try omega))
  | true =>
  have hn := zTs (s := zBv b) (m := 999999) (by omega)
  cases c5 : numV (zBv b) 999999 with
  | false =>
    have hk : ¬ nxOK b s = true := by unfold nxOK zB9 nxIs; rw [← hn, c5]; simp
    rw [zBq hk, List.append_nil] at h3
    cases c4 : numV (zC3 b) 1000002 with
    | false =>
      replace hnl := And.intro hnl (And.intro c1 (And.intro c2 (And.intro c3 (And.intro c4 h3))))
      repeat' (first|(refine goK (by assumption) ?_; iterate 4 (try clear hK K))|(refine zAd fun K hK => ?_)|((first|refine zAb hE rfl ?_|refine zAh ?_); simp +contextual only [hnl, ↓kN, ↓kP, ↓kG, ↓qN, ↓qP, ↓qG, push_cast, seval, reduceCtorEq, Int.cast_ofNat_Int])|refine zAc ?_|((first|refine zAg ?_|refine zAf ?_); simp only [thenQ, zAk, if_true, if_false, Nat.reduceEqDiff, reduceCtorEq])|(refine zAe (by rfl) (fun hb => ?_) (fun hb => ?_) <;> (try simp only [b1, b2, b3, b4, reduceCtorEq, b5, b6] at hb) <;> (try omega))|refine zAi (by rfl) ?_ ?_|refine andS ?_|(refine ⟨fun hc => ?_, fun hc => ?_⟩)|(intro hc; try omega))
    | true =>
      replace hnl := And.intro hnl (And.intro c1 (And.intro c2 (And.intro c3 (And.intro c4 (And.intro c5 h3)))))
      repeat' (first|(refine goK (by assumption) ?_; iterate 4 (try clear hK K))|(refine zAd fun K hK => ?_)|((first|refine zAb hE rfl ?_|refine zAh ?_); simp +contextual only [hnl, ↓kN, ↓kP, ↓kG, ↓qN, ↓qP, ↓qG, push_cast, seval, reduceCtorEq, Int.cast_ofNat_Int])|refine zAc ?_|((first|refine zAg ?_|refine zAf ?_); simp only [thenQ, zAk, if_true, if_false, Nat.reduceEqDiff, reduceCtorEq])|(refine zAe (by rfl) (fun hb => ?_) (fun hb => ?_) <;> (try simp only [b1, b2, b3, b4, reduceCtorEq, b5, b6] at hb) <;> (try omega))|refine zAi (by rfl) ?_ ?_|refine andS ?_|(refine ⟨fun hc => ?_, fun hc => ?_⟩)|(intro hc; try omega))
  | true =>
  rw [c5] at hn
  have hn' := hn.symm
  rw [Bool.and_eq_true, decide_eq_true_eq] at hn'
  have ha : atoiV (zBv b) = numRV (zBv b) := zPg hn'.1
  by_cases c7 : 1 ≤ ((zA3 b).size : Int) ∧ ((zA3 b).size : Int) ≤ 30
  rotate_left
  · have hk : ¬ nxOK b s = true := by unfold nxOK zB9; rw [decide_eq_false c7]; simp
    rw [zBq hk, List.append_nil] at h3
    cases c4 : numV (zC3 b) 1000002 with
    | false =>
      replace hnl := And.intro hnl (And.intro c1 (And.intro c2 (And.intro c3 (And.intro c4 h3))))
      repeat' (first|(refine goK (by assumption) ?_; iterate 4 (try clear hK K))|(refine zAd fun K hK => ?_)|((first|refine zAb hE rfl ?_|refine zAh ?_); simp +contextual only [hnl, ↓kN, ↓kP, ↓kG, ↓qN, ↓qP, ↓qG, push_cast, seval, reduceCtorEq, Int.cast_ofNat_Int])|refine zAc ?_|((first|refine zAg ?_|refine zAf ?_); simp only [thenQ, zAk, if_true, if_false, Nat.reduceEqDiff, reduceCtorEq])|(refine zAe (by rfl) (fun hb => ?_) (fun hb => ?_) <;> (try simp only [b1, b2, b3, b4, reduceCtorEq, b5, b6] at hb) <;> (try omega))|refine zAi (by rfl) ?_ ?_|refine andS ?_|(refine ⟨fun hc => ?_, fun hc => ?_⟩)|(intro hc; try omega))
    | true =>
      by_cases c6 : atoiV (zC3 b) = sumV s (zAO b)
      · by_cases c8 : ((zA3 b).size : Int) < 1
        · replace hnl := And.intro hnl (And.intro c1 (And.intro c2 (And.intro c3 (And.intro c4 (And.intro c5 (And.intro c6 (And.intro (eq_true c8) h3)))))))
          exact auA
        · have c9 : 30 < ((zA3 b).size : Int) := by omega
          replace hnl := And.intro hnl (And.intro c1 (And.intro c2 (And.intro c3 (And.intro c4 (And.intro c5 (And.intro c6 (And.intro (eq_false c8) (And.intro (eq_true c9) h3))))))))
          exact auA
      · replace hnl := And.intro hnl (And.intro c1 (And.intro c2 (And.intro c3 (And.intro c4 (And.intro c5 (And.intro (eq_false c6) h3))))))
        exact auA
  have hr := zSn (s := s) c1 c2 c3 hn'.1 hn'.2 c7
  cases c4 : numV (zC3 b) 1000002 with
  | false =>
    have hk : ¬ nxOK b s = true := by rw [hr, c4]; simp
    rw [zBq hk, List.append_nil] at h3
    replace hnl := And.intro hnl (And.intro c1 (And.intro c2 (And.intro c3 (And.intro c4 h3))))
    repeat' (first|(refine goK (by assumption) ?_; iterate 4 (try clear hK K))|(refine zAd fun K hK => ?_)|((first|refine zAb hE rfl ?_|refine zAh ?_); simp +contextual only [hnl, ↓kN, ↓kP, ↓kG, ↓qN, ↓qP, ↓qG, push_cast, seval, reduceCtorEq, Int.cast_ofNat_Int])|refine zAc ?_|((first|refine zAg ?_|refine zAf ?_); simp only [thenQ, zAk, if_true, if_false, Nat.reduceEqDiff, reduceCtorEq])|(refine zAe (by rfl) (fun hb => ?_) (fun hb => ?_) <;> (try simp only [b1, b2, b3, b4, reduceCtorEq, b5, b6] at hb) <;> (try omega))|refine zAi (by rfl) ?_ ?_|refine andS ?_|(refine ⟨fun hc => ?_, fun hc => ?_⟩)|(intro hc; try omega))
  | true =>
  by_cases c6 : atoiV (zC3 b) = sumV s (zAO b)
  rotate_left
  · have hk : ¬ nxOK b s = true := by rw [hr, c4, decide_eq_false c6]; simp
    rw [zBq hk, List.append_nil] at h3
    replace hnl := And.intro hnl (And.intro c1 (And.intro c2 (And.intro c3 (And.intro c4 (And.intro c5 (And.intro (eq_false c6) h3))))))
    exact auA
  have hk : nxOK b s = true := by rw [hr, c4, decide_eq_true c6]; rfl
  obtain ⟨m, hm⟩ : ∃ m, 60 - out.length = m + 1 := ⟨60 - out.length - 1, by omega⟩
  rw [hm, zFC hk] at h3
  have c8 : ¬ ((zA3 b).size : Int) < 1 := by omega
  have c9 : ¬ 30 < ((zA3 b).size : Int) := by omega
  replace hnl := And.intro hnl (And.intro c1 (And.intro c2 (And.intro c3 (And.intro c4 (And.intro c5 (And.intro c6 (And.intro (eq_false c8) (And.intro (eq_false c9) ha))))))))
  repeat' (first|(refine goK (by assumption) ?_; iterate 4 (try clear hK K))|(refine zAd fun K hK => ?_)|((first|refine zAb hE rfl ?_|refine zAh ?_); simp +contextual only [hnl, ↓kN, ↓kP, ↓kG, ↓qN, ↓qP, ↓qG, push_cast, seval, reduceCtorEq, Int.cast_ofNat_Int])|refine zAc ?_|((first|refine zAg ?_|refine zAf ?_); simp only [thenQ, zAk, if_true, if_false, Nat.reduceEqDiff, reduceCtorEq])|(refine zAe (by rfl) (fun hb => ?_) (fun hb => ?_) <;> (try simp only [b1, b2, b3, b4, reduceCtorEq, b5, b6] at hb) <;> (try omega))|refine zAi (by rfl) ?_ ?_|refine andS ?_|(refine ⟨fun hc => ?_, fun hc => ?_⟩)|(intro hc; try omega))
  refine hL _ (out ++ [zCT b], rcut2 b 10, nxSum b s) ⟨?_, ?_, ?_⟩ ?_ ?_
  · dsimp only; rw [List.length_append]; simp; omega
  · dsimp only; omega
  · dsimp only
    rw [h3, List.length_append, show 60 - (out.length + [zCT b].length) = m by simp; omega, List.append_assoc]
    rfl
  · dsimp only; rw [List.length_append]; simp; omega
  refine zAj ?_ ?_ ?_ <;> simp only [push_cast, seval, reduceCtorEq, Int.cast_ofNat_Int]
  · exact (congrArg (sumV s) (zH1 c3 hn'.1)).symm
  · exact ⟨.inl (by rw [List.map_append]; rfl), .inl (by rw [List.map_append]; rfl)⟩
theorem zCJ : ∀ (n : Nat) (b : ByteArray) (s : Int), (zAU n b s).1.length ≤ n
  | 0, _, _ => Nat.le_refl _
  | n + 1, b, s => by
    by_cases h : nxOK b s = true
    · rw [zFC h]
      have := zCJ n (rcut2 b 10) (nxSum b s)
      simp only [List.length_cons]
      omega
    · rw [zBq h]
      exact Nat.zero_le _
theorem zMq {α : Type} (L : List Line) (d : Line) (f : Line → α) {i : Nat} (h : i < L.length) : (L.take i).map f ++ [f (L.getD i d)] = (L.take (i + 1)).map f := by
  rw [List.take_succ_eq_append_getElem h, List.map_append, List.getD_eq_getElem?_getD, List.getElem?_eq_getElem h]
  rfl
set_option maxHeartbeats 4000000 in
theorem zNr : FnSpec Tryz.prog 34 zGW := by
  refine FnSpec.of_tri' (E := know [(85, zIt)] [] [] []) (zAn (all_cons zHF all_nil) all_nil all_nil) Tryz.func34 rfl rfl (by kernel_rfl) ?_
  intro C x hE hnl hfit hpre
  simp only [Tryz.ntmps34, Tryz.results34, maxLen, Nat.reduceSub, Nat.reducePow, Nat.reduceAdd, Int.cast_ofNat_Int, push_cast] at hnl hfit hpre ⊢
  obtain ⟨(book : ByteArray), _⟩ := x
  dsimp only at hfit hpre ⊢
  have hlen := zCJ 60 book 0
  repeat' (first|(refine goK (by assumption) ?_; iterate 4 (try clear hK K))|(refine zAd fun K hK => ?_)|((first|refine zAb hE rfl ?_|refine zAh ?_); simp +contextual only [hnl, ↓kN, ↓kP, ↓kG, ↓qN, ↓qP, ↓qG, push_cast, seval, reduceCtorEq, Int.cast_ofNat_Int])|refine zAc ?_|((first|refine zAg ?_|refine zAf ?_); simp only [thenQ, zAk, if_true, if_false, Nat.reduceEqDiff, reduceCtorEq])|(refine zAe (by rfl) (fun hb => ?_) (fun hb => ?_) <;> (try simp only [b1, b2, b3, b4, reduceCtorEq, b5, b6] at hb) <;> (try omega))|refine zAi (by rfl) ?_ ?_|refine andS ?_|(refine ⟨fun hc => ?_, fun hc => ?_⟩)|(intro hc; try omega))
  refine zAE (t := AS.of [(5, .one (.val (.sl (.prod .str .int)) (zAU 60 book 0).1)), (6, .one (.val .str (zAU 60 book 0).2)), (7, .one .nils), (8, .one .nils), (9, .I 0)] [] []) ?_ ?_
  · refine zAj ?_ ?_ ?_ <;> simp only [push_cast, seval, reduceCtorEq, Int.cast_ofNat_Int]
  generalize hL1 : (zAU 60 book 0).1 = L at hlen ⊢
  generalize hR1 : (zAU 60 book 0).2 = R at ⊢
  refine zAp (fun i : Nat => AS.of [(5, .one (.val (.sl (.prod .str .int)) L)), (6, .one (.val .str R)), (7, .one (.ref 28)), (8, .one (.ref 36)), (9, .I i)] [(28, .flat 9 .str ((L.take i).map Prod.fst)), (36, .flat 3 .int ((L.take i).map Prod.snd))] []) (fun i => i ≤ L.length) (fun i => L.length - i) 0 (Nat.zero_le _) ?_ ?_
  · refine zAj ?_ ?_ ?_ <;> simp only [push_cast, seval, reduceCtorEq, Int.cast_ofNat_Int]
    all_goals first | rfl | omega | exact ⟨by omega, rfl⟩ | skip
  intro i hi K' hL
  have hz : ((L.take i).map Prod.fst).length = i ∧ ((L.take i).map Prod.snd).length = i := by
    rw [List.length_map, List.length_map, List.length_take]
    omega
  replace hnl := And.intro hnl hz
  rcases Nat.lt_or_ge i L.length with h | h
  · repeat' (first|(refine goK (by assumption) ?_; iterate 4 (try clear hK K))|(refine zAd fun K hK => ?_)|((first|refine zAb hE rfl ?_|refine zAh ?_); simp +contextual only [hnl, ↓kN, ↓kP, ↓kG, ↓qN, ↓qP, ↓qG, push_cast, seval, reduceCtorEq, Int.cast_ofNat_Int])|refine zAc ?_|((first|refine zAg ?_|refine zAf ?_); simp only [thenQ, zAk, if_true, if_false, Nat.reduceEqDiff, reduceCtorEq])|(refine zAe (by rfl) (fun hb => ?_) (fun hb => ?_) <;> (try simp only [b1, b2, b3, b4, reduceCtorEq, b5, b6] at hb) <;> (try omega))|refine zAi (by rfl) ?_ ?_|refine andS ?_|(refine ⟨fun hc => ?_, fun hc => ?_⟩)|(intro hc; try omega))
    refine hL _ (i + 1) h (by omega) ?_
    refine zAj ?_ ?_ ?_ <;> simp only [push_cast, seval, reduceCtorEq, Int.cast_ofNat_Int]
    exact ⟨.inl (congrArg _ (zMq L _ _ h)), .inl (congrArg _ (zMq L _ _ h))⟩
  · obtain rfl : i = L.length := by omega
    replace hnl := And.intro hnl (And.intro (List.take_length (l := L)) (And.intro hL1 hR1))
    exact auA
end Go.Proofs.YtlgkplnifaoeeaaGreatDoor
namespace Go.Proofs.YtlgkplnifaoeeaaGreatDoor
open Go.RowKit Go.VS
def fdiff : List Line → List Line → Nat
  | x :: l, y :: m => if x = y then fdiff l m + 1 else 0
  | _, _ => 0
theorem zIm : ∀ (l m : List Line), fdiff l m ≤ l.length ∧ fdiff l m ≤ m.length
  | [], m => ⟨Nat.zero_le _, Nat.zero_le _⟩
  | x :: l, [] => ⟨Nat.zero_le _, Nat.zero_le _⟩
  | x :: l, y :: m => by
    have := zIm l m
    simp only [fdiff, List.length_cons]
    split <;> omega
theorem zIl (d : Line) : ∀ (l m : List Line) (i : Nat), i < fdiff l m → l.getD i d = m.getD i d
  | [], m, i, h => by simp [fdiff] at h
  | x :: l, [], i, h => by simp [fdiff] at h
  | x :: l, y :: m, i, h => by
    simp only [fdiff] at h
    split at h
    · rename_i e
      cases i with
      | zero => exact e
      | succ i => exact zIl d l m i (by omega)
    · omega
theorem zIn (d : Line) : ∀ (l m : List Line), fdiff l m < l.length → fdiff l m < m.length → l.getD (fdiff l m) d ≠ m.getD (fdiff l m) d
  | [], m, h, _ => by simp at h
  | x :: l, [], _, h => by simp at h
  | x :: l, y :: m, h1, h2 => by
    by_cases e : x = y
    · have e2 : fdiff (x :: l) (y :: m) = fdiff l m + 1 := if_pos e
      rw [e2] at h1 h2 ⊢
      exact zIn d l m (by simpa using h1) (by simpa using h2)
    · have e2 : fdiff (x :: l) (y :: m) = 0 := if_neg e
      rw [e2]
      exact e
def mrgV (a b : ByteArray) (p q : List Line × ByteArray) : ByteArray × Int × Int :=
  if p.2 = ByteArray.empty ∧ q.2 = ByteArray.empty then
    if fdiff p.1 q.1 < p.1.length ∧ fdiff p.1 q.1 < q.1.length then (ByteArray.empty, (fdiff p.1 q.1 : Nat), 7)
    else if p.1.length < q.1.length then (b, (q.1.length : Nat), 0) else (a, (p.1.length : Nat), 0)
  else (ByteArray.empty, 0, 11)
theorem zRD {a b r o : ByteArray} {l m : List Line} (h : ¬ (r = ByteArray.empty ∧ o = ByteArray.empty)) : mrgV a b (l, r) (m, o) = (ByteArray.empty, 0, 11) := if_neg h
theorem zRE {a b r o : ByteArray} {l m : List Line} (h : r = ByteArray.empty ∧ o = ByteArray.empty) (h2 : fdiff l m < l.length ∧ fdiff l m < m.length) : mrgV a b (l, r) (m, o) = (ByteArray.empty, ((fdiff l m : Nat) : Int), 7) := by
  unfold mrgV; rw [if_pos h, if_pos h2]
theorem zRF {a b r o : ByteArray} {l m : List Line} (h : r = ByteArray.empty ∧ o = ByteArray.empty) (h2 : ¬ (fdiff l m < l.length ∧ fdiff l m < m.length)) (h3 : l.length < m.length) : mrgV a b (l, r) (m, o) = (b, ((m.length : Nat) : Int), 0) := by
  unfold mrgV; rw [if_pos h, if_neg h2, if_pos h3]
theorem zRG {a b r o : ByteArray} {l m : List Line} (h : r = ByteArray.empty ∧ o = ByteArray.empty) (h2 : ¬ (fdiff l m < l.length ∧ fdiff l m < m.length)) (h3 : ¬ l.length < m.length) : mrgV a b (l, r) (m, o) = (a, ((l.length : Nat) : Int), 0) := by
  unfold mrgV; rw [if_pos h, if_neg h2, if_neg h3]
@[push_cast] def zGi : Con := ⟨[.dat .str, .dat .str], fun (x : ByteArray × ByteArray × Unit) => x.1.size ≤ 1000000 ∧ x.2.1.size ≤ 1000000, fun (x : ByteArray × ByteArray × Unit) =>
  { res := [.val .str (mrgV x.1 x.2.1 (zAU 60 x.1 0) (zAU 60 x.2.1 0)).1, .val .int (mrgV x.1 x.2.1 (zAU 60 x.1 0) (zAU 60 x.2.1 0)).2.1, .val .int (mrgV x.1 x.2.1 (zAU 60 x.1 0) (zAU 60 x.2.1 0)).2.2] }⟩
set_option maxHeartbeats 4000000 in
theorem zLe : FnSpec Tryz.prog 41 zGi := by
  refine FnSpec.of_tri' (E := know [(85, zIt)] [] [] []) (zAn (all_cons zHF all_nil) all_nil all_nil) Tryz.func41 rfl rfl (by kernel_rfl) ?_
  intro C x hE hnl hfit hpre
  simp only [Tryz.ntmps41, Tryz.results41, maxLen, Nat.reduceSub, Nat.reducePow, Nat.reduceAdd, Int.cast_ofNat_Int, push_cast] at hnl hfit hpre ⊢
  obtain ⟨(a : ByteArray), (b : ByteArray), _⟩ := x
  dsimp only at hfit hpre ⊢
  have hem : ({ data := #[] } : ByteArray) = ByteArray.empty := rfl
  have hl1 := zCJ 60 a 0
  have hl2 := zCJ 60 b 0
  obtain ⟨⟨l, r⟩, h1⟩ : ∃ p, zAU 60 a 0 = p := ⟨_, rfl⟩
  obtain ⟨⟨m, o⟩, h2⟩ : ∃ p, zAU 60 b 0 = p := ⟨_, rfl⟩
  rw [h1] at hl1
  rw [h2] at hl2
  dsimp only at hl1 hl2
  by_cases hro : r = ByteArray.empty ∧ o = ByteArray.empty
  rotate_left
  · have hv := zRD (a := a) (b := b) (l := l) (m := m) hro
    by_cases hr : r = ByteArray.empty
    · have ho : ¬ o = ByteArray.empty := fun h => hro ⟨hr, h⟩
      subst hr
      replace hnl := And.intro hnl (And.intro hem (And.intro h1 (And.intro h2 (And.intro (eq_false ho) hv))))
      exact auB
    · replace hnl := And.intro hnl (And.intro hem (And.intro h1 (And.intro h2 (And.intro (eq_false hr) hv))))
      exact auB
  obtain ⟨rfl, rfl⟩ := hro
  have hnl0 := hnl
  replace hnl := And.intro hnl (And.intro hem (And.intro h1 h2))
  repeat' (first|(refine goK (by assumption) ?_; iterate 4 (try clear hK K))|(refine zAd fun K hK => ?_)|((first|refine zAb hE rfl ?_|refine zAh ?_|((first|refine zAa hE 1 rfl rfl (by kernel_rfl) ?_|refine zAa hE 2 rfl rfl (by kernel_rfl) ?_|refine zAa hE 3 rfl rfl (by kernel_rfl) ?_|refine zAa hE 4 rfl rfl (by kernel_rfl) ?_); simp only [List.length_cons, List.length_nil, Nat.reduceAdd, Nat.reduceSub, List.take_succ_cons, List.take_zero, List.drop_succ_cons, List.drop_zero])); simp +contextual only [hnl, ↓kN, ↓kP, ↓kG, ↓qN, ↓qP, ↓qG, push_cast, seval, reduceCtorEq, Int.cast_ofNat_Int])|refine zAc ?_|((first|refine zAg ?_|refine zAf ?_); simp only [thenQ, zAk, if_true, if_false, Nat.reduceEqDiff, reduceCtorEq])|(refine zAe (by rfl) (fun hb => ?_) (fun hb => ?_) <;> (try simp only [b1, b2, b3, b4, reduceCtorEq, b5, b6] at hb) <;> (try omega))|refine zAi (by rfl) ?_ ?_|refine andS ?_|(refine ⟨fun hc => ?_, fun hc => ?_⟩)|(intro hc; try omega))
  refine zAE (t := AS.of [(0, .one (.val .str a)), (1, .one (.val .str b)), (7, .one (.val (.sl (.prod .str .int)) l)), (9, .one (.val (.sl (.prod .str .int)) m)), (11, .I 0)] [] []) ?_ ?_
  · refine zAj ?_ ?_ ?_ <;> simp only [push_cast, seval, reduceCtorEq, Int.cast_ofNat_Int]
  refine zAp (fun i : Nat => AS.of [(0, .one (.val .str a)), (1, .one (.val .str b)), (7, .one (.val (.sl (.prod .str .int)) l)), (9, .one (.val (.sl (.prod .str .int)) m)), (11, .I i)] [] []) (fun i => i ≤ fdiff l m) (fun i => fdiff l m - i) 0 (Nat.zero_le _) ?_ ?_
  · refine zAj ?_ ?_ ?_ <;> simp only [push_cast, seval, reduceCtorEq, Int.cast_ofNat_Int]
  intro i hi K' hL
  have hfl := zIm l m
  rcases Nat.lt_or_ge i (fdiff l m) with hi2 | hi2
  · have he := zIl (ByteArray.empty, 0) l m i hi2
    have c1 : i < l.length := by omega
    have c2 : i < m.length := by omega
    replace hnl := And.intro hnl0 (And.intro hem he)
    repeat' (first|(refine goK (by assumption) ?_; iterate 4 (try clear hK K))|(refine zAd fun K hK => ?_)|((first|refine zAb hE rfl ?_|refine zAh ?_|((first|refine zAa hE 1 rfl rfl (by kernel_rfl) ?_|refine zAa hE 2 rfl rfl (by kernel_rfl) ?_|refine zAa hE 3 rfl rfl (by kernel_rfl) ?_|refine zAa hE 4 rfl rfl (by kernel_rfl) ?_); simp only [List.length_cons, List.length_nil, Nat.reduceAdd, Nat.reduceSub, List.take_succ_cons, List.take_zero, List.drop_succ_cons, List.drop_zero])); simp +contextual only [hnl, ↓kN, ↓kP, ↓kG, ↓qN, ↓qP, ↓qG, push_cast, seval, reduceCtorEq, Int.cast_ofNat_Int])|refine zAc ?_|((first|refine zAg ?_|refine zAf ?_); simp only [thenQ, zAk, if_true, if_false, Nat.reduceEqDiff, reduceCtorEq])|(refine zAe (by rfl) (fun hb => ?_) (fun hb => ?_) <;> (try simp only [b1, b2, b3, b4, reduceCtorEq, b5, b6] at hb) <;> (try omega))|refine zAi (by rfl) ?_ ?_|refine andS ?_|(refine ⟨fun hc => ?_, fun hc => ?_⟩)|(intro hc; try omega))
    refine hL _ (i + 1) hi2 (by omega) ?_
    refine zAj ?_ ?_ ?_ <;> simp only [push_cast, seval, reduceCtorEq, Int.cast_ofNat_Int]
  · obtain rfl : i = fdiff l m := by omega
    by_cases hd : fdiff l m < l.length ∧ fdiff l m < m.length
    · have he := zIn (ByteArray.empty, 0) l m hd.1 hd.2
      have hv := zRE (a := a) (b := b) (r := ByteArray.empty) (o := ByteArray.empty) ⟨rfl, rfl⟩ hd
      have hd1 := hd.1
      have hd2 := hd.2
      replace hnl := And.intro hnl0 (And.intro hem (And.intro (eq_false he) (And.intro h1 (And.intro h2 hv))))
      exact auB
    · by_cases h3 : l.length < m.length
      · have hv := zRF (a := a) (b := b) (r := ByteArray.empty) (o := ByteArray.empty) ⟨rfl, rfl⟩ hd h3
        replace hnl := And.intro hnl0 (And.intro hem (And.intro h1 (And.intro h2 hv)))
        exact auB
      · have hv := zRG (a := a) (b := b) (r := ByteArray.empty) (o := ByteArray.empty) ⟨rfl, rfl⟩ hd h3
        replace hnl := And.intro hnl0 (And.intro hem (And.intro h1 (And.intro h2 hv)))
        exact auB
end Go.Proofs.YtlgkplnifaoeeaaGreatDoor
