import Derived.Test.YtlgkplnifaoeeaaGreatDoorY7
import Derived.Test.YtlgkplnifaoeeaaGreatDoorY5
set_option linter.unusedSimpArgs false
set_option linter.unusedVariables false
namespace Go.Proofs.YtlgkplnifaoeeaaGreatDoor
open Go.RowKit Go.VS
@[push_cast] def zSz : Con := ⟨[.dat (.sl .int), .dat .int], fun _ => True, fun _ => { res := [.val .bool true] }⟩
theorem zPK : FnSpec Tryz.prog 4 zSz := by
  refine FnSpec.of_tri' (E := know [(18, zDU), (21, zI7), (22, zI7), (23, zIX)] [] [] []) (zAm (all_cons zDw (all_cons zFT (all_cons zIL (all_cons zFH all_nil)))) all_nil all_nil) Tryz.func4 rfl rfl (by kernel_rfl) ?_
  intro C x hE hnl hfit hpre
  simp only [Tryz.ntmps4, Tryz.results4, maxLen, Nat.reduceSub, Nat.reducePow, Nat.reduceAdd, Int.cast_ofNat_Int, push_cast] at hnl hfit hpre ⊢
  obtain ⟨(l : List Int), (n : Int), _⟩ := x
  dsimp only at hfit hpre ⊢
  exact auA
end Go.Proofs.YtlgkplnifaoeeaaGreatDoor
